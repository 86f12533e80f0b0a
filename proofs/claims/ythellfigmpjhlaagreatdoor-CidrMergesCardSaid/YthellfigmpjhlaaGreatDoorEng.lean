/- The engine: small laws by which a printed walk goes through a Go function: frames as lists, memory as chunks, one lemma an operation. -/
import Derived.WalkKit
import Derived.Below
import Derived.KernelRfl
import Derived.OrdersHeld
import Derived.Deep.RegionHeld3
import Derived.Deep.LoopGhost
import Derived.Stop.Asserts
namespace Go.Proofs.YthellfigmpjhlaaGreatDoor
open Go Go.RowKit

/-! ### Frames -/
abbrev Env := List (Nat × Value)
def lookO : Env → Nat → Option Value
  | [], _ => none
  | (j, v) :: t, i => match Nat.beq i j with | true => some v | false => lookO t i
def look (E : Env) (i : Nat) : Value := match lookO E i with | some v => v | none => undef
def rho (E : Env) : Operand → Value
  | .tmp t => look E t
  | .const v => v
  | .global g => .pointer (some ⟨g, 0, none⟩)
  | .func f => .func (.func f) #[] #[]
def covX (E : Env) : Operand → Bool
  | .tmp t => (lookO E t).isSome
  | _ => true
def cov (E : Env) (o : Oper) : Bool := (match o.op with | .select .. => false | _ => true) && o.op.operands.toList.all (covX E)

structure Fr (n : Nat) (a : Act) (E : Env) : Prop where
  size : a.tmps.size = n
  defers : a.defers = []
  get : ∀ i v, lookO E i = some v → a.tmps[i]? = some v

section
variable {n : Nat} {a : Act} {E : Env}

theorem Fr.eval (h : Fr n a E) {x : Operand} (hc : covX E x = true) : a.eval x = rho E x := by
  cases x with
  | tmp t =>
    simp only [covX, Option.isSome_iff_exists] at hc
    obtain ⟨v, hv⟩ := hc
    have h1 := h.get t v hv
    have h2 : look E t = v := by simp only [look, hv]
    simp only [Act.eval, rho, h2, Array.getD_eq_getD_getElem?, h1, Option.getD_some]
  | const v => rfl
  | global g => rfl
  | func f => rfl

theorem Fr.exec (h : Fr n a E) {o : Oper} (hc : cov E o = true) : execOp a.eval o = execOp (rho E) o := by
  simp only [cov, Bool.and_eq_true] at hc
  refine execOp_congr o (fun cs b e => by rw [e] at hc; exact absurd hc.1 (by simp)) fun x hx => h.eval ?_
  exact List.all_eq_true.1 hc.2 x (Array.mem_toList_iff.2 hx)

def wantE (ops : Array Oper) (E : Env) (o : Oper) : Option Bool :=
  match o.guard with
  | none => some true
  | some (j, want) =>
    match (ops[j]?).bind (·.dst) with
    | some d => match lookO E d with
      | some (.bool b) => some (b == want)
      | some _ => some false
      | none => none
    | none => none

theorem Fr.want (h : Fr n a E) {ops : Array Oper} {o : Oper} {r : Bool} (hw : wantE ops E o = some r) : Region.wanted o (yielded ops a.tmps) = r := by
  unfold wantE at hw
  unfold Region.wanted
  cases hg : o.guard with
  | none => simp only [hg] at hw ⊢; exact Option.some.inj hw
  | some p =>
    obtain ⟨j, want⟩ := p
    simp only [hg] at hw ⊢
    unfold yielded
    cases hd : (ops[j]?).bind (·.dst) with
    | none => simp [hd] at hw
    | some d =>
      simp only [hd] at hw
      cases hl : lookO E d with
      | none => simp [hl] at hw
      | some v =>
        have h1 := h.get d v hl
        simp only [hl] at hw
        cases v <;> simp only [Option.some.injEq] at hw <;> simp only [Option.bind_some, h1] <;> rw [← hw] <;> rfl

def putE (dst : Option Tmp) (v : Value) (E : Env) : Env := match dst with | some d => (d, v) :: E | none => E
def dstLt (dst : Option Tmp) (n : Nat) : Bool := match dst with | some d => Nat.blt d n | none => true

theorem Fr.put (h : Fr n a E) {dst : Option Tmp} (hd : dstLt dst n = true) (v : Value) : Fr n (a.put dst v) (putE dst v E) := by
  cases dst with
  | none => exact h
  | some d =>
    have hd' : d < n := by simpa [dstLt, Nat.blt_eq] using hd
    refine ⟨by simp [Act.put, h.size], by simp [Act.put, h.defers], fun i u hi => ?_⟩
    simp only [putE, lookO] at hi
    simp only [Act.put, Array.getElem?_setIfInBounds]
    cases hb : Nat.beq i d with
    | true =>
      have : i = d := Nat.eq_of_beq_eq_true hb
      subst this
      simp only [hb] at hi
      rw [if_pos rfl, if_pos (by rw [h.size]; exact hd'), hi]
    | false =>
      have hne : d ≠ i := fun e => by rw [e, Nat.beq_refl] at hb; cases hb
      simp only [hb] at hi
      rw [if_neg hne]
      exact h.get i u hi

def AllIn (E : Env) : Env → Prop
  | [] => True
  | (i, v) :: t => lookO E i = some v ∧ AllIn E t

theorem Fr.restrict (h : Fr n a E) : ∀ {E' : Env}, AllIn E E' → Fr n a E'
  | [], _ => ⟨h.size, h.defers, fun i v hi => by simp [lookO] at hi⟩
  | (j, u) :: t, hh => ⟨h.size, h.defers, fun i v hi => by
      simp only [lookO] at hi
      cases hb : Nat.beq i j with
      | true =>
        have : i = j := Nat.eq_of_beq_eq_true hb
        subst this
        simp only [hb, Option.some.injEq] at hi
        subst hi
        exact h.get i u hh.1
      | false =>
        simp only [hb] at hi
        exact (h.restrict hh.2).get i v hi⟩

/-- The first slots of a frame: the arguments. -/
def argsE (args : Array Value) : Nat → Env
  | 0 => []
  | k + 1 => match args[k]? with | some v => (k, v) :: argsE args k | none => argsE args k

theorem lookO_argsE (args : Array Value) : ∀ (k i : Nat) (v : Value), lookO (argsE args k) i = some v → args[i]? = some v
  | 0, i, v, h => by simp [argsE, lookO] at h
  | k + 1, i, v, h => by
    unfold argsE at h
    cases hk : args[k]? with
    | none => simp only [hk] at h; exact lookO_argsE args k i v h
    | some u =>
      simp only [hk, lookO] at h
      cases hb : Nat.beq i k with
      | true =>
        have : i = k := Nat.eq_of_beq_eq_true hb
        subst this
        simp only [hb] at h
        rw [hk, h]
      | false => simp only [hb] at h; exact lookO_argsE args k i v h

theorem Fr.enter (args : Array Value) (m : Nat) (hm : args.size ≤ m) : Fr m { tmps := args ++ Array.replicate (m - args.size) undef, defers := [] } (argsE args args.size) := by
  refine ⟨by simp; omega, rfl, fun i v hi => ?_⟩
  have h := lookO_argsE args _ i v hi
  have hlt : i < args.size := by
    rcases Nat.lt_or_ge i args.size with h' | h'
    · exact h'
    · rw [Array.getElem?_eq_none h'] at h; cases h
  rw [Array.getElem?_append_left hlt]
  exact h
end

/-! ### Memory -/
abbrev Heap := Nat → Option Obj
def heapF (w : World) : Heap := fun b => w.heap[b]?

structure Chunk where
  fp : Nat → Prop
  holds : Heap → Prop
  loc : ∀ h h' : Heap, (∀ b, fp b → h b = h' b) → holds h → holds h'

def Chunk.blk (b : Nat) (o : Obj) : Chunk := ⟨(· = b), fun h => h b = some o, fun _ _ e hh => by rw [← e b rfl]; exact hh⟩

/-- What may differ in old memory: the blocks that may be written; dr: is it told that the count of draws has not gone down? -/
structure Ext where
  blk : Nat → Prop
  dr : Bool

structure Own (w0 : World) (X : Ext) (L : List Chunk) (W : World) : Prop where
  os : W.os = w0.os
  tape : W.tape = w0.tape
  output : W.output = w0.output
  size : w0.heap.size ≤ W.heap.size
  old : ∀ b, b < w0.heap.size → ¬ X.blk b → W.heap[b]? = w0.heap[b]?
  drawn : X.dr = true → w0.drawn ≤ W.drawn
  holds : ∀ c ∈ L, c.holds (heapF W)
  alive : ∀ c ∈ L, ∀ b, c.fp b → b < W.heap.size
  fresh : ∀ c ∈ L, ∀ b, c.fp b → w0.heap.size ≤ b ∨ X.blk b
  disj : L.Pairwise fun c d => ∀ b, c.fp b → ¬ d.fp b

def noX : Ext := ⟨fun _ => False, false⟩
def noD : Ext := ⟨fun _ => False, true⟩

section
variable {w0 W W' : World} {X : Ext} {L : List Chunk}

theorem Own.start (w : World) (X : Ext) : Own w X [] w :=
  ⟨rfl, rfl, rfl, Nat.le_refl _, fun _ _ _ => rfl, fun _ => Nat.le_refl _, by simp, by simp, by simp, List.Pairwise.nil⟩

/-- The beginning where chunks of the caller's are handed in. -/
theorem Own.startWith (w : World) (L : List Chunk) (h1 : ∀ c ∈ L, c.holds (heapF w)) (h2 : ∀ c ∈ L, ∀ b, c.fp b → b < w.heap.size) (h3 : L.Pairwise fun c d => ∀ b, c.fp b → ¬ d.fp b) :
    Own w ⟨fun b => ∃ c ∈ L, c.fp b, true⟩ L w :=
  ⟨rfl, rfl, rfl, Nat.le_refl _, fun _ _ _ => rfl, fun _ => Nat.le_refl _, h1, h2, fun c hc _ hb => .inr ⟨c, hc, hb⟩, h3⟩

theorem Own.drewN (h : Own w0 X L W) (k : Nat) : Own w0 X L { W with drawn := W.drawn + k } := ⟨h.os, h.tape, h.output, h.size, h.old, fun hd => Nat.le_trans (h.drawn hd) (Nat.le_add_right _ _), h.holds, h.alive, h.fresh, h.disj⟩
theorem Own.drew (h : Own w0 X L W) : Own w0 X L W.drew := h.drewN 1

theorem Own.sub {L' : List Chunk} (h : Own w0 X L W) (hs : L'.Sublist L) : Own w0 X L' W :=
  ⟨h.os, h.tape, h.output, h.size, h.old, h.drawn, fun c hc => h.holds c (hs.subset hc), fun c hc => h.alive c (hs.subset hc), fun c hc => h.fresh c (hs.subset hc), h.disj.sublist hs⟩

theorem Own.nil (h : Own w0 X L W) : Own w0 X [] W := h.sub (List.nil_sublist _)

/-- W' is W but for new blocks; L' lies in new blocks. -/
theorem Own.call {L' : List Chunk} {Y : Ext} (h : Own w0 X L W) (k : Own W Y L' W') (hY : ∀ b, ¬ Y.blk b) (hd : X.dr = true → Y.dr = true) : Own w0 X (L' ++ L) W' := by
  have hold : ∀ b, b < W.heap.size → W'.heap[b]? = W.heap[b]? := fun b hb => k.old b hb (hY b)
  refine ⟨k.os.trans h.os, k.tape.trans h.tape, k.output.trans h.output, Nat.le_trans h.size k.size, fun b hb hx => (hold b (Nat.lt_of_lt_of_le hb h.size)).trans (h.old b hb hx), fun q => Nat.le_trans (h.drawn q) (k.drawn (hd q)), ?_, ?_, ?_, ?_⟩
  · intro c hc
    rcases List.mem_append.1 hc with hc | hc
    · exact k.holds c hc
    · exact c.loc _ _ (fun b hb => (hold b (h.alive c hc b hb)).symm) (h.holds c hc)
  · intro c hc b hb
    rcases List.mem_append.1 hc with hc | hc
    · exact k.alive c hc b hb
    · exact Nat.lt_of_lt_of_le (h.alive c hc b hb) k.size
  · intro c hc b hb
    rcases List.mem_append.1 hc with hc | hc
    · rcases k.fresh c hc b hb with h' | h'
      · exact .inl (Nat.le_trans h.size h')
      · exact (hY b h').elim
    · exact h.fresh c hc b hb
  · refine List.pairwise_append.2 ⟨k.disj, h.disj, fun c hc d hd b hb hb' => ?_⟩
    have h1 := h.alive d hd b hb'
    rcases k.fresh c hc b hb with h' | h'
    · omega
    · exact (hY b h').elim

/-- .. and where the callee was handed chunks of L (all that it may write: X'), which it gives back turned: L splits into what it got (D) and the rest (K). -/
theorem Own.callX {X' : Ext} {L' D K : List Chunk} (h : Own w0 X L W) (hp : L.Perm (D ++ K)) (hX : ∀ b, X'.blk b → ∃ c ∈ D, c.fp b) (hdr : X.dr = true → X'.dr = true) (k : Own W X' L' W') : Own w0 X (L' ++ K) W' := by
  have hmem : ∀ c, c ∈ D ∨ c ∈ K → c ∈ L := fun c hc => hp.mem_iff.2 (List.mem_append.2 hc)
  have hd : (D ++ K).Pairwise fun c d => ∀ b, c.fp b → ¬ d.fp b := hp.pairwise h.disj (fun {c d} hcd b hb hb' => hcd b hb' hb)
  obtain ⟨_, hK, hDK⟩ := List.pairwise_append.1 hd
  have hnX : ∀ c ∈ K, ∀ b, c.fp b → ¬ X'.blk b := fun c hc b hb hx => by
    obtain ⟨d, hd, hdb⟩ := hX b hx
    exact hDK d hd c hc b hdb hb
  refine ⟨k.os.trans h.os, k.tape.trans h.tape, k.output.trans h.output, Nat.le_trans h.size k.size, fun b hb hx => ?_, fun q => Nat.le_trans (h.drawn q) (k.drawn (hdr q)), ?_, ?_, ?_, ?_⟩
  · refine (k.old b (Nat.lt_of_lt_of_le hb h.size) (fun hx' => ?_)).trans (h.old b hb hx)
    obtain ⟨d, hd, hdb⟩ := hX b hx'
    rcases h.fresh d (hmem d (.inl hd)) b hdb with h' | h'
    · omega
    · exact hx h'
  · intro c hc
    rcases List.mem_append.1 hc with hc | hc
    · exact k.holds c hc
    · exact c.loc _ _ (fun b hb => (k.old b (h.alive c (hmem c (.inr hc)) b hb) (hnX c hc b hb)).symm) (h.holds c (hmem c (.inr hc)))
  · intro c hc b hb
    rcases List.mem_append.1 hc with hc | hc
    · exact k.alive c hc b hb
    · exact Nat.lt_of_lt_of_le (h.alive c (hmem c (.inr hc)) b hb) k.size
  · intro c hc b hb
    rcases List.mem_append.1 hc with hc | hc
    · rcases k.fresh c hc b hb with h' | h'
      · exact .inl (Nat.le_trans h.size h')
      · obtain ⟨d, hd, hdb⟩ := hX b h'
        exact h.fresh d (hmem d (.inl hd)) b hdb
    · exact h.fresh c (hmem c (.inr hc)) b hb
  · refine List.pairwise_append.2 ⟨k.disj, hK, fun c hc d hd b hb hb' => ?_⟩
    have h1 := h.alive d (hmem d (.inr hd)) b hb'
    rcases k.fresh c hc b hb with h' | h'
    · omega
    · exact hnX d hd b hb' h'

theorem heap_alloc_new (W : World) (o : Obj) : (W.alloc o).heap[W.heap.size]? = some o := by
  show (W.heap.push o)[W.heap.size]? = _
  simp

theorem Own.newBlk (W : World) (o : Obj) : Own W noD [.blk W.heap.size o] (W.alloc o) := by
  refine ⟨rfl, rfl, rfl, by simp, fun b hb _ => Below.heap_alloc _ _ _ hb, fun _ => Nat.le_refl _, ?_, ?_, ?_, List.pairwise_singleton _ _⟩
  · intro c hc; rw [List.mem_singleton] at hc; subst hc; exact heap_alloc_new W o
  · intro c hc b hb; rw [List.mem_singleton] at hc; subst hc; rw [show b = W.heap.size from hb]; simp
  · intro c hc b hb; rw [List.mem_singleton] at hc; subst hc; rw [show b = W.heap.size from hb]; exact .inl (Nat.le_refl _)

theorem Own.alloc (h : Own w0 X L W) (o : Obj) : Own w0 X (.blk W.heap.size o :: L) (W.alloc o) := h.call (Own.newBlk W o) (fun _ x => x) (fun _ => rfl)

/-- Chunk c of the list is d in the other list. -/
inductive Upd (c d : Chunk) : List Chunk → List Chunk → Prop
  | head (t : List Chunk) : Upd c d (c :: t) (d :: t)
  | tail {x : Chunk} {t t' : List Chunk} : Upd c d t t' → Upd c d (x :: t) (x :: t')

theorem Upd.mem {c d : Chunk} {L L' : List Chunk} (h : Upd c d L L') : c ∈ L := by
  induction h with
  | head t => exact List.mem_cons_self
  | tail _ ih => exact List.mem_cons_of_mem _ ih

theorem Upd.mem' {c d : Chunk} {L L' : List Chunk} (h : Upd c d L L') : ∀ x ∈ L', x = d ∨ (x ∈ L) := by
  induction h with
  | head t => intro x hx; rcases List.mem_cons.1 hx with rfl | hx; exact .inl rfl; exact .inr (List.mem_cons_of_mem _ hx)
  | tail _ ih =>
    intro x hx
    rcases List.mem_cons.1 hx with rfl | hx
    · exact .inr List.mem_cons_self
    · exact (ih x hx).imp id (List.mem_cons_of_mem _)

theorem Upd.pair {c d : Chunk} (hf : ∀ b, d.fp b → c.fp b) {L L' : List Chunk} (h : Upd c d L L') (hp : L.Pairwise fun c d => ∀ b, c.fp b → ¬ d.fp b) : L'.Pairwise fun c d => ∀ b, c.fp b → ¬ d.fp b := by
  induction h with
  | head t =>
    rw [List.pairwise_cons] at hp ⊢
    exact ⟨fun x hx b hb => hp.1 x hx b (hf b hb), hp.2⟩
  | tail hu ih =>
    rw [List.pairwise_cons] at hp ⊢
    refine ⟨fun x hx b hb hb' => ?_, ih hp.2⟩
    rcases hu.mem' x hx with rfl | hx'
    · exact hp.1 c hu.mem b hb (hf b hb')
    · exact hp.1 x hx' b hb hb'

/-- What is not c itself lies apart from c. -/
theorem Upd.rest {c d : Chunk} {L L' : List Chunk} (h : Upd c d L L') (hp : L.Pairwise fun c d => ∀ b, c.fp b → ¬ d.fp b) : ∀ x ∈ L', x = d ∨ (x ∈ L ∧ ∀ b, x.fp b → ¬ c.fp b) := by
  induction h with
  | head t =>
    intro x hx
    rw [List.pairwise_cons] at hp
    rcases List.mem_cons.1 hx with rfl | hx
    · exact .inl rfl
    · exact .inr ⟨List.mem_cons_of_mem _ hx, fun b hb hb' => hp.1 x hx b hb' hb⟩
  | tail hu ih =>
    intro x hx
    rw [List.pairwise_cons] at hp
    rcases List.mem_cons.1 hx with rfl | hx
    · exact .inr ⟨List.mem_cons_self, fun b hb hb' => hp.1 c hu.mem b hb hb'⟩
    · exact (ih hp.2 x hx).imp id fun ⟨h1, h2⟩ => ⟨List.mem_cons_of_mem _ h1, h2⟩

/-- One block of L is written. -/
theorem Own.write {b : Nat} {o o' : Obj} {L' : List Chunk} (h : Own w0 X L W) (hu : Upd (.blk b o) (.blk b o') L L') (h1 : W'.os = W.os) (h2 : W'.tape = W.tape) (h3 : W'.output = W.output) (h7 : W.drawn ≤ W'.drawn)
    (h4 : W'.heap.size = W.heap.size) (h5 : W'.heap[b]? = some o') (h6 : ∀ k, k ≠ b → W'.heap[k]? = W.heap[k]?) : Own w0 X L' W' := by
  have hb := h.alive _ hu.mem b rfl
  refine ⟨h1.trans h.os, h2.trans h.tape, h3.trans h.output, by rw [h4]; exact h.size, fun k hk hx => ?_, fun q => Nat.le_trans (h.drawn q) h7, fun c hc => ?_, fun c hc k hk => ?_, fun c hc k hk => ?_, Upd.pair (c := .blk b o) (d := .blk b o') (fun _ e => e) hu h.disj⟩
  · refine (h6 k (fun e => ?_)).trans (h.old k hk hx)
    subst e
    rcases h.fresh _ hu.mem k rfl with h' | h'
    · omega
    · exact hx h'
  · rcases hu.rest h.disj c hc with rfl | ⟨hc', hap⟩
    · exact h5
    · exact c.loc _ _ (fun k hk => (h6 k (fun e => hap k hk e)).symm) (h.holds c hc')
  · rw [h4]
    rcases hu.mem' c hc with rfl | hc'
    · rw [show k = b from hk]; exact hb
    · exact h.alive c hc' k hk
  · rcases hu.mem' c hc with rfl | hc'
    · rw [show k = b from hk]; exact h.fresh _ hu.mem b rfl
    · exact h.fresh c hc' k hk

theorem Own.blk {b : Nat} {o : Obj} (h : Own w0 X L W) (hm : Chunk.blk b o ∈ L) : W.heap[b]? = some o := h.holds _ hm

theorem Own.cell {b off : Nat} {cs : Array Value} {T : TypeId} {fr : Nat × Nat} (h : Own w0 X L W) (hm : Chunk.blk b (.cells cs T fr) ∈ L) : W.cell? ⟨b, off, none⟩ = cs[off]? := by
  have hb := h.blk hm
  simp only [World.cell?, hb]
  rfl

theorem Own.oldCell {b off : Nat} {v : Value} (h : Own w0 X L W) (hb : b < w0.heap.size) (hx : ¬ X.blk b) (hc : w0.cell? ⟨b, off, none⟩ = some v) : W.cell? ⟨b, off, none⟩ = some v := by
  rw [← hc]
  exact World.cell?_of_block (w := w0) (h.old b hb hx)
end

theorem lt_of_cell {w : World} {b off : Nat} {v : Value} (h : w.cell? ⟨b, off, none⟩ = some v) : b < w.heap.size := by
  unfold World.cell? at h
  rcases Nat.lt_or_ge b w.heap.size with h' | h'
  · exact h'
  · simp [Array.getElem?_eq_none h'] at h

/-! ### Loads and stores -/
def aggT (P : Program) (T : TypeId) : Option Bool := match P.underlying T with | some (.struct _) => some true | some (.array _ _) => some true | some _ => some false | none => none
def sizeT (P : Program) (T : TypeId) : Option Nat := (P.info? T).map (·.size)

section
variable {P : Program} {W : World} {T : TypeId}

theorem run_isAgg {r : Bool} (h : aggT P T = some r) : (isAgg T).run P W = .ok r W := by
  unfold aggT at h
  unfold isAgg underlying
  cases hu : P.underlying T with
  | none => simp [hu] at h
  | some d =>
    simp only [hu] at h
    cases d <;> simp only [Option.some.injEq] at h <;> subst h <;> simp [Sem.run_bind, program, Sem.run, Result.andThen, hu]

theorem run_sizeOf {k : Nat} (h : sizeT P T = some k) : (sizeOf T).run P W = .ok k W := by
  unfold sizeT at h
  unfold sizeOf typeInfo
  cases hu : P.info? T with
  | none => simp [hu] at h
  | some i =>
    simp only [hu, Option.map_some, Option.some.injEq] at h
    subst h
    simp [Sem.run_bind, program, Sem.run, Result.andThen, hu]

theorem run_load1 {b off : Nat} {v : Value} (hA : aggT P T = some false) (hc : W.cell? ⟨b, off, none⟩ = some v) : (Instr.loadAt T (.pointer (some ⟨b, off, none⟩))).run P W = .ok v W := by
  unfold Instr.loadAt Instr.sureAddr loadVar
  simp only [Sem.run_bind, Sem.run_pure, Result.andThen_ok, run_isAgg hA]
  simp only [Bool.false_eq_true, if_false]
  unfold load
  simp only [Sem.run, hc]

theorem addr_add (b off i : Nat) : (⟨b, off, none⟩ : Addr).add i = ⟨b, off + i, none⟩ := by
  unfold Addr.add
  split
  · rename_i h; subst h; rfl
  · rfl

theorem run_loadCellsFrom' (b off : Nat) (cs : List Value) : ∀ (k i : Nat) (acc : Array Value), i + k = cs.length → (∀ j v, cs[j]? = some v → W.cell? ⟨b, off + j, none⟩ = some v) →
    (loadCellsFrom ⟨b, off, none⟩ i k acc).run P W = .ok (acc ++ (cs.drop i).toArray) W
  | 0, i, acc, hk, _ => by
    have : cs.drop i = [] := List.drop_eq_nil_of_le (by omega)
    simp [loadCellsFrom, this]
  | k + 1, i, acc, hk, hc => by
    have hlt : i < cs.length := by omega
    unfold loadCellsFrom
    have h1 := hc i cs[i] (List.getElem?_eq_getElem hlt)
    have h2 : (load ((⟨b, off, none⟩ : Addr).add i)).run P W = .ok cs[i] W := by
      unfold load
      rw [addr_add]
      simp only [Sem.run, h1]
    simp only [Sem.run_bind, h2, Result.andThen_ok]
    rw [run_loadCellsFrom' b off cs k (i + 1) _ (by omega) hc, List.drop_eq_getElem_cons hlt]
    simp

theorem run_loadN {b off k : Nat} {cs : List Value} (hA : aggT P T = some true) (hs : sizeT P T = some k) (hk : cs.length = k) (hc : ∀ j v, cs[j]? = some v → W.cell? ⟨b, off + j, none⟩ = some v) :
    (Instr.loadAt T (.pointer (some ⟨b, off, none⟩))).run P W = .ok (.agg cs.toArray) W := by
  unfold Instr.loadAt Instr.sureAddr loadVar
  simp only [Sem.run_bind, Sem.run_pure, Result.andThen_ok, run_isAgg hA]
  simp only [if_true, Sem.run_bind, run_sizeOf hs, Result.andThen_ok]
  unfold loadCells
  rw [run_loadCellsFrom' b off cs k 0 _ (by omega) hc]
  simp

/-- The cells of a block with the ones of 'new' from 'off' on in their place. -/
def splice (cs : Array Value) (off : Nat) : List Value → Array Value
  | [] => cs
  | v :: t => splice (cs.setIfInBounds off v) (off + 1) t

theorem run_storeCells' {b : Nat} {E : TypeId} : ∀ (vs : List Value) (off i : Nat) (cs : Array Value) (W : World), W.heap[b]? = some (.cells cs E (0, 0)) → off + i + vs.length ≤ cs.size → vs.all (·.oneCell') = true →
    ∃ W', (storeCells ⟨b, off, none⟩ vs i).run P W = .ok () W' ∧ W'.os = W.os ∧ W'.tape = W.tape ∧ W'.output = W.output ∧ W'.drawn = W.drawn ∧ W'.heap.size = W.heap.size ∧
      W'.heap[b]? = some (.cells (splice cs (off + i) vs) E (0, 0)) ∧ ∀ k, k ≠ b → W'.heap[k]? = W.heap[k]?
  | [], off, i, cs, W, hb, _, _ => ⟨W, by simp [storeCells], rfl, rfl, rfl, rfl, rfl, hb, fun _ _ => rfl⟩
  | v :: t, off, i, cs, W, hb, hl, h1 => by
    simp only [List.all_cons, Bool.and_eq_true] at h1
    simp only [List.length_cons] at hl
    have hlt : off + i < cs.size := by omega
    have hc : W.cell? ⟨b, off + i, none⟩ = some cs[off + i] := by
      simp only [World.cell?, hb]
      simp [hlt]
    have hf : W.frozen? ⟨b, off + i, none⟩ = false := by
      simp [World.frozen?, hb]
    have hst : (store ((⟨b, off, none⟩ : Addr).add i) v).run P W = .ok () (W.setCell ⟨b, off + i, none⟩ v) := by
      unfold store
      rw [addr_add]
      have h11 := h1.1
      cases v <;> first
        | (simp [Value.oneCell'] at h11; done)
        | (simp only [Sem.run, hc, hf]; simp)
    have hb' : (W.setCell ⟨b, off + i, none⟩ v).heap[b]? = some (.cells (cs.setIfInBounds (off + i) v) E (0, 0)) := by
      simp [World.setCell, Array.getElem?_modify, hb]
    obtain ⟨W', hr, e1, e2, e3, e7, e4, e5, e6⟩ := run_storeCells' t off (i + 1) (cs.setIfInBounds (off + i) v) _ hb' (by simp; omega) h1.2
    refine ⟨W', ?_, e1, e2, e3, e7, by rw [e4]; simp, ?_, fun k hk => ?_⟩
    · simp only [storeCells, Sem.run_bind, hst, Result.andThen_ok]
      exact hr
    · rw [e5]; rfl
    · rw [e6 k hk]; exact Below.heap_setCell _ _ _ _ hk

theorem run_storeAt {w0 : World} {X : Ext} {L L' : List Chunk} {b off : Nat} {cs cs' : Array Value} {E : TypeId} {v : Value} {k : Nat} (h : Own w0 X L W) (hs : sizeT P T = some k) (hk : v.cells.size = k)
    (h1 : v.cells.toList.all (·.oneCell') = true) (hl : off + k ≤ cs.size) (he : splice cs off v.cells.toList = cs') (hu : Upd (.blk b (.cells cs E (0, 0))) (.blk b (.cells cs' E (0, 0))) L L') :
    ∃ W', (Instr.storeAt T (.pointer (some ⟨b, off, none⟩)) v).run P W = .ok () W' ∧ Own w0 X L' W' := by
  have hb := h.blk hu.mem
  obtain ⟨W', hr, e1, e2, e3, e7, e4, e5, e6⟩ := run_storeCells' (P := P) v.cells.toList off 0 cs W hb (by simp; omega) h1
  refine ⟨W', ?_, h.write hu e1 e2 e3 (by rw [e7]; exact Nat.le_refl _) e4 (by rw [e5, ← he]; rfl) e6⟩
  unfold Instr.storeAt Instr.sureAddr storeVar
  simp only [Sem.run_bind, Sem.run_pure, Result.andThen_ok, run_sizeOf hs]
  rw [if_neg (by rw [hk]; simp)]
  exact hr
end

/-! ### One operation -/
/-- What a call hands back, if it returns. -/
def Ret (P : Program) (f : FuncId) (args : Array Value) (W : World) (R : Value → World → Prop) : Prop :=
  Calls P f args W fun e W' => ∃ v, e = .returned v ∧ R v W'

theorem Ret.mono {P : Program} {f : FuncId} {args : Array Value} {W : World} {R R' : Value → World → Prop} (h : Ret P f args W R) (hr : ∀ v W', R v W' → R' v W') : Ret P f args W R' :=
  Calls.mono h fun _ _ ⟨v, he, hv⟩ => ⟨v, he, hr _ _ hv⟩

theorem Ret.of {P : Program} {f : FuncId} {args : Array Value} {W : World} {R : Value → World → Prop} {R0 : Ending → World → Prop} (h : Calls P f args W R0) (hr : ∀ e W', R0 e W' → ∃ v, e = .returned v ∧ R v W') : Ret P f args W R :=
  Calls.mono h hr

def OpK (P : Program) (ops : Array Oper) (Q : Exit → Act → World → Prop) (o : Oper) (K : Act → World → Prop) (a : Act) (W : World) : Prop :=
  if Region.wanted o (yielded ops a.tmps) then o.wp P a W K Q ∨ (o.asks P a W ∧ LetsOut Q) else K (a.put o.dst undef) W

section
variable {P : Program} {ops : Array Oper} {Q : Exit → Act → World → Prop} {o : Oper} {K : Act → World → Prop} {a : Act} {W W' : World} {n : Nat} {E : Env} {v : Value} {rest : List Oper}

theorem OpK.list (h : OpK P ops Q o (wpList P ops Q rest) a W) : wpList P ops Q (o :: rest) a W := h

theorem OpK.any {i : Nat} (hi : ops[i]? = some o) (h : OpK P ops Q o K a W) : wpOp P ops Q i K a W := by
  unfold wpOp
  simp only [hi]
  exact h

theorem OpK.valW (hF : Fr n a E) (hc : cov E o = true) (hw : wantE ops E o = some true) (hr : (execOp (rho E) o).run P W = .ok (.value v) W') (hd : dstLt o.dst n = true)
    (hn : ∀ a', Fr n a' (putE o.dst v E) → K a' W') : OpK P ops Q o K a W := by
  unfold OpK
  rw [if_pos (hF.want hw)]
  refine .inl ?_
  unfold Oper.wp
  rw [hF.exec hc, hr]
  exact hn _ (hF.put hd v)

theorem OpK.val (hF : Fr n a E) (hc : cov E o = true) (hw : wantE ops E o = some true) (hr : (execOp (rho E) o).run P W = .ok (.value v) W) (hd : dstLt o.dst n = true)
    (hn : ∀ a', Fr n a' (putE o.dst v E) → K a' W) : OpK P ops Q o K a W := OpK.valW hF hc hw hr hd hn

theorem OpK.skip (hF : Fr n a E) (hc : cov E o = true) (hw : wantE ops E o = some true) (hr : (execOp (rho E) o).run P W = .ok .skip W') (hd : dstLt o.dst n = true)
    (hn : ∀ a', Fr n a' (putE o.dst undef E) → K a' W') : OpK P ops Q o K a W := by
  unfold OpK
  rw [if_pos (hF.want hw)]
  refine .inl ?_
  unfold Oper.wp
  rw [hF.exec hc, hr]
  exact hn _ (hF.put hd undef)

theorem OpK.off (hF : Fr n a E) (hw : wantE ops E o = some false) (hd : dstLt o.dst n = true) (hn : ∀ a', Fr n a' (putE o.dst undef E) → K a' W) : OpK P ops Q o K a W := by
  unfold OpK
  rw [if_neg (by rw [hF.want hw]; simp)]
  exact hn _ (hF.put hd undef)

theorem OpK.call {f : FuncId} {args : Array Value} {R : Value → World → Prop} (hF : Fr n a E) (hc : cov E o = true) (hw : wantE ops E o = some true) (hr : (execOp (rho E) o).run P W = .ok (.enter f args) W) (hd : dstLt o.dst n = true)
    (hC : Ret P f args W R) (hn : ∀ v W' a', R v W' → Fr n a' (putE o.dst v E) → K a' W') : OpK P ops Q o K a W := by
  unfold OpK
  rw [if_pos (hF.want hw)]
  refine .inl ?_
  unfold Oper.wp
  rw [hF.exec hc, hr, Oper.upon_enter]
  refine Calls.mono hC fun e W' he => ?_
  obtain ⟨v, rfl, hv⟩ := he
  exact hn v W' _ hv (hF.put hd v)

/-! in the text's order -/
theorem L_val (hF : Fr n a E) (hc : cov E o = true) (hw : wantE ops E o = some true) (hr : (execOp (rho E) o).run P W = .ok (.value v) W) (hd : dstLt o.dst n = true)
    (hn : ∀ a', Fr n a' (putE o.dst v E) → wpList P ops Q rest a' W) : wpList P ops Q (o :: rest) a W := OpK.list (OpK.val hF hc hw hr hd hn)
theorem L_skip (hF : Fr n a E) (hc : cov E o = true) (hw : wantE ops E o = some true) (hr : (execOp (rho E) o).run P W = .ok .skip W') (hd : dstLt o.dst n = true)
    (hn : ∀ a', Fr n a' (putE o.dst undef E) → wpList P ops Q rest a' W') : wpList P ops Q (o :: rest) a W := OpK.list (OpK.skip hF hc hw hr hd hn)
theorem L_off (hF : Fr n a E) (hw : wantE ops E o = some false) (hd : dstLt o.dst n = true) (hn : ∀ a', Fr n a' (putE o.dst undef E) → wpList P ops Q rest a' W) : wpList P ops Q (o :: rest) a W := OpK.list (OpK.off hF hw hd hn)
theorem L_call {f : FuncId} {args : Array Value} {R : Value → World → Prop} (hF : Fr n a E) (hc : cov E o = true) (hw : wantE ops E o = some true) (hr : (execOp (rho E) o).run P W = .ok (.enter f args) W) (hd : dstLt o.dst n = true)
    (hC : Ret P f args W R) (hn : ∀ v W' a', R v W' → Fr n a' (putE o.dst v E) → wpList P ops Q rest a' W') : wpList P ops Q (o :: rest) a W := OpK.list (OpK.call hF hc hw hr hd hC hn)
theorem L_nil (h : Q .normal a W) : wpList P ops Q [] a W := h

/-! the same in few words -/
theorem Vp (hF : Fr n a E) (v : Value) (hn : ∀ a', Fr n a' (putE o.dst v E) → wpList P ops Q rest a' W) (hc : cov E o = true := by kernel_rfl) (hw : wantE ops E o = some true := by kernel_rfl) (hr : (execOp (rho E) o).run P W = .ok (.value v) W := by kernel_rfl) (hd : dstLt o.dst n = true := by kernel_rfl) : wpList P ops Q (o :: rest) a W := L_val hF hc hw hr hd hn
theorem Vr (hF : Fr n a E) (v : Value) (hr : (execOp (rho E) o).run P W = .ok (.value v) W) (hn : ∀ a', Fr n a' (putE o.dst v E) → wpList P ops Q rest a' W) (hc : cov E o = true := by kernel_rfl) (hw : wantE ops E o = some true := by kernel_rfl) (hd : dstLt o.dst n = true := by kernel_rfl) : wpList P ops Q (o :: rest) a W := L_val hF hc hw hr hd hn
theorem OpK.vp (hF : Fr n a E) (v : Value) (hn : ∀ a', Fr n a' (putE o.dst v E) → K a' W) (hc : cov E o = true := by kernel_rfl) (hw : wantE ops E o = some true := by kernel_rfl) (hr : (execOp (rho E) o).run P W = .ok (.value v) W := by kernel_rfl) (hd : dstLt o.dst n = true := by kernel_rfl) : OpK P ops Q o K a W := OpK.val hF hc hw hr hd hn
theorem OpK.vr (hF : Fr n a E) (v : Value) (hr : (execOp (rho E) o).run P W = .ok (.value v) W) (hn : ∀ a', Fr n a' (putE o.dst v E) → K a' W) (hc : cov E o = true := by kernel_rfl) (hw : wantE ops E o = some true := by kernel_rfl) (hd : dstLt o.dst n = true := by kernel_rfl) : OpK P ops Q o K a W := OpK.val hF hc hw hr hd hn
theorem Lo (hF : Fr n a E) (hn : ∀ a', Fr n a' (putE o.dst undef E) → wpList P ops Q rest a' W) (hw : wantE ops E o = some false := by kernel_rfl) (hd : dstLt o.dst n = true := by kernel_rfl) : wpList P ops Q (o :: rest) a W := L_off hF hw hd hn
theorem Lc {f : FuncId} {args : Array Value} {R : Value → World → Prop} (hF : Fr n a E) (hC : Ret P f args W R) (hn : ∀ v W' a', R v W' → Fr n a' (putE o.dst v E) → wpList P ops Q rest a' W')
    (hc : cov E o = true := by kernel_rfl) (hw : wantE ops E o = some true := by kernel_rfl) (hr : (execOp (rho E) o).run P W = .ok (.enter f args) W := by kernel_rfl) (hd : dstLt o.dst n = true := by kernel_rfl) : wpList P ops Q (o :: rest) a W := L_call hF hc hw hr hd hC hn
theorem OpK.lc {f : FuncId} {args : Array Value} {R : Value → World → Prop} (hF : Fr n a E) (hC : Ret P f args W R) (hn : ∀ v W' a', R v W' → Fr n a' (putE o.dst v E) → K a' W')
    (hc : cov E o = true := by kernel_rfl) (hw : wantE ops E o = some true := by kernel_rfl) (hr : (execOp (rho E) o).run P W = .ok (.enter f args) W := by kernel_rfl) (hd : dstLt o.dst n = true := by kernel_rfl) : OpK P ops Q o K a W := OpK.call hF hc hw hr hd hC hn

/-! in whatever order: what only looks is taken first -/
theorem A_take {S : World → Prop} {i : Nat} {fuel : Nat} {listed listed' : Array Bool} (hi : ops[i]? = some o) (hs : Region.noSelect ops = true) (hf : Region.free .any ops listed i = true)
    (hrd : (Region.ready .any ops listed).contains i = true) (hl : listed.setIfInBounds i true = listed')
    (hF : Fr n a E) (hc : cov E o = true) (hw : wantE ops E o = some true) (hr : ∀ W, S W → (execOp (rho E) o).run P W = .ok (.value v) W) (hd : dstLt o.dst n = true) (hS : S W)
    (hn : ∀ a', Fr n a' (putE o.dst v E) → wpAnyH P .any ops (NoPanic Q) S fuel listed' a' W) : wpAnyH P .any ops (NoPanic Q) S (fuel + 1) listed a W :=
  wpAnyH_take hi hs hf hrd (fun _ _ _ h => h) (.inl ⟨hF.want hw, fun W hW => by rw [hF.exec hc]; exact hr W hW⟩) hS (hl ▸ hn _ (hF.put hd v))

theorem A_takeOff {S : World → Prop} {i : Nat} {fuel : Nat} {listed listed' : Array Bool} (hi : ops[i]? = some o) (hs : Region.noSelect ops = true) (hf : Region.free .any ops listed i = true)
    (hrd : (Region.ready .any ops listed).contains i = true) (hl : listed.setIfInBounds i true = listed')
    (hF : Fr n a E) (hw : wantE ops E o = some false) (hd : dstLt o.dst n = true) (hS : S W)
    (hn : ∀ a', Fr n a' (putE o.dst undef E) → wpAnyH P .any ops (NoPanic Q) S fuel listed' a' W) : wpAnyH P .any ops (NoPanic Q) S (fuel + 1) listed a W :=
  wpAnyH_take hi hs hf hrd (fun _ _ _ h => h) (.inr ⟨hF.want hw, rfl⟩) hS (hl ▸ hn _ (hF.put hd undef))

theorem Tk {S : World → Prop} (i : Nat) {fuel : Nat} {listed : Array Bool} (hi : ops[i]? = some o) (hF : Fr n a E) (v : Value) (hr : ∀ W, S W → (execOp (rho E) o).run P W = .ok (.value v) W) (hS : S W)
    (hn : ∀ a', Fr n a' (putE o.dst v E) → wpAnyH P .any ops (NoPanic Q) S fuel (listed.setIfInBounds i true) a' W)
    (hs : Region.noSelect ops = true := by kernel_rfl) (hf : Region.free .any ops listed i = true := by kernel_rfl) (hrd : (Region.ready .any ops listed).contains i = true := by kernel_rfl)
    (hc : cov E o = true := by kernel_rfl) (hw : wantE ops E o = some true := by kernel_rfl) (hd : dstLt o.dst n = true := by kernel_rfl) : wpAnyH P .any ops (NoPanic Q) S (fuel + 1) listed a W :=
  A_take hi hs hf hrd rfl hF hc hw hr hd hS hn
theorem To {S : World → Prop} (i : Nat) {fuel : Nat} {listed : Array Bool} (hi : ops[i]? = some o) (hF : Fr n a E) (hS : S W)
    (hn : ∀ a', Fr n a' (putE o.dst undef E) → wpAnyH P .any ops (NoPanic Q) S fuel (listed.setIfInBounds i true) a' W)
    (hs : Region.noSelect ops = true := by kernel_rfl) (hf : Region.free .any ops listed i = true := by kernel_rfl) (hrd : (Region.ready .any ops listed).contains i = true := by kernel_rfl)
    (hw : wantE ops E o = some false := by kernel_rfl) (hd : dstLt o.dst n = true := by kernel_rfl) : wpAnyH P .any ops (NoPanic Q) S (fuel + 1) listed a W :=
  A_takeOff hi hs hf hrd rfl hF hw hd hS hn
/-- Only number i may come up. -/
theorem A_one {S : World → Prop} {i : Nat} {fuel : Nat} {listed listed' : Array Bool} (hrd : Region.ready .any ops listed = [i]) (hi : ops[i]? = some o) (hl : listed.setIfInBounds i true = listed')
    (h : OpK P ops (NoPanic Q) o (fun a' W' => S W' ∧ wpAnyH P .any ops (NoPanic Q) S fuel listed' a' W') a W) : wpAnyH P .any ops (NoPanic Q) S (fuel + 1) listed a W :=
  wpAnyH_all hrd (by simp) fun j hj => by
    rw [List.mem_singleton] at hj
    subst hj
    rw [hl]
    exact OpK.any hi h

theorem A_done {S : World → Prop} {fuel : Nat} {listed : Array Bool} (hrd : Region.ready .any ops listed = []) (h : Q .normal a W) : wpAnyH P .any ops (NoPanic Q) S fuel listed a W :=
  wpAnyH_done hrd (NoPanic.normal h) fuel

theorem A_start {id : Nat} {l : List Oper} (S : World → Prop) (hm : P.follows .mixedOrders = true) (h : wpAnyH P .any l.toArray (NoPanic Q) S l.length (Array.replicate l.length false) a { W with drawn := W.drawn + 1 }) : (Code.region id l.toArray true).wp P Q a W :=
  wp_region_noPanic (wp_region_held (S := S) hm (by simpa using h))
end

/-! ### Ways in and out -/
section
variable {P : Program} {W : World} {E : Env} {a : Act} {n : Nat} {fn : Func} {Q : Exit → Act → World → Prop}

theorem enter {f : FuncId} {c : Code} {args : Array Value} {E0 : Env} {R : Value → World → Prop} (hf : P.funcs[f]? = some fn) (hb : fn.body = some c) (hn : fn.ntmps = n) (hm : Nat.ble args.size n = true) (hE : argsE args args.size = E0)
    (h : ∀ a, Fr n a E0 → c.wp P (bodyPost P fn fun e W' => ∃ v, e = .returned v ∧ R v W') a W) : Ret P f args W R := by
  subst hn
  exact calls_of_wp hf hb (h _ (hE ▸ Fr.enter args fn.ntmps (Nat.le_of_ble_eq_true hm)))

def resV (P : Program) (W : World) (E : Env) : ResultVar → Value → Prop
  | .tmp t, v => lookO E t = some v
  | .cell c T, v => ∃ ad, lookO E c = some (.pointer (some ad)) ∧ (Instr.loadAt T (.pointer (some ad))).run P W = .ok v W

theorem resT {t : Tmp} {v : Value} (h : lookO E t = some v) : resV P W E (.tmp t) v := h
theorem resC {c : Tmp} {T : TypeId} {ad : Addr} {v : Value} (h : lookO E c = some (.pointer (some ad))) (hr : (Instr.loadAt T (.pointer (some ad))).run P W = .ok v W) : resV P W E (.cell c T) v := ⟨ad, h, hr⟩

def resOne (tmps : Array Value) : ResultVar → Sem Value
  | .tmp t => pure (tmps.getD t undef)
  | .cell c t => do loadVar t (← asAddr (tmps.getD c undef))

theorem resOne_run (hF : Fr n a E) {r : ResultVar} {v : Value} (h : resV P W E r v) : (resOne a.tmps r).run P W = .ok v W := by
  cases r with
  | tmp t =>
    have := hF.get t v h
    simp only [resOne, Array.getD_eq_getD_getElem?, this, Option.getD_some, Sem.run_pure]
  | cell c T =>
    obtain ⟨ad, h1, h2⟩ := h
    have := hF.get c _ h1
    simp only [resOne, Array.getD_eq_getD_getElem?, this, Option.getD_some, asAddr, Sem.run_bind, Sem.run_pure, Result.andThen_ok]
    simpa [Instr.loadAt, Instr.sureAddr] using h2

theorem results_eq (tmps : Array Value) : results fn tmps = (do let vs ← fn.results.mapM (resOne tmps); pure (if h : vs.size = 1 then vs[0] else .tuple vs)) := by
  unfold results
  congr 1

theorem ret0 (hF : Fr n a E) (hr : fn.results = #[]) {R : Value → World → Prop} (h : R (.tuple #[]) W) (e : Exit) (he : e = .ret ∨ e = .normal) : bodyPost P fn (fun e W' => ∃ v, e = .returned v ∧ R v W') e a W := by
  have hrun : (results fn a.tmps).run P W = .ok (.tuple #[]) W := by rw [results_eq, hr]; simp
  rcases he with rfl | rfl <;> exact ⟨hF.defers, _, hrun, _, rfl, h⟩

theorem ret1 (hF : Fr n a E) {r : ResultVar} (hr : fn.results = #[r]) {v : Value} (h1 : resV P W E r v) {R : Value → World → Prop} (h : R v W) (e : Exit) (he : e = .ret ∨ e = .normal) : bodyPost P fn (fun e W' => ∃ v, e = .returned v ∧ R v W') e a W := by
  have hrun : (results fn a.tmps).run P W = .ok v W := by rw [results_eq, hr]; simp [resOne_run hF h1]
  rcases he with rfl | rfl <;> exact ⟨hF.defers, _, hrun, _, rfl, h⟩

theorem ret2 (hF : Fr n a E) {r s : ResultVar} (hr : fn.results = #[r, s]) {v u : Value} (h1 : resV P W E r v) (h2 : resV P W E s u) {R : Value → World → Prop} (h : R (.tuple #[v, u]) W) (e : Exit) (he : e = .ret ∨ e = .normal) : bodyPost P fn (fun e W' => ∃ v, e = .returned v ∧ R v W') e a W := by
  have hrun : (results fn a.tmps).run P W = .ok (.tuple #[v, u]) W := by rw [results_eq, hr]; simp [resOne_run hF h1, resOne_run hF h2]
  rcases he with rfl | rfl <;> exact ⟨hF.defers, _, hrun, _, rfl, h⟩

theorem ret3 (hF : Fr n a E) {r s t : ResultVar} (hr : fn.results = #[r, s, t]) {v u x : Value} (h1 : resV P W E r v) (h2 : resV P W E s u) (h3 : resV P W E t x) {R : Value → World → Prop} (h : R (.tuple #[v, u, x]) W) (e : Exit) (he : e = .ret ∨ e = .normal) : bodyPost P fn (fun e W' => ∃ v, e = .returned v ∧ R v W') e a W := by
  have hrun : (results fn a.tmps).run P W = .ok (.tuple #[v, u, x]) W := by rw [results_eq, hr]; simp [resOne_run hF h1, resOne_run hF h2, resOne_run hF h3]
  rcases he with rfl | rfl <;> exact ⟨hF.defers, _, hrun, _, rfl, h⟩

theorem cond_t {c : Operand} {x y : Code} (hF : Fr n a E) (hc : covX E c = true) (hr : rho E c = .bool true) (h : x.wp P Q a W) : (Code.cond c x y).wp P Q a W := wp_cond_true (by rw [hF.eval hc, hr]) h
theorem cond_f {c : Operand} {x y : Code} (hF : Fr n a E) (hc : covX E c = true) (hr : rho E c = .bool false) (h : y.wp P Q a W) : (Code.cond c x y).wp P Q a W := wp_cond_false (by rw [hF.eval hc, hr]) h

/-- A loop, its state told by some x. -/
theorem loopX {τ : Type} {c : Code} (I : τ → Act → World → Prop) (μ : τ → Nat) (x0 : τ) (h0 : I x0 a W) (round : ∀ x a W, I x a W → ∀ K : Act → World → Prop, (∀ x' a' W', μ x' < μ x → I x' a' W' → K a' W') → c.wp P (Exit.then K Q) a W) : (Code.loop c).wp P Q a W :=
  wp_loop_ghost (fun k a W => ∃ x, μ x = k ∧ I x a W) (μ x0) ⟨x0, rfl, h0⟩ fun k a W ⟨x, hx, hI⟩ => by
    subst hx
    exact round x a W hI _ fun x' a' W' hlt hI' => ⟨μ x', hlt, x', rfl, hI'⟩

theorem loopStart {c : Code} (n : Nat) (h : Code.rounds P c Q n a W) : (Code.loop c).wp P Q a W := wp_loop_rounds n h
theorem loopR {c : Code} {n : Nat} (h : c.wp P (Exit.then (Code.rounds P c Q n) Q) a W) : Code.rounds P c Q (n + 1) a W := h

/-- A cut: the ways meet in states told by I. -/
theorem cutX {c : Code} {τ : Type} (I : τ → Act → World → Prop) {K : Act → World → Prop} (h : ∀ K' : Act → World → Prop, (∀ x a' W', I x a' W' → K' a' W') → c.wp P (Exit.then K' Q) a W) (hk : ∀ x a' W', I x a' W' → K a' W') : c.wp P (Exit.then K Q) a W := h K hk
end

/-! ### What the printed walks use -/
def bt (s : ByteArray) (i : Int) : Int := ((s.data[i.toNat]?.getD 0).toNat : Int)
def btB (s : ByteArray) (i : Int) : UInt8 := s.data[i.toNat]?.getD 0
theorem bt_bd (s : ByteArray) (i : Int) : 0 ≤ bt s i ∧ bt s i ≤ 255 := by
  unfold bt
  have := (s.data[i.toNat]?.getD 0).toNat_lt
  omega
def strEq (s t : ByteArray) : Bool := s.toList == t.toList
def strLt (s t : ByteArray) : Bool := Op.bytesLess s.toList t.toList
theorem toList_inj {s t : ByteArray} (h : s.toList = t.toList) : s = t := by
  rw [ByteArray.toList_eq, ByteArray.toList_eq] at h
  cases s; cases t
  simp only [ByteArray.mk.injEq]
  exact Array.toList_inj.1 h

theorem strEq_iff {s t : ByteArray} : strEq s t = true ↔ s = t := by
  unfold strEq
  rw [beq_iff_eq]
  exact ⟨toList_inj, fun h => by rw [h]⟩

theorem strEq_dec (s t : ByteArray) : strEq s t = decide (s = t) := by
  rw [Bool.eq_iff_iff, strEq_iff, decide_eq_true_iff]

theorem strEq_false {s t : ByteArray} : strEq s t = false ↔ s ≠ t := by
  rw [← Bool.not_eq_true, strEq_iff]

theorem strEq_refl (s : ByteArray) : strEq s s = true := strEq_iff.2 rfl
theorem eqT {α : Type} [BEq α] [LawfulBEq α] {x y : α} (h : x = y) : (x == y) = true := by rw [h]; exact BEq.rfl
theorem eqF {α : Type} [BEq α] [LawfulBEq α] {x y : α} (h : ¬ x = y) : (x == y) = false := beq_eq_false_iff_ne.2 h
theorem neT {α : Type} [BEq α] [LawfulBEq α] {x y : α} (h : ¬ x = y) : (!(x == y)) = true := by rw [eqF h]; rfl
theorem neF {α : Type} [BEq α] [LawfulBEq α] {x y : α} (h : ¬ ¬ x = y) : (!(x == y)) = false := by rw [eqT (Classical.not_not.1 h)]; rfl
theorem notT {b : Bool} (h : b = false) : (!b) = true := by rw [h]; rfl
theorem notF {b : Bool} (h : b = true) : (!b) = false := by rw [h]; rfl
theorem sz (l : List UInt8) : (⟨⟨l⟩⟩ : ByteArray).size = l.length := rfl
theorem i64In {x : Int} (h1 : -9223372036854775808 ≤ x) (h2 : x ≤ 9223372036854775807) : IntKind.i64.wrap x = x := by
  simp [IntKind.wrap, IntKind.bits, IntKind.signed]; omega
theorem i32In {x : Int} (h1 : -2147483648 ≤ x) (h2 : x ≤ 2147483647) : IntKind.i32.wrap x = x := by
  simp [IntKind.wrap, IntKind.bits, IntKind.signed]; omega
theorem i64Quo {x c : Int} (hc : 0 < c) (h1 : 0 ≤ x) (h2 : x ≤ 9223372036854775807) : IntKind.i64.wrap (Int.tdiv x c) = x / c := by
  rw [Int.tdiv_eq_ediv_of_nonneg h1]
  have h3 : x / c ≤ x := Int.ediv_le_self _ h1
  have h4 : 0 ≤ x / c := Int.ediv_nonneg h1 (by omega)
  exact i64In (by omega) (by omega)
theorem rem_pos {x c : Int} (h1 : 0 ≤ x) : Int.tmod x c = x % c := Int.tmod_eq_emod_of_nonneg h1
theorem u64In {x : Int} (h1 : 0 ≤ x) (h2 : x ≤ 18446744073709551615) : IntKind.u64.wrap x = x := by
  simp [IntKind.wrap, IntKind.bits, IntKind.signed]; omega
theorem u64Quo {x c : Int} (hc : 0 < c) (h1 : 0 ≤ x) (h2 : x ≤ 18446744073709551615) : IntKind.u64.wrap (Int.tdiv x c) = x / c := by
  rw [Int.tdiv_eq_ediv_of_nonneg h1]
  have h3 : x / c ≤ x := Int.ediv_le_self _ h1
  have h4 : 0 ≤ x / c := Int.ediv_nonneg h1 (by omega)
  exact u64In (by omega) (by omega)
theorem u32In {x : Int} (h1 : 0 ≤ x) (h2 : x ≤ 4294967295) : IntKind.u32.wrap x = x := by
  simp [IntKind.wrap, IntKind.bits, IntKind.signed]; omega
theorem u16In {x : Int} (h1 : 0 ≤ x) (h2 : x ≤ 65535) : IntKind.u16.wrap x = x := by
  simp [IntKind.wrap, IntKind.bits, IntKind.signed]; omega
theorem u8In {x : Int} (h1 : 0 ≤ x) (h2 : x ≤ 255) : IntKind.u8.wrap x = x := by
  simp [IntKind.wrap, IntKind.bits, IntKind.signed]; omega
theorem i8In {x : Int} (h1 : -128 ≤ x) (h2 : x ≤ 127) : IntKind.i8.wrap x = x := by
  simp [IntKind.wrap, IntKind.bits, IntKind.signed]; omega

section
variable {P : Program} {ops : Array Oper} {Q : Exit → Act → World → Prop} {o : Oper} {K : Act → World → Prop} {a : Act} {W W' w0 : World} {n : Nat} {E : Env} {v : Value} {rest : List Oper} {X : Ext} {L : List Chunk}

theorem Fr.know (h : Fr n a E) {d : Nat} {v v' : Value} (hl : lookO E d = some v) (he : v = v') : Fr n a ((d, v') :: E) := by
  subst he
  refine ⟨h.size, h.defers, fun i u hi => ?_⟩
  simp only [lookO] at hi
  cases hb : Nat.beq i d with
  | true =>
    have : i = d := Nat.eq_of_beq_eq_true hb
    subst this
    simp only [hb, Option.some.injEq] at hi
    subst hi
    exact h.get i v hl
  | false =>
    simp only [hb] at hi
    exact h.get i u hi

theorem Own.call0 {Y : Ext} (h : Own w0 X L W) (k : Own W Y [] W') (hY : ∀ b, ¬ Y.blk b := by exact fun _ x => x) (hd : X.dr = true → Y.dr = true := by first | exact fun _ => rfl | exact fun e => Bool.noConfusion e) : Own w0 X L W' := h.call k hY hd
theorem Own.call1 {Y : Ext} {c : Chunk} (h : Own w0 X L W) (k : Own W Y [c] W') (hY : ∀ b, ¬ Y.blk b := by exact fun _ x => x) (hd : X.dr = true → Y.dr = true := by first | exact fun _ => rfl | exact fun e => Bool.noConfusion e) : Own w0 X (c :: L) W' := h.call k hY hd
theorem Own.call2 {Y : Ext} {c d : Chunk} (h : Own w0 X L W) (k : Own W Y [c, d] W') (hY : ∀ b, ¬ Y.blk b := by exact fun _ x => x) (hd : X.dr = true → Y.dr = true := by first | exact fun _ => rfl | exact fun e => Bool.noConfusion e) : Own w0 X (c :: d :: L) W' := h.call k hY hd
theorem Own.call3 {Y : Ext} {c d e : Chunk} (h : Own w0 X L W) (k : Own W Y [c, d, e] W') (hY : ∀ b, ¬ Y.blk b := by exact fun _ x => x) (hd : X.dr = true → Y.dr = true := by first | exact fun _ => rfl | exact fun e => Bool.noConfusion e) : Own w0 X (c :: d :: e :: L) W' := h.call k hY hd
theorem Own.noX (h : Own w0 noD L W) : Own w0 noX L W := ⟨h.os, h.tape, h.output, h.size, h.old, fun e => Bool.noConfusion e, h.holds, h.alive, h.fresh, h.disj⟩

theorem OpK.new {vf : Nat → Value} {ob : Obj} (hF : Fr n a E) (hO : Own w0 X L W) (hc : cov E o = true) (hw : wantE ops E o = some true) (hr : (execOp (rho E) o).run P W = .ok (.value (vf W.heap.size)) (W.alloc ob)) (hd : dstLt o.dst n = true)
    (hn : ∀ b W' a', Own w0 X (.blk b ob :: L) W' → Fr n a' (putE o.dst (vf b) E) → K a' W') : OpK P ops Q o K a W :=
  OpK.valW hF hc hw hr hd fun a' hF' => hn _ _ a' (hO.alloc ob) hF'

theorem L_new {vf : Nat → Value} {ob : Obj} (hF : Fr n a E) (hO : Own w0 X L W) (hc : cov E o = true) (hw : wantE ops E o = some true) (hr : (execOp (rho E) o).run P W = .ok (.value (vf W.heap.size)) (W.alloc ob)) (hd : dstLt o.dst n = true)
    (hn : ∀ b W' a', Own w0 X (.blk b ob :: L) W' → Fr n a' (putE o.dst (vf b) E) → wpList P ops Q rest a' W') : wpList P ops Q (o :: rest) a W := OpK.list (OpK.new hF hO hc hw hr hd hn)

theorem x_load {T : TypeId} {ax : Operand} {p : Value} (hop : o.op = .load T ax) (hp : rho E ax = p) (h : (Instr.loadAt T p).run P W = .ok v W') : (execOp (rho E) o).run P W = .ok (.value v) W' := by
  unfold execOp
  simp only [hop, hp, Sem.run_bind, h, Result.andThen_ok, Sem.run_pure]

theorem x_store {T : TypeId} {ax vx : Operand} {p : Value} (hop : o.op = .store T ax vx) (hp : rho E ax = p) (hv : rho E vx = v) (h : (Instr.storeAt T p v).run P W = .ok () W') : (execOp (rho E) o).run P W = .ok .skip W' := by
  unfold execOp
  simp only [hop, hp, hv, Sem.run_bind, h, Result.andThen_ok, Sem.run_pure]

theorem x_int {k : IntKind} {x y : Int} (h : x = y) (hr : (execOp (rho E) o).run P W = .ok (.value (.int k x)) W') : (execOp (rho E) o).run P W = .ok (.value (.int k y)) W' := by rw [hr, h]

theorem x_bool {x y : Bool} (h : x = y) (hr : (execOp (rho E) o).run P W = .ok (.value (.bool x)) W') : (execOp (rho E) o).run P W = .ok (.value (.bool y)) W' := by rw [hr, h]

theorem x_shrV {T T' : TypeId} {ax bx : Operand} {k yk : IntKind} {x y : Int} (hop : o.op = .binOp .shr T ax bx T') (h1 : rho E ax = .int k x) (h2 : rho E bx = .int yk y) (h0 : 0 ≤ y) : (execOp (rho E) o).run P W = .ok (.value (.int k (x.fdiv (2 ^ (min y.toNat k.bits))))) W := by
  unfold execOp
  simp only [hop, h1, h2]
  simp [eqGuard, binOp, Op.shift, show ¬ y < 0 by omega]
theorem x_shlV {T T' : TypeId} {ax bx : Operand} {k yk : IntKind} {x y : Int} (hop : o.op = .binOp .shl T ax bx T') (h1 : rho E ax = .int k x) (h2 : rho E bx = .int yk y) (h0 : 0 ≤ y) : (execOp (rho E) o).run P W = .ok (.value (.int k (k.wrap (x * 2 ^ (min y.toNat k.bits))))) W := by
  unfold execOp
  simp only [hop, h1, h2]
  simp [eqGuard, binOp, Op.shift, show ¬ y < 0 by omega]
theorem maxI (x y : Int) : (if y > x then y else x) = max x y := by rw [Int.max_def]; split <;> split <;> omega
theorem minI (x y : Int) : (if y < x then y else x) = min x y := by rw [Int.min_def]; split <;> split <;> omega
theorem x_cat {T T' : TypeId} {ax bx : Operand} {s t : ByteArray} (hop : o.op = .binOp .add T ax bx T') (h1 : rho E ax = .string s) (h2 : rho E bx = .string t) (hl : (s.size : Int) + t.size ≤ 9223372036854775807) : (execOp (rho E) o).run P W = .ok (.value (.string (s ++ t))) W := by
  unfold execOp
  simp only [hop, h1, h2]
  simp [eqGuard, binOp, Op.stringOp, hl]

theorem x_idxStr {T : TypeId} {ax ix : Operand} {s : ByteArray} {k : IntKind} {i : Int} (hop : o.op = .index T ax ix) (h1 : rho E ax = .string s) (h2 : rho E ix = .int k i) (hT : P.underlying T = some .string) (h0 : 0 ≤ i) (hl : i < s.size) :
    (execOp (rho E) o).run P W = .ok (.value (.int .u8 (bt s i))) W := by
  unfold execOp
  have hlt : i.toNat < s.data.size := by show i.toNat < s.size; omega
  have hg : s[i.toNat]? = some s.data[i.toNat] := by
    rw [getElem?_pos s i.toNat hlt]; rfl
  have hb : bt s i = (s.data[i.toNat].toNat : Int) := by unfold bt; rw [Array.getElem?_eq_getElem hlt]; rfl
  rw [hb]
  simp [hop, h1, h2, Instr.index, asIntOf, underlying, program, Sem.run, hT, Result.andThen, h0, hg]

/-- '&xs[i]' of a slice whose elements are k cells wide. -/
theorem x_idxAddr {T elem : TypeId} {ax ix : Operand} {b off len cap k : Nat} {kd : IntKind} {i : Nat} (hop : o.op = .indexAddr T ax ix) (h1 : rho E ax = .slice (some ⟨b, off, none⟩) len cap) (h2 : rho E ix = .int kd (i : Int)) (hT : P.underlying T = some (.slice elem)) (hs : sizeT P elem = some k) (hl : i < len) :
    (execOp (rho E) o).run P W = .ok (.value (.pointer (some ⟨b, off + i * k, none⟩))) W := by
  unfold execOp
  simp [hop, h1, h2, Instr.indexAt, asIntOf, underlying, program, Sem.run, hT, Result.andThen, run_sizeOf hs, addr_add, hl]
theorem x_idxAddr1 {T elem : TypeId} {ax ix : Operand} {b len cap : Nat} {kd : IntKind} {i : Nat} (hop : o.op = .indexAddr T ax ix) (h1 : rho E ax = .slice (some ⟨b, 0, none⟩) len cap) (h2 : rho E ix = .int kd (i : Int)) (hT : P.underlying T = some (.slice elem)) (hs : sizeT P elem = some 1) (hl : i < len) :
    (execOp (rho E) o).run P W = .ok (.value (.pointer (some ⟨b, i, none⟩))) W := by
  have h := x_idxAddr (P := P) (W := W) hop h1 h2 hT hs hl
  rw [h]
  simp

/-- 'x.(I)' with ok, of a value whose type lacks a method of I. -/
theorem x_assertNo {ax : Operand} {xT T t : TypeId} {x : Value} (hop : o.op = .typeAssert ax xT T true) (h1 : rho E ax = .iface t x) (hr : (Instr.typeAssert (.iface t x) xT T true).run P W = .ok (.tuple #[.nilIface, .bool false]) W) :
    (execOp (rho E) o).run P W = .ok (.value (.tuple #[.nilIface, .bool false])) W := by
  unfold execOp
  simp only [hop, h1, Sem.run_bind, hr, Result.andThen_ok, Sem.run_pure]

theorem run_bound_lo {x : Int} {k : IntKind} {y : Nat} {c : BoundsCode} (h0 : 0 ≤ x) (hl : x ≤ y) : (Instr.sliceBound (.int k x) y c).run P W = .ok x.toNat W := by
  simp [Instr.sliceBound, asIntOf, h0, hl]

theorem x_slStrLH {T : TypeId} {ax lx hx : Operand} {s : ByteArray} {k k' : IntKind} {i j : Int} (hop : o.op = .slice T ax (some lx) (some hx) none) (h1 : rho E ax = .string s) (h2 : rho E lx = .int k i) (h3 : rho E hx = .int k' j) (hT : P.underlying T = some .string)
    (h0 : 0 ≤ i) (hij : i ≤ j) (hl : j ≤ s.size) : (execOp (rho E) o).run P W = .ok (.value (.string (s.extract i.toNat j.toNat))) W := by
  unfold execOp
  have hb1 : (Instr.sliceBound (.int k' j) s.size .sliceAlen).run P W = .ok j.toNat W := run_bound_lo (by omega) hl
  have hb2 : (Instr.sliceBound (.int k i) j.toNat .sliceB).run P W = .ok i.toNat W := run_bound_lo h0 (by omega)
  simp [hop, h1, h2, h3, Instr.sliceAt, Instr.slice, underlying, program, Sem.run, hT, Result.andThen, Instr.sliceBounds, hb1, hb2]

theorem x_slStrL {T : TypeId} {ax lx : Operand} {s : ByteArray} {k : IntKind} {i : Int} (hop : o.op = .slice T ax (some lx) none none) (h1 : rho E ax = .string s) (h2 : rho E lx = .int k i) (hT : P.underlying T = some .string)
    (h0 : 0 ≤ i) (hl : i ≤ s.size) : (execOp (rho E) o).run P W = .ok (.value (.string (s.extract i.toNat s.size))) W := by
  unfold execOp
  have hb2 : (Instr.sliceBound (.int k i) s.size .sliceB).run P W = .ok i.toNat W := run_bound_lo h0 (by omega)
  simp [hop, h1, h2, Instr.sliceAt, Instr.slice, underlying, program, Sem.run, hT, Result.andThen, Instr.sliceBounds, hb2]

theorem x_slStrH {T : TypeId} {ax hx : Operand} {s : ByteArray} {k' : IntKind} {j : Int} (hop : o.op = .slice T ax none (some hx) none) (h1 : rho E ax = .string s) (h3 : rho E hx = .int k' j) (hT : P.underlying T = some .string)
    (h0 : 0 ≤ j) (hl : j ≤ s.size) : (execOp (rho E) o).run P W = .ok (.value (.string (s.extract 0 j.toNat))) W := by
  unfold execOp
  have hb1 : (Instr.sliceBound (.int k' j) s.size .sliceAlen).run P W = .ok j.toNat W := run_bound_lo (by omega) hl
  simp [hop, h1, h3, Instr.sliceAt, Instr.slice, underlying, program, Sem.run, hT, Result.andThen, Instr.sliceBounds, hb1]

/-- A struct or an array is loaded out of a block that is known. -/
theorem run_loadA {T : TypeId} {b off k : Nat} {cs : Array Value} {T0 : TypeId} {fr : Nat × Nat} {out : Array Value} (hA : aggT P T = some true) (hs : sizeT P T = some k) (hall : W.heap[b]? = some (.cells cs T0 fr)) (hl : Nat.ble (off + k) cs.size = true) (ho : cs.extract off (off + k) = out) :
    (Instr.loadAt T (.pointer (some ⟨b, off, none⟩))).run P W = .ok (.agg out) W := by
  subst ho
  have hle : off + k ≤ cs.size := Nat.le_of_ble_eq_true hl
  have h := run_loadN (P := P) (W := W) (T := T) (b := b) (off := off) (cs := (cs.extract off (off + k)).toList) hA hs (by simp; omega) (fun j v hv => by
    have hb' : W.cell? ⟨b, off + j, none⟩ = cs[off + j]? := by simp only [World.cell?, hall]; rfl
    rw [hb', ← hv]
    have hj : j < k := by
      rcases Nat.lt_or_ge j k with h | h
      · exact h
      · rw [List.getElem?_eq_none (by simp; omega)] at hv; cases hv
    rw [Array.getElem?_toList, Array.getElem?_extract]
    have : j < min (off + k) cs.size - off := by omega
    simp [this])
  exact h

def AllI (p : Nat → Prop) : List Nat → Prop
  | [] => True
  | i :: t => p i ∧ AllI p t
theorem AllI.all {p : Nat → Prop} : ∀ {l : List Nat}, AllI p l → ∀ i ∈ l, p i
  | [], _, _, h => by simp at h
  | x :: t, h, i, hi => by
    rcases List.mem_cons.1 hi with rfl | hi
    · exact h.1
    · exact AllI.all h.2 i hi

theorem A_many {S : World → Prop} {fuel : Nat} {listed : Array Bool} (rs : List Nat) {r : Nat} {rs' : List Nat} (hrd : Region.ready .any ops listed = rs) (he : rs = r :: rs')
    (h : AllI (fun i => wpOp P ops (NoPanic Q) i (fun a' W' => S W' ∧ wpAnyH P .any ops (NoPanic Q) S fuel (listed.setIfInBounds i true) a' W') a W) rs) : wpAnyH P .any ops (NoPanic Q) S (fuel + 1) listed a W :=
  wpAnyH_all hrd (by rw [he]; simp) h.all

/-- The ways meet: what holds at a set of operations that are done. -/
theorem A_cut {S : World → Prop} (I : Act → World → Prop) {fuel fuel0 : Nat} {listed listed0 : Array Bool} (hc : ∀ a W, I a W → wpAnyH P .any ops (NoPanic Q) S fuel listed a W)
    (h : (∀ a W, I a W → wpAnyH P .any ops (NoPanic Q) S fuel listed a W) → wpAnyH P .any ops (NoPanic Q) S fuel0 listed0 a W) : wpAnyH P .any ops (NoPanic Q) S fuel0 listed0 a W := h hc
theorem A_norm {S : World → Prop} {fuel : Nat} {listed listed' : Array Bool} (hl : listed = listed') (h : wpAnyH P .any ops (NoPanic Q) S fuel listed' a W) : wpAnyH P .any ops (NoPanic Q) S fuel listed a W := hl ▸ h
theorem A_br {S : World → Prop} {i fuel : Nat} {listed listed' : Array Bool} (hi : ops[i]? = some o) (hl : listed.setIfInBounds i true = listed')
    (h : OpK P ops (NoPanic Q) o (fun a' W' => S W' ∧ wpAnyH P .any ops (NoPanic Q) S fuel listed' a' W') a W) : wpOp P ops (NoPanic Q) i (fun a' W' => S W' ∧ wpAnyH P .any ops (NoPanic Q) S fuel (listed.setIfInBounds i true) a' W') a W := by
  rw [hl]
  exact OpK.any hi h

theorem then_ret {K : Act → World → Prop} (h : Q .ret a W) : Exit.then K Q .ret a W := h
theorem then_exit {K : Act → World → Prop} {id : Nat} (h : Q (.exit id) a W) : Exit.then K Q (.exit id) a W := h
theorem block_ret {id : Nat} (h : Q .ret a W) : Exit.inBlock id Q .ret a W := h
theorem block_normal {id : Nat} (h : Q .normal a W) : Exit.inBlock id Q .normal a W := h
theorem inBlock_hit {id : Nat} (h : Q .normal a W) : Exit.inBlock id Q (.exit id) a W := by simpa [Exit.inBlock] using h
theorem inBlock_miss {id id' : Nat} (hne : id' ≠ id) (h : Q (.exit id') a W) : Exit.inBlock id Q (.exit id') a W := by simpa [Exit.inBlock, hne] using h
end
end Go.Proofs.YthellfigmpjhlaaGreatDoor
