/- From a law's contract ('it returns true; what was there lies as it lay') to its row. -/
import Derived.Test.YthellfigmpjhlaaGreatDoorBase
import Derived.Test.YthellfigmpjhlaaGreatDoorSlice
import Derived.Deep.Slices
import Derived.ProofKit
import Derived.OpenShut
import Derived.LaidMore
import Derived.Lay
import Derived.SevenTiedAt
import Derived.Stop.Joined
import Derived.HandedShaped
import Derived.Carry
import Derived.LaidLaws
import Derived.Stop.LaidErr
import Derived.Lib.SmallJoins
import Derived.Shelf.Vars
import Derived.Test.YthellfigmpjhlaaGreatDoorRows
import Derived.Test.YthellfigmpjhlaaGreatDoorErrs
namespace Go.Proofs.YthellfigmpjhlaaGreatDoor
set_option linter.unusedVariables false
set_option linter.unusedSimpArgs false
set_option linter.unusedSectionVars false
open Go Go.ChangeShapes Go.WideShapes Go.ChangeAt Go.RowKit

theorem below_trodAll {H : Type} {enc : TypeId × Value → H} {P : Program} (hl : laidOutB P = true) {W W' : World} (hb : Below W.heap.size W W') : ∀ {ts : List TypeId} {vs : List Value} {ds : List (DataW H)} {ps : List MemPlace},
    (ts.all fun t => P.readableRec t && decide (t < P.types.size)) = true → DataW.TrodAll enc P W 0 (fun _ => true) true ts vs ds ps → (∀ x ∈ ps, x.block < W.heap.size) →
    DataW.TrodAll enc P W' 0 (fun b => decide (b < W.heap.size)) true ts vs ds ps
  | [], _, _, _, _, h, _ => by
    obtain ⟨rfl, rfl, rfl⟩ := trodAll_nil h
    exact trodAll_mk0
  | t :: ts, _, _, _, hr, h, hlt => by
    obtain ⟨v, vs', d, ds', p, q, rfl, rfl, rfl, h1, h2⟩ := trodAll_cons h
    simp only [List.all_cons, Bool.and_eq_true, decide_eq_true_eq] at hr
    exact trodAll_cons_mk (Below.trod hl hr.1.1 hr.1.2 h1 hb (fun x hx => hlt x (List.mem_append.2 (.inl hx)))) (below_trodAll hl hb (by simpa using hr.2) h2 (fun x hx => hlt x (List.mem_append.2 (.inr hx))))

/-- THE LIFT of a law. -/
theorem law_lift {H : Type} {enc : TypeId × Value → H} {C : Checked} {os : Os} {f : FuncId} {fn : Func} {s : ChangeSpec} {conds : List PathCond} {X : World → Prop} {TB : TypeId}
    (hX : ∀ (w w' : World), w.heap = w'.heap → X w → X w')
    (own : ownKnob C.prog.godebug = none) (started : os.Started) (noInit : C.prog.inits.idxOf? f = none) (hfn : C.prog.funcs[f]? = some fn)
    (witness : ∃ (w : World) (tape : Tape) (i : Input), w.os = os ∧ (w.forCall tape i).Shaped C.prog ∧ i.vars = [] ∧ Input.okWide C.prog (w.forCall tape i) .any w.heap.size f i ∧
      ((s.pre enc C.prog fn conds false (w.forCall tape i).memory i.args ∧ X (w.forCall tape i).memory) ∧ sizedMet enc C.prog fn (OpenSpec.ofChange s) false (w.forCall tape i).memory i.args) ∧ Assume.holds {} C.prog (lone (Frame.enter C.prog f i.args .normal) [] (w.forCall tape i)))
    (hvars : s.vars = []) (hres : fn.resultTypes = #[TB]) (hTB : C.prog.underlying TB = some .bool)
    (hspec : ∀ (ds : List (DataW H)), ds.length = fn.params.toList.length → s.fn H (ds ++ []) = { results := [.lit (.bool true)], args := ds })
    (hlaid : laidOutB C.prog = true) (hread : (fn.params.toList.all fun t => C.prog.readableRec t && decide (t < C.prog.types.size)) = true)
    (contract : ∀ (W : World) (base : Nat) (args : Array Value) (ds : List (DataW H)) (p : List MemPlace),
      (∀ (j : Nat) t v, fn.params[j]? = some t → args[j]? = some v → Value.okWide C.prog W .any base t v) →
      DataW.TrodAll enc C.prog W 0 (fun _ => true) true fn.params.toList args.toList ds p →
      (∀ x ∈ p, x.block < W.heap.size) →
      (DataW.weightsEach C.prog fn.params.toList ds).all (· ≤ reachBytes) = true →
      X W → W.ShapedOpen C.prog →
      Ret C.prog f args W fun v W' => v = .bool true ∧ Own W noX [] W') :
    ReturnsInHanded {} C os f .any (fun w args => (s.pre enc C.prog fn conds false w args ∧ X w) ∧ sizedMet enc C.prog fn (OpenSpec.ofChange s) false w args) (s.post enc C.prog fn false true false false) := by
  refine returnsInHanded_of_calls own started noInit witness ?_
  intro w tape i _ hsh _ hok hpre _
  obtain ⟨_, _, _, fn', hfn', _, _, _, _, hval⟩ := hok
  have e : fn' = fn := Option.some.inj (hfn'.symm.trans hfn)
  subst e
  obtain ⟨⟨⟨ds, gs, before, hw, hc⟩, hx⟩, hz⟩ := hpre
  have hw' := DataW.Whole.of_heap (w' := w.forCall tape i) (by rfl) hw
  have hreach := hz.weights hw
  have hW' := hw'
  obtain ⟨p, q, hA, hV, rfl, hfz, hnd⟩ := hw'
  rw [hvars] at hV
  obtain ⟨rfl, rfl⟩ := trodVars_none hV
  have hlt : ∀ x ∈ p, x.block < (w.forCall tape i).heap.size := fun x hx => by
    have := hW'.lt x (List.mem_append.2 (.inl hx))
    simpa using this
  have hvt : DataSpec.varTypes C.prog (OpenSpec.ofChange s).bare.plain = [] := by
    simp [OpenSpec.ofChange, OpenSpec.bare, ChangeSpec.plain, DataSpec.varTypes, hvars]
  rw [hvt, List.append_nil, List.append_nil] at hreach
  have hlen : ds.length = fn'.params.toList.length := by
    clear hreach hc hspec hW' hw
    generalize fn'.params.toList = ts at hA
    generalize i.args.toList = vs at hA
    clear hread hval hlt hfz hnd hz
    induction ts generalizing vs ds p with
    | nil => obtain ⟨_, rfl, _⟩ := trodAll_nil hA; rfl
    | cons t ts ih =>
      obtain ⟨v, vs', d, ds', p', q', rfl, rfl, rfl, h1, h2⟩ := trodAll_cons hA
      rw [List.length_cons, List.length_cons, ih _ _ _ h2]
  have hk := contract (w.forCall tape i) w.heap.size i.args ds p hval hA hlt hreach (hX _ _ (by rfl) hx) hsh
  refine Calls.mono hk fun e W' ⟨v, he, hv, hO⟩ => ?_
  subst he
  subst hv
  have hb : Below (w.forCall tape i).heap.size (w.forCall tape i) W' := below_own hO
  refine ChangeSpec.post_blind ?_
  refine ⟨ds, [], _, [], p, [], hW', ?_, ?_, ?_, hb.frame _, fun h => by cases h⟩
  · rw [hspec ds hlen, hres]
    exact trodAll_mk1 (shut_bool hTB true)
  · rw [hspec ds hlen]
    exact below_trodAll hlaid hb hread hA hlt
  · rw [hspec ds hlen, hvars]
    rfl

theorem laid_err {P : Program} {n nm : String} {text : List UInt8} {r : List (String × DataW Unit)} {W : World} {g : Nat} {ti tp te ts : TypeId} {ms : Array (String × TypeId)} {f : Field}
    (h : laidMet P ((n, .iface nm (.ptr (.agg [.lit (.string text)]))) :: r) W)
    (hg : P.globalNamed n = some g) (ht : (P.globals[g]?).map (·.type) = some ti) (hi : P.underlying ti = some (.interface ms)) (hrow : ∀ u, P.typeName? 3 u = some nm → u = tp)
    (hp : P.underlying tp = some (.pointer te)) (he : P.underlying te = some (.struct #[f])) (hft : f.type = ts) (hfo : f.offset = 0) (hs : P.underlying ts = some .string) (hc : P.cellsOf te = 1) (hcs : P.cellsOf ts = 1) :
    ∃ a : Addr, W.cell? ⟨g, 0, none⟩ = some (.iface tp (.pointer (some a))) ∧ (∃ ca T, W.heap[a.block]? = some (.cells ca T (0, 0))) ∧ ∃ s : ByteArray, W.cell? a = some (.string s) ∧ s.data.toList = text := by
  obtain ⟨ps, ⟨g0, t0, cs0, f0, p0, q0, hg0, ht0, hv0, hd0, _, e0⟩, _, hrows⟩ := h
  obtain rfl := Option.some.inj (hg.symm.trans hg0)
  obtain rfl := Option.some.inj (ht.symm.trans ht0)
  subst e0
  obtain ⟨l0⟩ := cs0
  have ok0 : ∀ u v, l0 = [.iface u v] → Value.okWide P W .any 0 u v := fun u v e => by
    subst e
    exact (hrows g 0 (by simp [MemPlace.row])).2 u v (by simpa using World.var?_cell hg0 hv0 0)
  obtain ⟨a0, s0, rfl, hc0, hs0, hz0, hp0⟩ := errorString_of_trod hi hrow hp he hft hfo hs hc hcs hd0 ok0
  refine ⟨a0, by simpa using World.var?_cell hg0 hv0 0, (hrows a0.block a0.off (by rw [hp0]; simp [MemPlace.row])).1, s0, hc0, hs0⟩

/-- The errors, out of the laid variables. -/
theorem errs_of {I : List Nat} {ea : Nat → Addr} {W : World} (txt : Nat → List UInt8) (hinj : ∀ i ∈ I, ∀ j ∈ I, txt i = txt j → i = j)
    (h : ∀ i ∈ I, W.cell? ⟨errVar i, 0, none⟩ = some (errV ea i) ∧ (∃ ca T, W.heap[(ea i).block]? = some (.cells ca T (0, 0))) ∧ ∃ s : ByteArray, W.cell? (ea i) = some (.string s) ∧ s.data.toList = txt i) : Errs I ea W :=
  ⟨fun i hi j hj e => by
    obtain ⟨_, _, s, h1, h2⟩ := h i hi
    obtain ⟨_, _, s', h3, h4⟩ := h j hj
    rw [e, h3] at h1
    obtain rfl := Value.string.inj (Option.some.inj h1)
    exact hinj i hi j hj (h2.symm.trans h4), fun i hi => (h i hi).2.1, fun i hi => (h i hi).1⟩

/-! ### Slices that came in -/
theorem cell_spot {w : World} {a : Addr} {v : Value} (h : w.cell? a = some v) : a = ⟨a.block, a.off, none⟩ := by
  cases a with
  | mk b o s =>
    cases s with
    | none => rfl
    | some s =>
      unfold World.cell? at h
      simp only at h
      split at h
      · simp at h
      · cases h

theorem open_rowL {H : Type} {enc : TypeId × Value → H} {P : Program} {w : World} {spare : Nat → Bool} {held : Bool} {α : Type} [Inhabited α] {c : α → List Value} {k : Nat} (hk : ∀ a, (c a).length = k) (hk0 : 0 < k) {t e : TypeId} {fuel : Nat} {cs : List Value} {x : DataW H × List MemPlace}
    (ht : P.underlying t = some (.slice e)) (hce : P.cellsOf e = k) (h : DataW.trod enc P w 0 spare held fuel t cs = some x)
    (hel : ∀ (b : Nat) (o : Nat) (cs' : List Value) (n : Nat) (y : DataW H × List MemPlace), cs'.length = k → (∀ j, j < k → w.cell? ⟨b, o + j, none⟩ = cs'[j]?) → DataW.trod enc P w 0 spare held n e cs' = some y → ∃ a : α, cs' = c a) :
    ∃ (p : Option Addr) (cap : Nat) (l : List α), cs = [.slice p l.length cap] ∧ SlAt w p (l.flatMap c) ∧ l.length ≤ cap := by
  rcases Deep.open_slice ht h with ⟨rfl, _⟩ | ⟨a, len, cap, m, n, D, Pl, rfl, hb, hl, hm, hmm, rfl, hx⟩
  · exact ⟨none, 0, [], rfl, SlAt.nil _ _, Nat.le_refl _⟩
  have hlm : len ≤ m := by rw [hmm]; split <;> omega
  have each : ∀ i, i < len → ∃ y : α, ∀ j, j < k → w.cell? ((a.add (i * k)).add j) = (c y)[j]? := by
    intro i hi
    obtain ⟨cs', h1, h2⟩ := hx i (by omega)
    rw [hce] at h1
    obtain ⟨_, hlen, hcell⟩ := World.cells?_some h1
    have h0 := hcell 0 hk0
    have hlt0 : 0 < cs'.length := by rw [hlen]; exact hk0
    rw [List.getElem?_eq_getElem hlt0] at h0
    have hsp := cell_spot h0
    have hadd0 : (a.add (i * k)).add 0 = a.add (i * k) := rfl
    rw [hadd0] at hsp
    obtain ⟨y, rfl⟩ := hel (a.add (i * k)).block (a.add (i * k)).off cs' n _ hlen (fun j hj => by rw [← addr_add, ← hsp]; exact hcell j hj) h2
    exact ⟨y, hcell⟩
  obtain ⟨f, hf⟩ := Deep.choose_lt each
  refine ⟨some a, cap, (List.range len).map f, by simp, ?_, by simpa using hl⟩
  have hn : ∀ i, i < len → nth ((List.range len).map f) i = f i := fun i hi => by rw [nth_eq (by simpa using hi)]; simp
  have hsp : 0 < len → a = ⟨a.block, a.off, none⟩ := fun h0 => by
    have h1 := hf 0 h0 0 hk0
    have hlt0 : 0 < (c (f 0)).length := by rw [hk]; exact hk0
    rw [List.getElem?_eq_getElem hlt0] at h1
    have : (a.add (0 * k)).add 0 = a := by rw [Nat.zero_mul]; rfl
    rw [this] at h1
    exact cell_spot h1
  refine ⟨fun hne => ?_, fun j u hu => ?_⟩
  · have : 0 < len := by
      rcases Nat.eq_zero_or_pos len with h0 | h0
      · subst h0; simp at hne
      · exact h0
    rw [hsp this]
    rfl
  · have hj : j < len * k := by
      have := (List.getElem?_eq_some_iff.1 hu).1
      rw [flat_len hk] at this
      simpa using this
    have hq : j / k < len := (Nat.div_lt_iff_lt_mul hk0).2 hj
    have hr : j % k < k := Nat.mod_lt _ hk0
    have he : (j / k) * k + j % k = j := by rw [Nat.mul_comm]; exact Nat.div_add_mod j k
    have e1 := flat_get hk ((List.range len).map f) (j / k) (j % k) (by simpa using hq) hr
    rw [he, hn _ hq, hu] at e1
    have e2 := hf (j / k) hq (j % k) hr
    have hl0 : 0 < len := Nat.lt_of_le_of_lt (Nat.zero_le _) hq
    rw [← e1, hsp hl0, addr_add, addr_add, Nat.add_assoc, he] at e2
    exact e2

end Go.Proofs.YthellfigmpjhlaaGreatDoor
