/- The law NamesSorts returns true for every input: Compare and Sort equal the reference. Conditions: the listed package-level variables read as the program lays them (tied by the card). -/
import Derived.Test.YtkeialdhogfdjaaDoorTie
import Derived.Test.YtkeialdhogfdjaaDoorCards
import Derived.Test.YtkeialdhogfdjaaDoorRow
import Derived.Test.YtkeialdhogfdjaaDoorLSorts
namespace Go.Proofs.YtkeialdhogfdjaaDoor
open Go Go.ChangeShapes Go.WideShapes Go.ChangeAt Go.RowKit
set_option linter.unusedVariables false
set_option linter.unusedSimpArgs false

noncomputable def namesSorts_laid : List (String × DataW Unit) := Rows.namesSortsRow.laid
theorem namesSorts_own : ownKnob Tryd.prog.godebug = none := by kernel_rfl
theorem namesSorts_laidOut : laidOutB Tryd.prog = true := by kernel_rfl
theorem namesSorts_row (u : TypeId) (h : Tryd.prog.typeName? 3 u = some "*errors.errorString") : u = 109 :=
  typeName_ptr_named (nm := "errors.errorString") (by rw [show "*" ++ "errors.errorString" = "*errors.errorString" by decide]; kernel_rfl) (by kernel_rfl) (by decide) u (by rw [show "*" ++ "errors.errorString" = "*errors.errorString" by decide]; exact h)
def namesSorts_txt : Nat → List UInt8 := fun i => if i = 5 then [105, 116, 32, 105, 115, 32, 110, 111, 32, 114, 105, 103, 104, 116, 32, 110, 97, 109, 101] else []
def namesSorts_I : List Nat := [5]
theorem namesSorts_errs {W : World} (h : laidMetH Tryd.prog namesSorts_laid W) : ∃ ea, Errs namesSorts_I ea W := by
  rw [MakeChecks.laidMetH_plain _ _ _ (by kernel_rfl)] at h
  unfold namesSorts_laid Rows.namesSortsRow at h
  replace h := h.tail
  obtain ⟨a5, v5, o5, s5⟩ := laid_err (g := 0) (ti := 26) (tp := 109) (te := 134) (ts := 9) h (by kernel_rfl) (by kernel_rfl) Tryd.underlying26 namesSorts_row Tryd.underlying109 Tryd.underlying134 rfl rfl Tryd.underlying9 (by kernel_rfl) (by kernel_rfl)
  replace h := h.tail
  replace h := h.tail
  refine ⟨fun i => if i = 5 then a5 else ⟨0, 0, none⟩, errs_of namesSorts_txt (by decide) ?_⟩
  intro i hi
  simp only [namesSorts_I, List.mem_cons, List.mem_nil_iff, or_false] at hi
  rcases hi with rfl
  · exact ⟨v5, o5, s5⟩
set_option maxRecDepth 100000 in
theorem namesSorts_lifted (os : Os) (started : os.Started) (H : Type) (enc : TypeId × Value → H) :
    ReturnsInHanded {} Tryd.checked os 4 .any (fun w args => (Rows.namesSortsSpec.pre enc Tryd.prog Tryd.f4 [] false w args ∧ laidMetH Tryd.prog namesSorts_laid w) ∧ sizedMet enc Tryd.prog Tryd.f4 (OpenSpec.ofChange Rows.namesSortsSpec) false w args)
      (Rows.namesSortsSpec.post enc Tryd.prog Tryd.f4 false true false false) := by
  refine law_lift (C := Tryd.checked) (X := fun w => laidMetH Tryd.prog namesSorts_laid w) (fun _ _ hh h => h.of_heap hh) namesSorts_own started (by kernel_rfl) Tryd.func4
    (ChangeSpec.witness_shaped (enc := enc) (C := Tryd.checked) (os := os) (X := fun w _ => laidMetH Tryd.prog namesSorts_laid w) false (World.laidAll Tryd.prog os namesSorts_laid) #[.slice none 0 0] 8 (World.laidAll_os _ _ _)
      (World.shaped_of_ZipB (by kernel_rfl) (by kernel_rfl)) (by kernel_rfl) (by kernel_rfl) (by kernel_rfl)
      (by rw [MakeChecks.laidMetH_plain _ _ _ (by kernel_rfl)]; exact laidMet_laidAll _ (by kernel_rfl) (by kernel_rfl)))
    rfl rfl Tryd.underlying4 (fun ds hds => ?_) namesSorts_laidOut (by kernel_rfl) ?_
  · match ds, hds with
    | [d], _ => rfl
  intro W base args ds p hval0 hA hlt hreach0 hL hsh
  have hval : ∀ (j : Nat) t v, Tryd.f4.params[j]? = some t → args[j]? = some v → Value.okWide Tryd.prog W .any base t v := hval0
  have hreach : (DataW.weightsEach Tryd.prog Tryd.f4.params.toList ds).all (· ≤ reachBytes) = true := hreach0
  rw [Tryd.params4] at hA hval hreach
  clear hval0 hreach0
  obtain ⟨ea, hE⟩ := namesSorts_errs hL
  obtain ⟨v0, d0, hargs, rfl, fu, h0⟩ := trodAll_one hA
  have c9 : Tryd.prog.cellsOf 9 = 1 := by kernel_rfl
  obtain ⟨a0, n0, c0, rfl⟩ := WideShapes.okWide_slice Tryd.underlying36 (hval 0 36 v0 rfl (by rw [hargs]; rfl))
  obtain ⟨q, cap, l, g0, hsl⟩ := open_rowL (c := keyL) (k := 2) (fun _ => rfl) (by decide) Tryd.underlying36 (by kernel_rfl) h0 (fun b o cs' n y hl hc h => by
    obtain ⟨xs, n', _, _, _, hxl, hf⟩ := DataW.trod_struct Tryd.underlying23 h
    match cs', hl with
    | [v0, v1], _ =>
      have g0 := hf 0 _ rfl
      have g1 := hf 1 _ rfl
      match xs, hxl with
      | [y0, y1], _ =>
        obtain ⟨s0, e0, _⟩ := DataW.trod_string (cs := [v0]) Tryd.underlying9 (by simpa [c9] using g0)
        obtain ⟨s1, e1, _⟩ := DataW.trod_string (cs := [v1]) Tryd.underlying9 (by simpa [c9] using g1)
        exact ⟨⟨s0, s1⟩, by rw [(List.cons.inj e0).1, (List.cons.inj e1).1]; rfl⟩)
  obtain ⟨rfl, rfl, rfl⟩ := Value.slice.inj (List.cons.inj g0).1
  subst hargs
  obtain ⟨m, hM⟩ := cell_of_shapedOpen_int (k := .i64) (zero := #[.int .i64 0]) (t := 3) hsh (g := 18) (by decide) (by kernel_rfl) rfl (by kernel_rfl) (by kernel_rfl) Tryd.underlying3
  have h5 : namesSorts_I.contains 5 = true := by decide
  exact law05_NamesSorts _ ea m _ _ l W hM hE h5 hsl
theorem namesSorts_holds : Rows.NamesSortsSaid :=
  OpenClaim.holds_of_wide 4 Tryd.f4 rfl rfl rfl rfl rfl rfl rfl ⟨rfl, rfl, rfl, rfl, rfl⟩ rfl rfl rfl rfl rfl (by kernel_rfl) Tryd.func4 (by kernel_rfl)
    (of_decide_eq_true (by kernel_rfl)) (by unfold Func.isWrapper; rw [if_neg (of_decide_eq_false (by kernel_rfl))]; exact ⟨rfl, rfl⟩)
    (fun os started H enc _ => namesSorts_lifted os started H enc)
theorem namesSorts_card : Rows.NamesSortsCardSaid :=
  Claim7.holds_tied_plain_at .later [] [.data, .sentinel, .pinned] true (true, "9d7be72ee761d7e0f2e0358add042c8931c3b2e6a932393e0fe517d3eb68ed37") true namesSorts_holds (fun _ h => by cases h) (by kernel_rfl) (fun _ h => by cases h) namesSorts_row_tie rfl ⟨rfl, rfl⟩ (by kernel_rfl) rfl
    (fun f fn hf hfn => by
      obtain rfl : f = 4 := Option.some.inj ((show Tryd.prog.funcNamed Rows.namesSortsRow.func = some 4 by kernel_rfl).symm.trans hf) |>.symm
      obtain rfl : fn = Tryd.f4 := (Option.some.inj (Tryd.func4.symm.trans hfn)).symm
      exact ⟨by kernel_rfl, fun j t ht => by
        rw [Tryd.params4] at ht
        have hm : t ∈ [36] := by simpa using Array.mem_of_getElem? ht
        have hall : ([36].all fun u => !Tryd.prog.wantsStandIn u) = true := by kernel_rfl
        exact (show Tryd.prog.wantsStandIn t = false by simpa using List.all_eq_true.1 hall t hm)⟩)
    (by kernel_rfl)
#print axioms namesSorts_card
end Go.Proofs.YtkeialdhogfdjaaDoor
