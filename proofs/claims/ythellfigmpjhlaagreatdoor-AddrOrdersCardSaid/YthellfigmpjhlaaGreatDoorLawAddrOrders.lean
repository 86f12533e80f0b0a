/- The law AddrOrders returns true for every input: Compare of addresses equals the reference and is an order. Conditions: the listed package-level variables read as the program lays them (tied by the card). -/
import Derived.Test.YthellfigmpjhlaaGreatDoorTie
import Derived.Test.YthellfigmpjhlaaGreatDoorCards
import Derived.Test.YthellfigmpjhlaaGreatDoorRow
import Derived.Test.YthellfigmpjhlaaGreatDoorL02
import Derived.Test.YthellfigmpjhlaaGreatDoorOpen
namespace Go.Proofs.YthellfigmpjhlaaGreatDoor
open Go Go.ChangeShapes Go.WideShapes Go.ChangeAt Go.RowKit
set_option linter.unusedVariables false
set_option linter.unusedSimpArgs false

noncomputable def addrOrders_laid : List (String × DataW Unit) := Rows.addrOrdersRow.laid
theorem addrOrders_own : ownKnob Tryz.prog.godebug = none := by kernel_rfl
theorem addrOrders_laidOut : laidOutB Tryz.prog = true := by kernel_rfl
theorem addrOrders_row (u : TypeId) (h : Tryz.prog.typeName? 3 u = some "*errors.errorString") : u = 226 :=
  typeName_ptr_named (nm := "errors.errorString") (by rw [show "*" ++ "errors.errorString" = "*errors.errorString" by decide]; kernel_rfl) (by kernel_rfl) (by decide) u (by rw [show "*" ++ "errors.errorString" = "*errors.errorString" by decide]; exact h)
def addrOrders_txt : Nat → List UInt8 := fun i => if i = 3 then [105, 116, 32, 105, 115, 32, 110, 111, 116, 32, 111, 102, 32, 105, 116, 115, 32, 102, 111, 114, 109] else []
def addrOrders_I : List Nat := [3]
theorem addrOrders_errs {W : World} (h : laidMetH Tryz.prog addrOrders_laid W) : ∃ ea, Errs addrOrders_I ea W := by
  rw [MakeChecks.laidMetH_plain _ _ _ (by kernel_rfl)] at h
  unfold addrOrders_laid Rows.addrOrdersRow at h
  replace h := h.tail
  replace h := h.tail
  replace h := h.tail
  replace h := h.tail
  obtain ⟨a3, v3, o3, s3⟩ := laid_err (g := 4) (ti := 24) (tp := 226) (te := 228) (ts := 9) h (by kernel_rfl) (by kernel_rfl) Tryz.underlying24 addrOrders_row Tryz.underlying226 Tryz.underlying228 rfl rfl Tryz.underlying9 (by kernel_rfl) (by kernel_rfl)
  replace h := h.tail
  replace h := h.tail
  replace h := h.tail
  replace h := h.tail
  replace h := h.tail
  refine ⟨fun i => if i = 3 then a3 else ⟨0, 0, none⟩, errs_of addrOrders_txt (by decide) ?_⟩
  intro i hi
  simp only [addrOrders_I, List.mem_cons, List.mem_nil_iff, or_false] at hi
  rcases hi with rfl
  · exact ⟨v3, o3, s3⟩
theorem addrOrders_lib {W : World} (h : laidMetH Tryz.prog addrOrders_laid W) (hsh : W.ShapedOpen Tryz.prog) : LibW W := by
  obtain ⟨m, hM⟩ := cell_of_shapedOpen_int (k := .i64) (zero := #[.int .i64 0]) (t := 3) hsh (g := 18) (by decide) (by kernel_rfl) rfl (by kernel_rfl) (by kernel_rfl) Tryz.underlying3
  rw [MakeChecks.laidMetH_plain _ _ _ (by kernel_rfl)] at h
  unfold addrOrders_laid Rows.addrOrdersRow at h
  replace h := h.tail
  have hD := (Lib.tabIs_of_head (k := .u8) (zs := [0, 1, 56, 2, 57, 49, 28, 3, 61, 58, 42, 50, 38, 29, 17, 4, 62, 47, 59, 36, 45, 43, 51, 22, 53, 39, 33, 30, 24, 18, 12, 5, 63, 55, 48, 27, 60, 41, 37, 16, 46, 35, 44, 21, 52, 32, 23, 11, 54, 26, 40, 15, 34, 20, 31, 10, 25, 14, 19, 9, 13, 8, 7, 6]) (g := 25) (t := 235) (e := 5) (n := 64) (by kernel_rfl) (by kernel_rfl) Tryz.underlying235 Tryz.underlying5 (by kernel_rfl) (by kernel_rfl) h).cell (g := 25) (by kernel_rfl) 15 (by decide)
  replace h := h.tail
  have hP := Lib.tabIs_of_head (k := .u64) (zs := Lib.pow10Tab) (g := 21) (t := 215) (e := 151) (n := 20) (by kernel_rfl) (by kernel_rfl) Tryz.underlying215 Tryz.underlying151 (by kernel_rfl) (by kernel_rfl) h
  replace h := h.tail
  replace h := h.tail
  replace h := h.tail
  obtain ⟨aRange, vRange, oRange, sRange⟩ := laid_err (g := 20) (ti := 24) (tp := 226) (te := 228) (ts := 9) h (by kernel_rfl) (by kernel_rfl) Tryz.underlying24 addrOrders_row Tryz.underlying226 Tryz.underlying228 rfl rfl Tryz.underlying9 (by kernel_rfl) (by kernel_rfl)
  replace h := h.tail
  obtain ⟨aSyntax, vSyntax, oSyntax, sSyntax⟩ := laid_err (g := 19) (ti := 24) (tp := 226) (te := 228) (ts := 9) h (by kernel_rfl) (by kernel_rfl) Tryz.underlying24 addrOrders_row Tryz.underlying226 Tryz.underlying228 rfl rfl Tryz.underlying9 (by kernel_rfl) (by kernel_rfl)
  replace h := h.tail
  replace h := h.tail
  replace h := h.tail
  exact ⟨⟨m, hM⟩, hP, ⟨_, _, vSyntax⟩, ⟨_, _, vRange⟩, hD⟩
set_option maxRecDepth 100000 in
theorem addrOrders_lifted (os : Os) (started : os.Started) (H : Type) (enc : TypeId × Value → H) :
    ReturnsInHanded {} Tryz.checked os 5 .any (fun w args => (Rows.addrOrdersSpec.pre enc Tryz.prog Tryz.f5 [] false w args ∧ laidMetH Tryz.prog addrOrders_laid w) ∧ sizedMet enc Tryz.prog Tryz.f5 (OpenSpec.ofChange Rows.addrOrdersSpec) false w args)
      (Rows.addrOrdersSpec.post enc Tryz.prog Tryz.f5 false true false false) := by
  refine law_lift (C := Tryz.checked) (X := fun w => laidMetH Tryz.prog addrOrders_laid w) (fun _ _ hh h => h.of_heap hh) addrOrders_own started (by kernel_rfl) Tryz.func5
    (ChangeSpec.witness_shaped (enc := enc) (C := Tryz.checked) (os := os) (X := fun w _ => laidMetH Tryz.prog addrOrders_laid w) false (World.laidAll Tryz.prog os addrOrders_laid) #[.agg #[.bool false, .int .u8 0, .int .u8 0, .int .u8 0, .int .u8 0, .int .u8 0, .int .u8 0, .int .u8 0, .int .u8 0, .int .u8 0, .int .u8 0, .int .u8 0, .int .u8 0, .int .u8 0, .int .u8 0, .int .u8 0, .int .u8 0], .agg #[.bool false, .int .u8 0, .int .u8 0, .int .u8 0, .int .u8 0, .int .u8 0, .int .u8 0, .int .u8 0, .int .u8 0, .int .u8 0, .int .u8 0, .int .u8 0, .int .u8 0, .int .u8 0, .int .u8 0, .int .u8 0, .int .u8 0], .agg #[.bool false, .int .u8 0, .int .u8 0, .int .u8 0, .int .u8 0, .int .u8 0, .int .u8 0, .int .u8 0, .int .u8 0, .int .u8 0, .int .u8 0, .int .u8 0, .int .u8 0, .int .u8 0, .int .u8 0, .int .u8 0, .int .u8 0]] 8 (World.laidAll_os _ _ _)
      (World.shaped_of_ZipB (by kernel_rfl) (by kernel_rfl)) (by kernel_rfl) (by kernel_rfl) (by kernel_rfl)
      (by rw [MakeChecks.laidMetH_plain _ _ _ (by kernel_rfl)]; exact laidMet_laidAll _ (by kernel_rfl) (by kernel_rfl)))
    rfl rfl Tryz.underlying4 (fun ds hds => ?_) addrOrders_laidOut (by kernel_rfl) ?_
  · match ds, hds with
    | [d0, d1, d2], _ => rfl
  intro W base args ds p hval0 hA hlt hreach0 hL hsh
  have hval : ∀ (j : Nat) t v, Tryz.f5.params[j]? = some t → args[j]? = some v → Value.okWide Tryz.prog W .any base t v := hval0
  have hreach : (DataW.weightsEach Tryz.prog Tryz.f5.params.toList ds).all (· ≤ reachBytes) = true := hreach0
  rw [Tryz.params5] at hA hval hreach
  clear hval0 hreach0
  obtain ⟨ea, hE⟩ := addrOrders_errs hL
  have hG := addrOrders_lib hL hsh
  have hA0 := hA
  obtain ⟨v0, v1, v2, d0, d1, d2, p0, p1, p2, hargs, rfl, rfl, h0, h1, h2⟩ := trodAll_three hA
  obtain ⟨c0, rfl⟩ := okAgg (by kernel_rfl) (hval 0 33 v0 rfl (by rw [hargs]; rfl))
  obtain ⟨fu0, h0⟩ := h0
  obtain ⟨x, hx0⟩ := op_33 h0
  obtain rfl : c0 = (ipL x).toArray := by rw [← hx0]; rfl
  obtain ⟨c1, rfl⟩ := okAgg (by kernel_rfl) (hval 1 33 v1 rfl (by rw [hargs]; rfl))
  obtain ⟨fu1, h1⟩ := h1
  obtain ⟨y, hx1⟩ := op_33 h1
  obtain rfl : c1 = (ipL y).toArray := by rw [← hx1]; rfl
  obtain ⟨c2, rfl⟩ := okAgg (by kernel_rfl) (hval 2 33 v2 rfl (by rw [hargs]; rfl))
  obtain ⟨fu2, h2⟩ := h2
  obtain ⟨z, hx2⟩ := op_33 h2
  obtain rfl : c2 = (ipL z).toArray := by rw [← hx2]; rfl
  obtain rfl : args = #[ipV x, ipV y, ipV z] := by rw [← Array.toList_inj, hargs]; rfl
  exact law02_AddrOrders _ ea x y z W hG hE (by decide)
theorem addrOrders_j2 : laidOutB Tryz.prog = true := by kernel_rfl
theorem addrOrders_j3 : mapsRowed Tryz.prog = true := by kernel_rfl
theorem addrOrders_j5 : namedTie Tryz.prog Rows.addrOrdersRow.named Rows.addrOrdersSpec.vars = true := by kernel_rfl
theorem addrOrders_j10 : (Rows.addrOrdersRow.inPlace == Tryz.prog.inPlace 5) = true := by kernel_rfl
theorem addrOrders_j11 : (Rows.addrOrdersRow.unfollowed == Tryz.prog.unfollowed 5) = true := by kernel_rfl
theorem addrOrders_j12 : (Rows.addrOrdersRow.recurses == Tryz.prog.recurses 5) = true := by kernel_rfl
theorem addrOrders_j13 : (Rows.addrOrdersRow.named == Tryz.prog.varsNamed 5) = true := by kernel_rfl
theorem addrOrders_j23 : (Rows.addrOrdersRow.plainKeys == Tryz.prog.plainKeys) = true := by kernel_rfl
theorem addrOrders_j25 : Tryz.prog.stopsHeard = true := by kernel_rfl
theorem addrOrders_j26 : Tryz.prog.mayEnter = true := by kernel_rfl
theorem addrOrders_j27 : (Rows.addrOrdersRow.lifted == Tryz.prog.liftsFinal) = true := by kernel_rfl
theorem addrOrders_joined : joinedFacts Tryz.pinned.checked.prog 5 Tryz.f5 Rows.addrOrdersSpec Rows.addrOrdersRow = true := by
  unfold joinedFacts
  refine Bool.and_eq_true_iff.2 ⟨?_, (by kernel_rfl)⟩
  refine Bool.and_eq_true_iff.2 ⟨?_, (by kernel_rfl)⟩
  refine Bool.and_eq_true_iff.2 ⟨?_, (by kernel_rfl)⟩
  refine Bool.and_eq_true_iff.2 ⟨?_, (by kernel_rfl)⟩
  refine Bool.and_eq_true_iff.2 ⟨?_, (by kernel_rfl)⟩
  refine Bool.and_eq_true_iff.2 ⟨?_, addrOrders_j27⟩
  refine Bool.and_eq_true_iff.2 ⟨?_, addrOrders_j26⟩
  refine Bool.and_eq_true_iff.2 ⟨?_, addrOrders_j25⟩
  refine Bool.and_eq_true_iff.2 ⟨?_, (by kernel_rfl)⟩
  refine Bool.and_eq_true_iff.2 ⟨?_, addrOrders_j23⟩
  refine Bool.and_eq_true_iff.2 ⟨?_, (by kernel_rfl)⟩
  refine Bool.and_eq_true_iff.2 ⟨?_, (by kernel_rfl)⟩
  refine Bool.and_eq_true_iff.2 ⟨?_, (by kernel_rfl)⟩
  refine Bool.and_eq_true_iff.2 ⟨?_, (by kernel_rfl)⟩
  refine Bool.and_eq_true_iff.2 ⟨?_, (by kernel_rfl)⟩
  refine Bool.and_eq_true_iff.2 ⟨?_, (by kernel_rfl)⟩
  refine Bool.and_eq_true_iff.2 ⟨?_, (by kernel_rfl)⟩
  refine Bool.and_eq_true_iff.2 ⟨?_, (by kernel_rfl)⟩
  refine Bool.and_eq_true_iff.2 ⟨?_, (by kernel_rfl)⟩
  refine Bool.and_eq_true_iff.2 ⟨?_, addrOrders_j13⟩
  refine Bool.and_eq_true_iff.2 ⟨?_, addrOrders_j12⟩
  refine Bool.and_eq_true_iff.2 ⟨?_, addrOrders_j11⟩
  refine Bool.and_eq_true_iff.2 ⟨?_, addrOrders_j10⟩
  refine Bool.and_eq_true_iff.2 ⟨?_, (by kernel_rfl)⟩
  refine Bool.and_eq_true_iff.2 ⟨?_, (by kernel_rfl)⟩
  refine Bool.and_eq_true_iff.2 ⟨?_, (by kernel_rfl)⟩
  refine Bool.and_eq_true_iff.2 ⟨?_, (by kernel_rfl)⟩
  refine Bool.and_eq_true_iff.2 ⟨?_, addrOrders_j5⟩
  refine Bool.and_eq_true_iff.2 ⟨?_, (by kernel_rfl)⟩
  refine Bool.and_eq_true_iff.2 ⟨?_, addrOrders_j3⟩
  refine Bool.and_eq_true_iff.2 ⟨?_, addrOrders_j2⟩
  kernel_rfl
theorem addrOrders_holds : Rows.AddrOrdersSaid :=
  OpenClaim.holds_of_wide 5 Tryz.f5 rfl rfl rfl rfl rfl rfl rfl ⟨rfl, rfl, rfl, rfl, rfl⟩ rfl rfl rfl rfl rfl (by kernel_rfl) Tryz.func5 addrOrders_joined
    (of_decide_eq_true (by kernel_rfl)) (by unfold Func.isWrapper; rw [if_neg (of_decide_eq_false (by kernel_rfl))]; exact ⟨rfl, rfl⟩)
    (fun os started H enc _ => addrOrders_lifted os started H enc)
theorem addrOrders_card : Rows.AddrOrdersCardSaid :=
  Claim7.holds_tied_plain_at .later [] [.data, .data, .data, .data, .sentinel, .sentinel, .sentinel, .pinned, .pinned] true (true, "2928e395946a7aa6820c439217e105ce18ceb8b30938c895b93a6d1450673b79") true addrOrders_holds (fun _ h => by cases h) (by kernel_rfl) (fun _ h => by cases h) addrOrders_row_tie rfl ⟨rfl, rfl⟩ (by kernel_rfl) rfl
    (fun f fn hf hfn => by
      obtain rfl : f = 5 := Option.some.inj ((show Tryz.prog.funcNamed Rows.addrOrdersRow.func = some 5 by kernel_rfl).symm.trans hf) |>.symm
      obtain rfl : fn = Tryz.f5 := (Option.some.inj (Tryz.func5.symm.trans hfn)).symm
      exact ⟨by kernel_rfl, fun j t ht => by
        rw [Tryz.params5] at ht
        have hm : t ∈ [33, 33, 33] := by simpa using Array.mem_of_getElem? ht
        have hall : ([33, 33, 33].all fun u => !Tryz.prog.wantsStandIn u) = true := by kernel_rfl
        exact (show Tryz.prog.wantsStandIn t = false by simpa using List.all_eq_true.1 hall t hm)⟩)
    (by kernel_rfl)
#print axioms addrOrders_card
end Go.Proofs.YthellfigmpjhlaaGreatDoor
