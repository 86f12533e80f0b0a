/- The law CidrMerges returns true for every input: Merge equals the reference and keeps the set of addresses. Conditions: the listed package-level variables read as the program lays them (tied by the card). -/
import Derived.Test.YthellfigmpjhlaaGreatDoorTie
import Derived.Test.YthellfigmpjhlaaGreatDoorCards
import Derived.Test.YthellfigmpjhlaaGreatDoorRow
import Derived.PinnedBridge
import Derived.Test.YthellfigmpjhlaaGreatDoorL03m
import Derived.Test.YthellfigmpjhlaaGreatDoorOpen
namespace Go.Proofs.YthellfigmpjhlaaGreatDoor
open Go Go.ChangeShapes Go.WideShapes Go.ChangeAt Go.RowKit
set_option linter.unusedVariables false
set_option linter.unusedSimpArgs false

noncomputable def cidrMerges_laid : List (String × DataW Unit) := Rows.cidrMergesRow.laid
theorem cidrMerges_own : ownKnob Tryz.prog.godebug = none := by kernel_rfl
theorem cidrMerges_laidOut : laidOutB Tryz.prog = true := by kernel_rfl
theorem cidrMerges_row (u : TypeId) (h : Tryz.prog.typeName? 3 u = some "*errors.errorString") : u = 226 :=
  typeName_ptr_named (nm := "errors.errorString") (by rw [show "*" ++ "errors.errorString" = "*errors.errorString" by decide]; kernel_rfl) (by kernel_rfl) (by decide) u (by rw [show "*" ++ "errors.errorString" = "*errors.errorString" by decide]; exact h)
def cidrMerges_txt : Nat → List UInt8 := fun i => if i = 0 then [97, 32, 110, 117, 109, 98, 101, 114, 32, 105, 115, 32, 111, 117, 116, 32, 111, 102, 32, 105, 116, 115, 32, 114, 97, 110, 103, 101] else if i = 3 then [105, 116, 32, 105, 115, 32, 110, 111, 116, 32, 111, 102, 32, 105, 116, 115, 32, 102, 111, 114, 109] else if i = 7 then [105, 116, 32, 105, 115, 32, 110, 111, 32, 114, 105, 103, 104, 116, 32, 97, 100, 100, 114, 101, 115, 115] else []
def cidrMerges_I : List Nat := [0, 3, 7]
theorem cidrMerges_errs {W : World} (h : laidMetH Tryz.prog cidrMerges_laid W) : ∃ ea, Errs cidrMerges_I ea W := by
  rw [MakeChecks.laidMetH_plain _ _ _ (by kernel_rfl)] at h
  unfold cidrMerges_laid Rows.cidrMergesRow at h
  replace h := h.tail
  replace h := h.tail
  replace h := h.tail
  replace h := h.tail
  obtain ⟨a0, v0, o0, s0⟩ := laid_err (g := 1) (ti := 24) (tp := 226) (te := 228) (ts := 9) h (by kernel_rfl) (by kernel_rfl) Tryz.underlying24 cidrMerges_row Tryz.underlying226 Tryz.underlying228 rfl rfl Tryz.underlying9 (by kernel_rfl) (by kernel_rfl)
  replace h := h.tail
  obtain ⟨a3, v3, o3, s3⟩ := laid_err (g := 4) (ti := 24) (tp := 226) (te := 228) (ts := 9) h (by kernel_rfl) (by kernel_rfl) Tryz.underlying24 cidrMerges_row Tryz.underlying226 Tryz.underlying228 rfl rfl Tryz.underlying9 (by kernel_rfl) (by kernel_rfl)
  replace h := h.tail
  obtain ⟨a7, v7, o7, s7⟩ := laid_err (g := 8) (ti := 24) (tp := 226) (te := 228) (ts := 9) h (by kernel_rfl) (by kernel_rfl) Tryz.underlying24 cidrMerges_row Tryz.underlying226 Tryz.underlying228 rfl rfl Tryz.underlying9 (by kernel_rfl) (by kernel_rfl)
  replace h := h.tail
  replace h := h.tail
  replace h := h.tail
  replace h := h.tail
  replace h := h.tail
  refine ⟨fun i => if i = 0 then a0 else if i = 3 then a3 else if i = 7 then a7 else ⟨0, 0, none⟩, errs_of cidrMerges_txt (by decide) ?_⟩
  intro i hi
  simp only [cidrMerges_I, List.mem_cons, List.mem_nil_iff, or_false] at hi
  rcases hi with rfl | rfl | rfl
  · exact ⟨v0, o0, s0⟩
  · exact ⟨v3, o3, s3⟩
  · exact ⟨v7, o7, s7⟩
theorem cidrMerges_lib {W : World} (h : laidMetH Tryz.prog cidrMerges_laid W) (hsh : W.ShapedOpen Tryz.prog) : LibW W := by
  obtain ⟨m, hM⟩ := cell_of_shapedOpen_int (k := .i64) (zero := #[.int .i64 0]) (t := 3) hsh (g := 18) (by decide) (by kernel_rfl) rfl (by kernel_rfl) (by kernel_rfl) Tryz.underlying3
  rw [MakeChecks.laidMetH_plain _ _ _ (by kernel_rfl)] at h
  have hCas := caseVar_of_reads { Tryz.lays159 with } Tryz.lays159.t206 ⟨by kernel_rfl, by kernel_rfl, by kernel_rfl, by kernel_rfl, by kernel_rfl, by kernel_rfl⟩ (by have hr := Lib.laidMet.reads h (n := "unicode.CaseRanges") (d := Rows.laid_unicode_CaseRanges) (by unfold cidrMerges_laid Rows.cidrMergesRow; exact .tail _ (.tail _ (.tail _ (.tail _ (.tail _ (.tail _ (.tail _ (.tail _ (.tail _ (.head _)))))))))); rw [show Rows.laid_unicode_CaseRanges = Lib.caseData from Pinned.caseRanges_eq] at hr; exact hr)
  have hUtf := utf8Tabs_of_reads { Tryz.lays159 with } ⟨by kernel_rfl, by kernel_rfl, by kernel_rfl, by kernel_rfl, by kernel_rfl, by kernel_rfl, by kernel_rfl⟩ (by have hr := Lib.laidMet.reads h (n := "unicode/utf8.first") (d := Rows.laid_unicode_utf8_first) (by unfold cidrMerges_laid Rows.cidrMergesRow; exact .tail _ (.tail _ (.tail _ (.tail _ (.tail _ (.tail _ (.tail _ (.tail _ (.tail _ (.tail _ (.head _))))))))))); rw [show Rows.laid_unicode_utf8_first = Lib.firstData from Pinned.utf8First_eq] at hr; exact hr) (by have hr := Lib.laidMet.reads h (n := "unicode/utf8.acceptRanges") (d := Rows.laid_unicode_utf8_acceptRanges) (by unfold cidrMerges_laid Rows.cidrMergesRow; exact .tail _ (.tail _ (.tail _ (.head _)))); rw [show Rows.laid_unicode_utf8_acceptRanges = Lib.acceptData from by kernel_rfl] at hr; exact hr)
  unfold cidrMerges_laid Rows.cidrMergesRow at h
  replace h := h.tail
  have hD := (Lib.tabIs_of_head (k := .u8) (zs := [0, 1, 56, 2, 57, 49, 28, 3, 61, 58, 42, 50, 38, 29, 17, 4, 62, 47, 59, 36, 45, 43, 51, 22, 53, 39, 33, 30, 24, 18, 12, 5, 63, 55, 48, 27, 60, 41, 37, 16, 46, 35, 44, 21, 52, 32, 23, 11, 54, 26, 40, 15, 34, 20, 31, 10, 25, 14, 19, 9, 13, 8, 7, 6]) (g := 25) (t := 235) (e := 5) (n := 64) (by kernel_rfl) (by kernel_rfl) Tryz.underlying235 Tryz.underlying5 (by kernel_rfl) (by kernel_rfl) h).cell (g := 25) (by kernel_rfl) 15 (by decide)
  replace h := h.tail
  have hP := Lib.tabIs_of_head (k := .u64) (zs := Lib.pow10Tab) (g := 21) (t := 215) (e := 151) (n := 20) (by kernel_rfl) (by kernel_rfl) Tryz.underlying215 Tryz.underlying151 (by kernel_rfl) (by kernel_rfl) h
  replace h := h.tail
  replace h := h.tail
  replace h := h.tail
  replace h := h.tail
  replace h := h.tail
  obtain ⟨aRange, vRange, oRange, sRange⟩ := laid_err (g := 20) (ti := 24) (tp := 226) (te := 228) (ts := 9) h (by kernel_rfl) (by kernel_rfl) Tryz.underlying24 cidrMerges_row Tryz.underlying226 Tryz.underlying228 rfl rfl Tryz.underlying9 (by kernel_rfl) (by kernel_rfl)
  replace h := h.tail
  obtain ⟨aSyntax, vSyntax, oSyntax, sSyntax⟩ := laid_err (g := 19) (ti := 24) (tp := 226) (te := 228) (ts := 9) h (by kernel_rfl) (by kernel_rfl) Tryz.underlying24 cidrMerges_row Tryz.underlying226 Tryz.underlying228 rfl rfl Tryz.underlying9 (by kernel_rfl) (by kernel_rfl)
  replace h := h.tail
  replace h := h.tail
  replace h := h.tail
  exact ⟨⟨m, hM⟩, hP, ⟨_, _, vSyntax⟩, ⟨_, _, vRange⟩, hD, hCas, hUtf⟩
set_option maxRecDepth 100000 in
theorem cidrMerges_lifted (os : Os) (started : os.Started) (H : Type) (enc : TypeId × Value → H) :
    ReturnsInHanded {} Tryz.checked os 13 .any (fun w args => (Rows.cidrMergesSpec.pre enc Tryz.prog Tryz.f13 [] false w args ∧ laidMetH Tryz.prog cidrMerges_laid w) ∧ sizedMet enc Tryz.prog Tryz.f13 (OpenSpec.ofChange Rows.cidrMergesSpec) false w args)
      (Rows.cidrMergesSpec.post enc Tryz.prog Tryz.f13 false true false false) := by
  refine law_lift (C := Tryz.checked) (X := fun w => laidMetH Tryz.prog cidrMerges_laid w) (fun _ _ hh h => h.of_heap hh) cidrMerges_own started (by kernel_rfl) Tryz.func13
    (ChangeSpec.witness_shaped (enc := enc) (C := Tryz.checked) (os := os) (X := fun w _ => laidMetH Tryz.prog cidrMerges_laid w) false (World.laidAll Tryz.prog os cidrMerges_laid) #[.slice none 0 0, .agg #[.bool false, .int .u8 0, .int .u8 0, .int .u8 0, .int .u8 0, .int .u8 0, .int .u8 0, .int .u8 0, .int .u8 0, .int .u8 0, .int .u8 0, .int .u8 0, .int .u8 0, .int .u8 0, .int .u8 0, .int .u8 0, .int .u8 0]] 8 (World.laidAll_os _ _ _)
      (World.shaped_of_ZipB (by kernel_rfl) (by kernel_rfl)) (by kernel_rfl) (by kernel_rfl) (by kernel_rfl)
      (by rw [MakeChecks.laidMetH_plain _ _ _ (by kernel_rfl)]; exact laidMet_laidAll _ (by kernel_rfl) (by kernel_rfl)))
    rfl rfl Tryz.underlying4 (fun ds hds => ?_) cidrMerges_laidOut (by kernel_rfl) ?_
  · match ds, hds with
    | [d0, d1], _ => rfl
  intro W base args ds p hval0 hA hlt hreach0 hL hsh
  have hval : ∀ (j : Nat) t v, Tryz.f13.params[j]? = some t → args[j]? = some v → Value.okWide Tryz.prog W .any base t v := hval0
  have hreach : (DataW.weightsEach Tryz.prog Tryz.f13.params.toList ds).all (· ≤ reachBytes) = true := hreach0
  rw [Tryz.params13] at hA hval hreach
  clear hval0 hreach0
  obtain ⟨ea, hE⟩ := cidrMerges_errs hL
  have hG := cidrMerges_lib hL hsh
  have hA0 := hA
  obtain ⟨v0, v1, d0, d1, p0, p1, hargs, rfl, rfl, h0, h1⟩ := trodAll_two hA
  obtain ⟨a0, n0, e0, rfl⟩ := WideShapes.okWide_slice Tryz.underlying92 (hval 0 92 v0 rfl (by rw [hargs]; rfl))
  obtain ⟨fu0, h0⟩ := h0
  obtain ⟨p, cap, l, g0, hs0, hc0⟩ := open_rowL (c := ptL) (k := 18) (fun _ => rfl) (by decide) Tryz.underlying92 (by kernel_rfl) h0 (fun b o cs' n y hl hc h => op_68 h)
  obtain ⟨rfl, rfl, rfl⟩ := Value.slice.inj (List.cons.inj g0).1
  obtain ⟨c1, rfl⟩ := okAgg (by kernel_rfl) (hval 1 33 v1 rfl (by rw [hargs]; rfl))
  obtain ⟨fu1, h1⟩ := h1
  obtain ⟨x, hx1⟩ := op_33 h1
  obtain rfl : c1 = (ipL x).toArray := by rw [← hx1]; rfl
  obtain rfl : args = #[.slice a0 l.length e0, ipV x] := by rw [← Array.toList_inj, hargs]; rfl
  exact law03_CidrMerges _ ea _ _ l x W hG hE (by decide) (by decide) (by decide) hs0 hc0
theorem cidrMerges_j2 : laidOutB Tryz.prog = true := by kernel_rfl
theorem cidrMerges_j3 : mapsRowed Tryz.prog = true := by kernel_rfl
theorem cidrMerges_j5 : namedTie Tryz.prog Rows.cidrMergesRow.named Rows.cidrMergesSpec.vars = true := by kernel_rfl
theorem cidrMerges_j10 : (Rows.cidrMergesRow.inPlace == Tryz.prog.inPlace 13) = true := by kernel_rfl
theorem cidrMerges_j11 : (Rows.cidrMergesRow.unfollowed == Tryz.prog.unfollowed 13) = true := by kernel_rfl
theorem cidrMerges_j12 : (Rows.cidrMergesRow.recurses == Tryz.prog.recurses 13) = true := by kernel_rfl
theorem cidrMerges_j13 : (Rows.cidrMergesRow.named == Tryz.prog.varsNamed 13) = true := by kernel_rfl
theorem cidrMerges_j23 : (Rows.cidrMergesRow.plainKeys == Tryz.prog.plainKeys) = true := by kernel_rfl
theorem cidrMerges_j25 : Tryz.prog.stopsHeard = true := by kernel_rfl
theorem cidrMerges_j26 : Tryz.prog.mayEnter = true := by kernel_rfl
theorem cidrMerges_j27 : (Rows.cidrMergesRow.lifted == Tryz.prog.liftsFinal) = true := by kernel_rfl
theorem cidrMerges_joined : joinedFacts Tryz.pinned.checked.prog 13 Tryz.f13 Rows.cidrMergesSpec Rows.cidrMergesRow = true := by
  unfold joinedFacts
  refine Bool.and_eq_true_iff.2 ⟨?_, (by kernel_rfl)⟩
  refine Bool.and_eq_true_iff.2 ⟨?_, (by kernel_rfl)⟩
  refine Bool.and_eq_true_iff.2 ⟨?_, (by kernel_rfl)⟩
  refine Bool.and_eq_true_iff.2 ⟨?_, (by kernel_rfl)⟩
  refine Bool.and_eq_true_iff.2 ⟨?_, (by kernel_rfl)⟩
  refine Bool.and_eq_true_iff.2 ⟨?_, cidrMerges_j27⟩
  refine Bool.and_eq_true_iff.2 ⟨?_, cidrMerges_j26⟩
  refine Bool.and_eq_true_iff.2 ⟨?_, cidrMerges_j25⟩
  refine Bool.and_eq_true_iff.2 ⟨?_, (by kernel_rfl)⟩
  refine Bool.and_eq_true_iff.2 ⟨?_, cidrMerges_j23⟩
  refine Bool.and_eq_true_iff.2 ⟨?_, (by kernel_rfl)⟩
  refine Bool.and_eq_true_iff.2 ⟨?_, (by kernel_rfl)⟩
  refine Bool.and_eq_true_iff.2 ⟨?_, (by kernel_rfl)⟩
  refine Bool.and_eq_true_iff.2 ⟨?_, (by kernel_rfl)⟩
  refine Bool.and_eq_true_iff.2 ⟨?_, (by kernel_rfl)⟩
  refine Bool.and_eq_true_iff.2 ⟨?_, (by kernel_rfl)⟩
  refine Bool.and_eq_true_iff.2 ⟨?_, (by kernel_rfl)⟩
  refine Bool.and_eq_true_iff.2 ⟨?_, (by kernel_rfl)⟩
  refine Bool.and_eq_true_iff.2 ⟨?_, (by kernel_rfl)⟩
  refine Bool.and_eq_true_iff.2 ⟨?_, cidrMerges_j13⟩
  refine Bool.and_eq_true_iff.2 ⟨?_, cidrMerges_j12⟩
  refine Bool.and_eq_true_iff.2 ⟨?_, cidrMerges_j11⟩
  refine Bool.and_eq_true_iff.2 ⟨?_, cidrMerges_j10⟩
  refine Bool.and_eq_true_iff.2 ⟨?_, (by kernel_rfl)⟩
  refine Bool.and_eq_true_iff.2 ⟨?_, (by kernel_rfl)⟩
  refine Bool.and_eq_true_iff.2 ⟨?_, (by kernel_rfl)⟩
  refine Bool.and_eq_true_iff.2 ⟨?_, (by kernel_rfl)⟩
  refine Bool.and_eq_true_iff.2 ⟨?_, cidrMerges_j5⟩
  refine Bool.and_eq_true_iff.2 ⟨?_, (by kernel_rfl)⟩
  refine Bool.and_eq_true_iff.2 ⟨?_, cidrMerges_j3⟩
  refine Bool.and_eq_true_iff.2 ⟨?_, cidrMerges_j2⟩
  kernel_rfl
theorem cidrMerges_holds : Rows.CidrMergesSaid :=
  OpenClaim.holds_of_wide 13 Tryz.f13 rfl rfl rfl rfl rfl rfl rfl ⟨rfl, rfl, rfl, rfl, rfl⟩ rfl rfl rfl rfl rfl (by kernel_rfl) Tryz.func13 cidrMerges_joined
    (of_decide_eq_true (by kernel_rfl)) (by unfold Func.isWrapper; rw [if_neg (of_decide_eq_false (by kernel_rfl))]; exact ⟨rfl, rfl⟩)
    (fun os started H enc _ => cidrMerges_lifted os started H enc)
theorem cidrMerges_card : Rows.CidrMergesCardSaid :=
  Claim7.holds_tied_plain_at .later [] [.data, .data, .data, .data, .sentinel, .sentinel, .sentinel, .sentinel, .sentinel, .pinned, .pinned] true (true, "2928e395946a7aa6820c439217e105ce18ceb8b30938c895b93a6d1450673b79") true cidrMerges_holds (fun _ h => by cases h) (by kernel_rfl) (fun _ h => by cases h) cidrMerges_row_tie rfl ⟨rfl, rfl⟩ (by kernel_rfl) rfl
    (fun f fn hf hfn => by
      obtain rfl : f = 13 := Option.some.inj ((show Tryz.prog.funcNamed Rows.cidrMergesRow.func = some 13 by kernel_rfl).symm.trans hf) |>.symm
      obtain rfl : fn = Tryz.f13 := (Option.some.inj (Tryz.func13.symm.trans hfn)).symm
      exact ⟨by kernel_rfl, fun j t ht => by
        rw [Tryz.params13] at ht
        have hm : t ∈ [92, 33] := by simpa using Array.mem_of_getElem? ht
        have hall : ([92, 33].all fun u => !Tryz.prog.wantsStandIn u) = true := by kernel_rfl
        exact (show Tryz.prog.wantsStandIn t = false by simpa using List.all_eq_true.1 hall t hm)⟩)
    (by kernel_rfl)
#print axioms cidrMerges_card
end Go.Proofs.YthellfigmpjhlaaGreatDoor
