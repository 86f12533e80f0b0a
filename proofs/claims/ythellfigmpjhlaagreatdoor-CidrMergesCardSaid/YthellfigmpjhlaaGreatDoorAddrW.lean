/- What package addr calls, and its parsing, walked. -/
import Derived.Test.YthellfigmpjhlaaGreatDoorIpW
import Derived.Test.YthellfigmpjhlaaGreatDoorErrs
import Derived.Test.YthellfigmpjhlaaGreatDoorShelf
import Derived.Test.YthellfigmpjhlaaGreatDoorLow
namespace Go.Proofs.YthellfigmpjhlaaGreatDoor
open Go Go.RowKit
open Go.Sort (grow)
set_option linter.unusedVariables false
set_option linter.unusedSimpArgs false

/-- What the library's functions ask of memory. -/
structure LibW (W : World) : Prop where
  max : ∃ m, W.cell? ⟨18, 0, none⟩ = some (.int .i64 m)
  pow : Lib.TabIs Tryz.prog W "internal/strconv.uint64pow10" .u64 Lib.pow10Tab
  syn : ∃ te pe, W.cell? ⟨19, 0, none⟩ = some (.iface te pe)
  rng : ∃ te pe, W.cell? ⟨20, 0, none⟩ = some (.iface te pe)
  deb : W.cell? ⟨25, 15, none⟩ = some (.int .u8 4)
  cas : Lib.CaseVar (Tryz.lays159_ren.g 13) Lib.caseA W
  utf : Lib.Utf8Tabs (Tryz.lays159_ren.g 3) (Tryz.lays159_ren.g 4) W

theorem var_own {P : Program} {w0 W : World} {X : Ext} {L : List Chunk} {n : String} {cs : Array Value} (h : w0.var? P n = some cs) (hO : Own w0 X L W) (hX : ∀ b, ¬ X.blk b) : W.var? P n = some cs := by
  unfold World.var? at h ⊢
  cases hg : P.globalNamed n with
  | none => simp [hg] at h
  | some g =>
    simp only [hg, Option.bind_some] at h ⊢
    have hlt : g < w0.heap.size := by
      rcases Nat.lt_or_ge g w0.heap.size with h' | h'
      · exact h'
      · simp [Array.getElem?_eq_none h'] at h
    rw [hO.old g hlt (hX g)]
    exact h

theorem case_own {w0 W : World} {L : List Chunk} {g : Nat} {T : Array Lib.CaseRow} (h : Lib.CaseVar g T w0) (hO : Own w0 noX L W) : Lib.CaseVar g T W := by
  have k : ∀ {b o : Nat} {v : Value}, w0.cell? ⟨b, o, none⟩ = some v → W.cell? ⟨b, o, none⟩ = some v := fun {b o v} hc => hO.oldCell (lt_of_cell hc) (fun x => x) hc
  obtain ⟨R, oR, cap, h1, h2⟩ := h
  exact ⟨R, oR, cap, k h1, fun i hi => ⟨k (h2 i hi).1, k (h2 i hi).2.1, k (h2 i hi).2.2.1, k (h2 i hi).2.2.2.1, k (h2 i hi).2.2.2.2⟩⟩
theorem utf_own {w0 W : World} {L : List Chunk} {g3 g4 : Nat} (h : Lib.Utf8Tabs g3 g4 w0) (hO : Own w0 noX L W) : Lib.Utf8Tabs g3 g4 W := by
  have k : ∀ {b o : Nat} {v : Value}, w0.cell? ⟨b, o, none⟩ = some v → W.cell? ⟨b, o, none⟩ = some v := fun {b o v} hc => hO.oldCell (lt_of_cell hc) (fun x => x) hc
  exact ⟨fun c hc => k (h.1 c hc), fun i hi => ⟨k (h.2 i hi).1, k (h.2 i hi).2⟩⟩
theorem LibW.own {w0 W : World} {L : List Chunk} (h : LibW w0) (hO : Own w0 noX L W) : LibW W :=
  ⟨h.max.imp fun m hm => hO.oldCell (lt_of_cell hm) (fun x => x) hm, var_own h.pow hO (fun _ x => x), h.syn.imp fun te hh => hh.imp fun pe hm => hO.oldCell (lt_of_cell hm) (fun x => x) hm, h.rng.imp fun te hh => hh.imp fun pe hm => hO.oldCell (lt_of_cell hm) (fun x => x) hm, hO.oldCell (lt_of_cell h.deb) (fun x => x) h.deb, case_own h.cas hO, utf_own h.utf hO⟩

theorem own_bytesWorld (w : World) (e : TypeId) (s : ByteArray) : Own w noX [] (Lib.bytesWorld w e s) :=
  ⟨rfl, rfl, rfl, by rw [Lib.bytesWorld_size]; omega, fun b hb _ => Lib.bytesWorld_at_old w e s b hb, fun e => Bool.noConfusion e, by simp, by simp, by simp, List.Pairwise.nil⟩
theorem own_growD (w : World) (k : Nat) (os : Array Obj) : Own w noX [] (grow (w.drewN k) os) :=
  ⟨rfl, rfl, rfl, by show w.heap.size ≤ (w.heap ++ os).size; simp, fun b hb _ => by show (w.heap ++ os)[b]? = _; rw [Array.getElem?_append, if_pos hb], fun e => Bool.noConfusion e, by simp, by simp, by simp, List.Pairwise.nil⟩

theorem contains_ret (s : ByteArray) (W : World) : Ret Tryz.prog 86 #[.string s, .string ⟨#[58]⟩] W fun v W' => v = .bool (hasC s) ∧ Own W noX [] W' :=
  Ret.of (Any.strings_Contains_one Tryz.lays144 s 58 W) fun _ _ ⟨he, hw⟩ => ⟨_, he, rfl, by rw [hw]; exact Own.start W _⟩
theorem cut2_ret (s : ByteArray) (W : World) (hG : LibW W) (hs : s.size ≤ 1000000) : Ret Tryz.prog 102 #[.string s, .string ⟨#[58, 58]⟩] W fun v W' => v = .tuple #[.string (cutH s), .string (cutT s), .bool (cutY s)] ∧ Own W noX [] W' := by
  obtain ⟨m, hm⟩ := hG.max
  exact Ret.of (Any.strings_Cut Tryz.lays145 s ⟨#[58, 58]⟩ m W (by omega) hm) fun _ _ ⟨he, k, hw⟩ => ⟨_, he, rfl, by rw [hw]; exact own_drewN W _ k⟩
theorem split_ret (s : ByteArray) (c : UInt8) (W : World) (hG : LibW W) (hs : s.size ≤ 1000000) : Ret Tryz.prog 138 #[.string s, .string ⟨#[c]⟩] W fun v W' => ∃ q qc, v = .slice q (splitOn s c).length qc ∧ Own W noX [rowL strL 1 9 q qc (splitOn s c)] W' := by
  obtain ⟨m, hm⟩ := hG.max
  refine Ret.of (Any.strings_Split Tryz.lays146 (by kernel_rfl) s ⟨#[c]⟩ m W (by omega) hm (by show 1 ≤ 1; omega)) ?_
  rintro e W' ⟨he, hw⟩
  have hlen : (splitOn s c).length = Lib.countB s ⟨#[c]⟩ + 1 := Lib.splitB_all _ (by show 1 ≤ 1; omega) 0 _ s rfl
  have hle := Lib.countB_le ⟨#[c]⟩ (by show 1 ≤ 1; omega) s.size s (Nat.le_refl _)
  refine ⟨_, he, some ⟨W.heap.size, 0, none⟩, Lib.countB s ⟨#[c]⟩ + 1, by rw [hlen], ?_⟩
  have h := own_row_new (c := strL) (k := 1) (l := splitOn s c) (e := 9) (cap := Lib.countB s ⟨#[c]⟩ + 1) (n := W.heap.size) (W' := W') (fun _ => False) W ((splitOn s c).map Value.string).toArray (by rw [hw]; rfl) (by rw [hw]; rfl) (by rw [hw]; rfl) (by rw [hw]; rfl) (by rw [hw]; exact Nat.le_refl _) rfl (by simp only [maxLen]; omega) (by simp [hlen]) (by omega) (by
    have hf : ∀ l : List ByteArray, l.flatMap strL = l.map Value.string := fun l => by induction l with | nil => rfl | cons a t ih => simp [strL, ih]
    rw [hf, List.take_of_length_le (by simp)])
  exact ⟨h.os, h.tape, h.output, h.size, fun b hb _ => h.old b hb (fun x => x), fun e => Bool.noConfusion e, h.holds, h.alive, fun x hx b hb => .inl ((h.fresh x hx b hb).resolve_right (fun x => x)), h.disj⟩
theorem Tryx_bx : Builder.Extra Tryz.prog Tryz.lays159_ren := { sizeBuilder := by kernel_rfl, liesBuilder := by kernel_rfl, t5 := by kernel_rfl, a5 := fun w => by kernel_rfl, z5 := fun w => by kernel_rfl, v5 := fun w => by kernel_rfl, infoByte := by kernel_rfl, cellsByte := by kernel_rfl, sizeByte := by kernel_rfl, neB5 := by decide }
theorem toLower_ret (s : ByteArray) (W : World) (hG : LibW W) (hs : s.size ≤ 1000000) : Ret Tryz.prog 197 #[.string s] W fun v W' => v = .string (lowD s) ∧ Own W noX [] W' :=
  Ret.of (Any.strings_ToLower_any Tryz.lays159 Tryx_bx s W (by omega) hG.cas hG.utf) fun _ _ ⟨he, hb⟩ => ⟨_, he, rfl, own_below hb⟩
theorem indexByte_ret (c : UInt8) (W : World) : Ret Tryz.prog 198 #[.string hexS, .int .u8 (c.toNat : Int)] W fun v W' => v = .int .i64 (Lib.indexByte hexS.data.toList c) ∧ Own W noX [] W' :=
  Ret.of (Any.strings_IndexByte Tryz.lays137 hexS (c.toNat : Int) W) fun _ _ ⟨he, hw⟩ => ⟨_, he, by simp, by rw [hw]; exact Own.start W _⟩
theorem itoa_ret (n : Int) (W : World) (hG : LibW W) (h0 : -9223372036854775808 ≤ n) (h1 : n ≤ 9223372036854775807) : Ret Tryz.prog 80 #[.int .i64 n] W fun v W' => v = .string ⟨(Lib.itoa n).toArray⟩ ∧ Own W noX [] W' :=
  Ret.of (Any.strconv_Itoa Tryz.lays171 n h0 h1 W hG.pow) fun _ _ ⟨he, k, os, hw⟩ => ⟨_, he, rfl, by rw [hw]; exact own_growD W k os⟩
def uintN (s : ByteArray) : Nat := match Lib.parseUintB 8 s.data.toList with | .ok u => u | .syntax => 0 | .range => 255
theorem uintN_bd (s : ByteArray) : uintN s ≤ 255 := by
  unfold uintN
  split
  · rename_i u hu; exact Lib.parseUintB_le hu
  · omega
  · omega
def uintOk (s : ByteArray) : Bool := match Lib.parseUintB 8 s.data.toList with | .ok _ => true | _ => false
theorem parseUint_ret (s : ByteArray) (W : World) (hG : LibW W) (hs : s.size ≤ 1000000) : Ret Tryz.prog 166 #[.string s, .int .i64 10, .int .i64 8] W fun v W' => ∃ te pe, v = .tuple #[.int .u64 (uintN s : Int), if uintOk s then .nilIface else .iface te pe] ∧ Own W noX [] W' := by
  unfold uintN uintOk
  cases h : Lib.parseUintB 8 s.data.toList with
  | ok u => exact Ret.of (Any.strconv_ParseUint_10_at8_ok Tryz.laysPu14 s (by omega) u h W) fun _ _ ⟨he, hw⟩ => ⟨_, he, 0, .nilIface, rfl, by rcases hw with rfl | rfl; exact Own.start _ _; exact own_bytesWorld _ _ _⟩
  | «syntax» =>
    obtain ⟨te, pe, hm⟩ := hG.syn
    exact Ret.of (Any.strconv_ParseUint_10_at8_syntax Tryz.laysPu14 s (by omega) h _ W hm (.inr ⟨_, _, rfl⟩)) fun _ _ ⟨N, he, _, _, hb⟩ => ⟨_, he, _, _, rfl, own_below hb⟩
  | range =>
    obtain ⟨te, pe, hm⟩ := hG.rng
    exact Ret.of (Any.strconv_ParseUint_10_at8_range Tryz.laysPu14 s (by omega) h _ W hm (.inr ⟨_, _, rfl⟩)) fun _ _ ⟨N, he, _, _, hb⟩ => ⟨_, he, _, _, rfl, own_below hb⟩

theorem x_errNe {o : Oper} {E : Env} {W : World} {ax bx : Operand} {T' te : TypeId} {b : Bool} {pe : Value} (hop : o.op = .binOp .neq 24 ax bx T') (h1 : rho E ax = if b then .nilIface else .iface te pe) (h2 : rho E bx = .nilIface) (g1 : (eqGuard .neq 24 ax bx (.iface te pe) .nilIface).run Tryz.prog W = .ok () W) (g2 : (eqGuard .neq 24 ax bx .nilIface .nilIface).run Tryz.prog W = .ok () W) : (execOp (rho E) o).run Tryz.prog W = .ok (.value (.bool (!b))) W := by
  cases b
  · exact x_ne (x := .iface te pe) (y := .nilIface) (r := false) hop h1 h2 g1 rfl (by kernel_rfl)
  · exact x_ne (x := .nilIface) (y := .nilIface) (r := true) hop h1 h2 g2 rfl (by kernel_rfl)

theorem dec_eq (s : ByteArray) : decP s = if uintOk s = true then (if s.size > 3 ∨ ¬ (⟨(Lib.itoa (uintN s : Int)).toArray⟩ : ByteArray) = s then -1 else (uintN s : Int)) else -1 := by unfold decP uintOk uintN; cases Lib.parseUintB 8 s.data.toList <;> simp
theorem dec_ok {s : ByteArray} (hu : uintOk s = true) (h1 : ¬ (s.size : Int) > 3) (h2 : (⟨(Lib.itoa (uintN s : Int)).toArray⟩ : ByteArray) = s) : (uintN s : Int) = decP s := by
  rw [dec_eq, if_pos hu, if_neg]
  rintro (h | h)
  · omega
  · exact h h2
theorem dec_bad {s : ByteArray} (h : uintOk s = false ∨ (s.size : Int) > 3 ∨ ¬ (⟨(Lib.itoa (uintN s : Int)).toArray⟩ : ByteArray) = s) : -1 = decP s := by
  rw [dec_eq]
  split
  · rw [if_pos]
    rcases h with h | h | h
    · simp_all
    · exact .inl (by omega)
    · exact .inr h
  · rfl

set_option maxRecDepth 20000 in
theorem addr_decimal (s : ByteArray) (W : World) (hG : LibW W) (hs : s.size ≤ 1000000) : Ret Tryz.prog 139 #[.string s] W fun v W' => v = .int .i64 (decP s) ∧ Own W noX [] W' := by
 refine enter Tryz.func139 rfl (n := 26) rfl (by kernel_rfl) (E0 := [(0, .string s)]) (by kernel_rfl) ?_
 intro a hF; have hO := Own.start W noX
 refine wp_seq_k fun K1 hK1 => ?_
 refine wp_region_lit ?_
 refine Vp hF (.int .i64 0) ?_; clear hF; intro a hF
 refine L_nil ?_
 refine hK1 _ _ ?_
 refine wp_seq_k fun K2 hK2 => ?_
 refine wp_region_lit ?_
 refine Vp hF (.string s) ?_; clear hF; intro a hF
 refine Lc hF (parseUint_ret s W (hG.own hO) (by omega)) ?_
 clear hF; rintro _ W1 a ⟨te1, pe1, rfl, hk⟩ hF
 replace hO := hO.call0 hk; clear hk
 refine Vp hF (.tuple #[.int .u64 ((uintN s : Int)), (if uintOk s then .nilIface else .iface te1 pe1)]) ?_; clear hF; intro a hF
 refine Vp hF (.int .u64 ((uintN s : Int))) ?_; clear hF; intro a hF
 refine Vp hF ((if uintOk s then .nilIface else .iface te1 pe1)) ?_; clear hF; intro a hF
 refine Vp hF (.int .u64 ((uintN s : Int))) ?_; clear hF; intro a hF
 refine Vp hF ((if uintOk s then .nilIface else .iface te1 pe1)) ?_; clear hF; intro a hF
 refine L_nil ?_
 refine hK2 _ _ ?_
 refine wp_seq_k fun K3 hK3 => ?_
 refine wp_seq_k fun K4 hK4 => ?_
 refine wp_region_lit ?_
 refine Vp hF ((if uintOk s then .nilIface else .iface te1 pe1)) ?_; clear hF; intro a hF
 refine Vr hF (.bool (!(uintOk s))) (x_errNe (b := uintOk s) (te := te1) (pe := pe1) rfl (by kernel_rfl) (by kernel_rfl) (by kernel_rfl) (by kernel_rfl)) ?_; clear hF; intro a hF
 refine Vp hF (.bool (!(uintOk s))) ?_; clear hF; intro a hF
 cases q1 : (uintOk s : Bool)
 ·
  replace hF := hF.know (d := 12) (v' := .bool true) (by kernel_rfl) (congrArg Value.bool (notT q1))
  refine Lo hF ?_; clear hF; intro a hF
  refine Lo hF ?_; clear hF; intro a hF
  refine Lo hF ?_; clear hF; intro a hF
  refine Vp hF (.bool true) ?_; clear hF; intro a hF
  refine Vp hF (.bool true) ?_; clear hF; intro a hF
  refine Lo hF ?_; clear hF; intro a hF
  refine Lo hF ?_; clear hF; intro a hF
  refine Lo hF ?_; clear hF; intro a hF
  refine Lo hF ?_; clear hF; intro a hF
  refine Lo hF ?_; clear hF; intro a hF
  refine Vp hF (.bool true) ?_; clear hF; intro a hF
  refine L_nil ?_
  refine hK4 _ _ ?_
  refine cond_t hF (by kernel_rfl) (by kernel_rfl) ?_
  refine wp_seq_k fun K5 hK5 => ?_
  refine wp_region_lit ?_
  refine Vp hF (.int .i64 (-1)) ?_; clear hF; intro a hF
  refine L_nil ?_
  refine hK5 _ _ ?_
  refine wp_ret ?_
  refine then_ret ?_
  refine ret1 hF (v := .int .i64 (-1)) rfl (resT (by kernel_rfl)) (by refine ⟨?_, hO.nil⟩; first | exact congrArg (Value.int _) (dec_ok (by assumption) (by assumption) (by first | assumption | exact Decidable.of_not_not (by assumption))) | exact congrArg (Value.int _) (dec_bad (.inl (by assumption))) | exact congrArg (Value.int _) (dec_bad (.inr (.inl (by assumption)))) | exact congrArg (Value.int _) (dec_bad (.inr (.inr (by assumption))))) .ret (.inl rfl)
 ·
  replace hF := hF.know (d := 12) (v' := .bool false) (by kernel_rfl) (congrArg Value.bool (notF q1))
  refine Vp hF (.string s) ?_; clear hF; intro a hF
  refine Vp hF (.int .i64 ((s.size : Int))) ?_; clear hF; intro a hF
  refine Vp hF (.bool (decide ((s.size : Int) > 3))) ?_; clear hF; intro a hF
  refine Vp hF (.bool (decide ((s.size : Int) > 3))) ?_; clear hF; intro a hF
  refine Vp hF (.bool (decide ((s.size : Int) > 3))) ?_; clear hF; intro a hF
  by_cases q2 : (s.size : Int) > 3
  ·
   replace hF := hF.know (d := 17) (v' := .bool true) (by kernel_rfl) (congrArg Value.bool (decide_eq_true q2))
   refine Lo hF ?_; clear hF; intro a hF
   refine Lo hF ?_; clear hF; intro a hF
   refine Lo hF ?_; clear hF; intro a hF
   refine Lo hF ?_; clear hF; intro a hF
   refine Lo hF ?_; clear hF; intro a hF
   refine Vp hF (.bool true) ?_; clear hF; intro a hF
   refine L_nil ?_
   refine hK4 _ _ ?_
   refine cond_t hF (by kernel_rfl) (by kernel_rfl) ?_
   refine wp_seq_k fun K6 hK6 => ?_
   refine wp_region_lit ?_
   refine Vp hF (.int .i64 (-1)) ?_; clear hF; intro a hF
   refine L_nil ?_
   refine hK6 _ _ ?_
   refine wp_ret ?_
   refine then_ret ?_
   refine ret1 hF (v := .int .i64 (-1)) rfl (resT (by kernel_rfl)) (by refine ⟨?_, hO.nil⟩; first | exact congrArg (Value.int _) (dec_ok (by assumption) (by assumption) (by first | assumption | exact Decidable.of_not_not (by assumption))) | exact congrArg (Value.int _) (dec_bad (.inl (by assumption))) | exact congrArg (Value.int _) (dec_bad (.inr (.inl (by assumption)))) | exact congrArg (Value.int _) (dec_bad (.inr (.inr (by assumption))))) .ret (.inl rfl)
  ·
   replace hF := hF.know (d := 17) (v' := .bool false) (by kernel_rfl) (congrArg Value.bool (decide_eq_false q2))
   refine Vp hF (.int .u64 ((uintN s : Int))) ?_; clear hF; intro a hF
   refine Vr hF (.int .i64 ((uintN s : Int))) (x_int (x := IntKind.i64.wrap ((uintN s : Int))) (i64In (by omega) (by have := uintN_bd s; omega)) (by kernel_rfl)) ?_; clear hF; intro a hF
   refine Lc hF (itoa_ret (uintN s : Int) W1 (hG.own hO) (by (have hub := uintN_bd s; omega)) (by (have hub := uintN_bd s; omega))) ?_
   clear hF; rintro _ W2 a ⟨rfl, hk⟩ hF
   replace hO := hO.call0 hk; clear hk
   refine Vp hF (.string s) ?_; clear hF; intro a hF
   refine Vp hF (.bool (!(strEq (⟨(Lib.itoa (uintN s : Int)).toArray⟩ : ByteArray) s))) ?_; clear hF; intro a hF
   refine Vp hF (.bool (!(strEq (⟨(Lib.itoa (uintN s : Int)).toArray⟩ : ByteArray) s))) ?_; clear hF; intro a hF
   refine L_nil ?_
   refine hK4 _ _ ?_
   by_cases q3 : (⟨(Lib.itoa (uintN s : Int)).toArray⟩ : ByteArray) = s
   ·
    replace hF := hF.know (d := 23) (v' := .bool false) (by kernel_rfl) (congrArg Value.bool (notF (strEq_iff.2 (Decidable.of_not_not (not_not_intro q3)))))
    refine cond_f hF (by kernel_rfl) (by kernel_rfl) ?_
    refine wp_skip ?_
    refine hK3 _ _ ?_
    refine wp_seq_k fun K7 hK7 => ?_
    refine wp_region_lit ?_
    refine Vp hF (.int .u64 ((uintN s : Int))) ?_; clear hF; intro a hF
    refine Vr hF (.int .i64 ((uintN s : Int))) (x_int (x := IntKind.i64.wrap ((uintN s : Int))) (i64In (by omega) (by have := uintN_bd s; omega)) (by kernel_rfl)) ?_; clear hF; intro a hF
    refine Vp hF (.int .i64 ((uintN s : Int))) ?_; clear hF; intro a hF
    refine L_nil ?_
    refine hK7 _ _ ?_
    refine wp_ret ?_
    refine ret1 hF (v := .int .i64 ((uintN s : Int))) rfl (resT (by kernel_rfl)) (by refine ⟨?_, hO.nil⟩; first | exact congrArg (Value.int _) (dec_ok (by assumption) (by assumption) (by first | assumption | exact Decidable.of_not_not (by assumption))) | exact congrArg (Value.int _) (dec_bad (.inl (by assumption))) | exact congrArg (Value.int _) (dec_bad (.inr (.inl (by assumption)))) | exact congrArg (Value.int _) (dec_bad (.inr (.inr (by assumption))))) .ret (.inl rfl)
   ·
    replace hF := hF.know (d := 23) (v' := .bool true) (by kernel_rfl) (congrArg Value.bool (notT (strEq_false.2 q3)))
    refine cond_t hF (by kernel_rfl) (by kernel_rfl) ?_
    refine wp_seq_k fun K8 hK8 => ?_
    refine wp_region_lit ?_
    refine Vp hF (.int .i64 (-1)) ?_; clear hF; intro a hF
    refine L_nil ?_
    refine hK8 _ _ ?_
    refine wp_ret ?_
    refine then_ret ?_
    refine ret1 hF (v := .int .i64 (-1)) rfl (resT (by kernel_rfl)) (by refine ⟨?_, hO.nil⟩; first | exact congrArg (Value.int _) (dec_ok (by assumption) (by assumption) (by first | assumption | exact Decidable.of_not_not (by assumption))) | exact congrArg (Value.int _) (dec_bad (.inl (by assumption))) | exact congrArg (Value.int _) (dec_bad (.inr (.inl (by assumption)))) | exact congrArg (Value.int _) (dec_bad (.inr (.inr (by assumption))))) .ret (.inl rfl)

theorem split_size (s : ByteArray) (c : UInt8) (x : ByteArray) (h : x ∈ splitOn s c) : x.size ≤ s.size := splitB_size _ _ _ _ _ h
theorem nth_mem {α : Type} [Inhabited α] {l : List α} {i : Nat} (h : i < l.length) : nth l i ∈ l := by rw [nth_eq h]; exact List.getElem_mem _
theorem dotRound {l : List ByteArray} {i : Nat} (h : ∀ j, j < i → 0 ≤ decP (nth l j)) (hx : ¬ decP (nth l i) < 0) : ∀ j, j < i + 1 → 0 ≤ decP (nth l j) := fun j hj => by
  by_cases e : j = i
  · subst e; omega
  · exact h j (by omega)
theorem dot_bad {s : ByteArray} {i : Nat} (hi : i < (splitOn s 46).length) (hx : decP (nth (splitOn s 46) i) < 0) : dotP s = none := by
  unfold dotP
  rw [if_neg]
  rintro ⟨_, h⟩
  have := h _ (nth_mem hi)
  omega
theorem dot_len {s : ByteArray} (h : ¬ ((splitOn s 46).length : Int) = 4) : dotP s = none := by
  unfold dotP
  rw [if_neg]
  rintro ⟨h', _⟩
  omega
theorem dot_ok {s : ByteArray} (h4 : ((splitOn s 46).length : Int) = 4) (h : ∀ j, j < 4 → 0 ≤ decP (nth (splitOn s 46) j)) : dotP s = some (dotAcc (splitOn s 46) 4) := by
  unfold dotP
  rw [if_pos]
  refine ⟨by omega, fun x hx => ?_⟩
  obtain ⟨j, hj, rfl⟩ := List.mem_iff_getElem.1 hx
  have := h j (by omega)
  rwa [nth_eq hj] at this

set_option maxRecDepth 20000 in
theorem addr_dotted (I : List Nat) (ea : Nat → Addr) (s : ByteArray) (W : World) (hG : LibW W) (hE : Errs I ea W) (h3 : I.contains 3 = true) (hs : s.size ≤ 1000000) : Ret Tryz.prog 88 #[.string s] W fun v W' => v = retIp ea (dotP s) ∧ Own W noX [] W' := by
 refine enter Tryz.func88 rfl (n := 36) rfl (by kernel_rfl) (E0 := [(0, .string s)]) (by kernel_rfl) ?_
 intro a hF; have hO := Own.start W noX
 refine wp_seq_k fun K1 hK1 => ?_
 refine wp_region_lit ?_
 refine L_new hF hO (by kernel_rfl) (by kernel_rfl) (vf := fun b => .pointer (some ⟨b, 0, none⟩)) (ob := .cells #[.bool false, .int .u8 0, .int .u8 0, .int .u8 0, .int .u8 0, .int .u8 0, .int .u8 0, .int .u8 0, .int .u8 0, .int .u8 0, .int .u8 0, .int .u8 0, .int .u8 0, .int .u8 0, .int .u8 0, .int .u8 0, .int .u8 0] 33) (by kernel_rfl) (by kernel_rfl) ?_
 clear hF hO; intro b1 W1 a hO hF
 refine Vp hF (.nilIface) ?_; clear hF; intro a hF
 refine L_nil ?_
 refine hK1 _ _ ?_
 refine wp_seq_k fun K2 hK2 => ?_
 refine wp_region_lit ?_
 refine Vp hF (.string s) ?_; clear hF; intro a hF
 refine Lc hF (split_ret s 46 W1 (hG.own hO) (by omega)) ?_
 clear hF; rintro _ W2 a ⟨q1, qc1, rfl, hk⟩ hF
 replace hO := hO.call1 hk; clear hk
 refine Vp hF (.slice q1 ((splitOn s 46).length) qc1) ?_; clear hF; intro a hF
 refine L_nil ?_
 refine hK2 _ _ ?_
 refine wp_seq_k fun K3 hK3 => ?_
 refine wp_seq_k fun K4 hK4 => ?_
 refine wp_region_lit ?_
 refine Vp hF (.slice q1 ((splitOn s 46).length) qc1) ?_; clear hF; intro a hF
 refine Vp hF (.int .i64 (((splitOn s 46).length : Int))) ?_; clear hF; intro a hF
 refine Vp hF (.bool (!(((splitOn s 46).length : Int) == 4))) ?_; clear hF; intro a hF
 refine L_nil ?_
 refine hK4 _ _ ?_
 by_cases q2 : ((splitOn s 46).length : Int) = 4
 ·
  replace hF := hF.know (d := 13) (v' := .bool false) (by kernel_rfl) (congrArg Value.bool (neF (not_not_intro q2)))
  refine cond_f hF (by kernel_rfl) (by kernel_rfl) ?_
  refine wp_skip ?_
  refine hK3 _ _ ?_
  refine wp_seq_k fun K5 hK5 => ?_
  refine wp_region_lit ?_
  refine L_new hF hO (by kernel_rfl) (by kernel_rfl) (vf := fun b => .pointer (some ⟨b, 0, none⟩)) (ob := .cells #[.bool false, .int .u8 0, .int .u8 0, .int .u8 0, .int .u8 0, .int .u8 0, .int .u8 0, .int .u8 0, .int .u8 0, .int .u8 0, .int .u8 0, .int .u8 0, .int .u8 0, .int .u8 0, .int .u8 0, .int .u8 0, .int .u8 0] 33) (by kernel_rfl) (by kernel_rfl) ?_
  clear hF hO; intro b2 W3 a hO hF
  refine L_nil ?_
  refine hK5 _ _ ?_
  refine wp_seq_k fun K6 hK6 => ?_
  refine wp_seq_k fun K7 hK7 => ?_
  refine wp_region_lit ?_
  refine Vp hF (.slice q1 ((splitOn s 46).length) qc1) ?_; clear hF; intro a hF
  refine Vp hF (.int .i64 (((splitOn s 46).length : Int))) ?_; clear hF; intro a hF
  refine Vp hF (.int .i64 0) ?_; clear hF; intro a hF
  refine L_nil ?_
  refine hK7 _ _ ?_
  refine wp_block ?_
  replace hO := hO.reblk (cs := #[.bool false, .int .u8 0, .int .u8 0, .int .u8 0, .int .u8 0, .int .u8 0, .int .u8 0, .int .u8 0, .int .u8 0, .int .u8 0, .int .u8 0, .int .u8 0, .int .u8 0, .int .u8 0, .int .u8 0, .int .u8 0, .int .u8 0]) (cs' := (ipL noIp).toArray) (by kernel_rfl) (.head _)
  refine loopX (τ := Nat) (fun (i : Nat) a Wx => (i ≤ 4 ∧ ∀ j, j < i → 0 ≤ decP (nth (splitOn s 46) j)) ∧ Fr 36 a [(2, .pointer (some ⟨b1, 0, none⟩)), (5, .pointer (some ⟨b2, 0, none⟩)), (16, .slice q1 ((splitOn s 46).length) qc1), (17, .int .i64 (((splitOn s 46).length : Int))), (18, .int .i64 ((i : Int)))] ∧ Own W noX [.blk b2 (.cells (ipL (dotAcc (splitOn s 46) i)).toArray 33 (0, 0)), rowL strL 1 9 q1 qc1 (splitOn s 46), .blk b1 (.cells #[.bool false, .int .u8 0, .int .u8 0, .int .u8 0, .int .u8 0, .int .u8 0, .int .u8 0, .int .u8 0, .int .u8 0, .int .u8 0, .int .u8 0, .int .u8 0, .int .u8 0, .int .u8 0, .int .u8 0, .int .u8 0, .int .u8 0] 33 (0, 0))] Wx) (fun (i : Nat) => 4 - i) (0) ⟨⟨by omega, fun j h => by omega⟩, ?_, ?_⟩ ?_
  · exact hF.restrict ⟨(by kernel_rfl), (by kernel_rfl), (by kernel_rfl), (by kernel_rfl), (congrArg some (by first | rfl | exact congrArg (Value.int _) (by omega) | simp)), trivial⟩
  · exact hO.sub (.cons_cons _ (.cons_cons _ (.cons_cons _ (List.nil_sublist _))))
  clear hF hO; rintro i a Wl1 ⟨hI, hF, hO⟩ KhK_1 hK_1
  try dsimp only at hI
  refine wp_seq_k fun K8 hK8 => ?_
  refine wp_region_lit ?_
  refine Vp hF (.bool (decide ((i : Int) < ((splitOn s 46).length : Int)))) ?_; clear hF; intro a hF
  refine L_nil ?_
  refine hK8 _ _ ?_
  refine wp_seq_k fun K9 hK9 => ?_
  by_cases q3 : (i : Int) < ((splitOn s 46).length : Int)
  ·
   replace hF := hF.know (d := 19) (v' := .bool true) (by kernel_rfl) (congrArg Value.bool (decide_eq_true q3))
   refine cond_t hF (by kernel_rfl) (by kernel_rfl) ?_
   refine wp_skip ?_
   refine hK9 _ _ ?_
   refine wp_seq_k fun K10 hK10 => ?_
   refine wp_block ?_
   refine wp_seq_k fun K11 hK11 => ?_
   refine wp_region_lit ?_
   refine Vp hF (.int .i64 ((i : Int))) ?_; clear hF; intro a hF
   refine Vr hF (.pointer (some ⟨(ab q1), ao q1 + i * 1, none⟩)) (x_idxAddrS (p := q1) (len := (splitOn s 46).length) (cap := qc1) (elem := 9) (kd := .i64) (k := 1) (i := (i : Int)) rfl (by kernel_rfl) (by kernel_rfl) (by kernel_rfl) (by kernel_rfl) (by omega) (by omega) (SlAt.ne (k := 1) (hO.row (List.mem_cons_of_mem _ List.mem_cons_self)) (fun _ => rfl) (by decide) (by (first | omega | (simp only [List.length_set, List.length_take, List.length_drop, List.length_append, List.length_cons, List.length_nil]; done) | (simp only [List.length_set, List.length_take, List.length_drop, List.length_append, List.length_cons, List.length_nil]; omega) | (simp only [List.length_set, List.length_take, List.length_drop, List.length_append, List.length_cons, List.length_nil] at *; omega)) : i < (splitOn s 46).length))) ?_; clear hF; intro a hF
   refine Vr hF (.string (nth (splitOn s 46) i)) (x_load (p := .pointer (some ⟨(ab q1), ao q1 + i * 1, none⟩)) rfl (by kernel_rfl) (run_loadEl1 (by kernel_rfl) (hO.row (List.mem_cons_of_mem _ List.mem_cons_self)) (fun _ => rfl) (by (first | omega | (simp only [List.length_set, List.length_take, List.length_drop, List.length_append, List.length_cons, List.length_nil]; done) | (simp only [List.length_set, List.length_take, List.length_drop, List.length_append, List.length_cons, List.length_nil]; omega) | (simp only [List.length_set, List.length_take, List.length_drop, List.length_append, List.length_cons, List.length_nil] at *; omega))) rfl)) ?_; clear hF; intro a hF
   refine Vp hF (.int .i64 ((i : Int))) ?_; clear hF; intro a hF
   refine Vp hF (.string (nth (splitOn s 46) i)) ?_; clear hF; intro a hF
   refine L_nil ?_
   refine hK11 _ _ ?_
   refine wp_seq_k fun K12 hK12 => ?_
   refine wp_region_lit ?_
   refine Vp hF (.string (nth (splitOn s 46) i)) ?_; clear hF; intro a hF
   refine Lc hF (addr_decimal (nth (splitOn s 46) i) Wl1 (hG.own hO) (by have := split_size s 46 _ (nth_mem (l := splitOn s 46) (i := i) (by omega)); omega)) ?_
   clear hF; rintro _ W4 a ⟨rfl, hk⟩ hF
   replace hO := hO.call0 hk; clear hk
   refine Vp hF (.int .i64 ((decP (nth (splitOn s 46) i)))) ?_; clear hF; intro a hF
   refine L_nil ?_
   refine hK12 _ _ ?_
   refine wp_seq_k fun K13 hK13 => ?_
   refine wp_seq_k fun K14 hK14 => ?_
   refine wp_region_lit ?_
   refine Vp hF (.int .i64 ((decP (nth (splitOn s 46) i)))) ?_; clear hF; intro a hF
   refine Vp hF (.bool (decide ((decP (nth (splitOn s 46) i)) < 0))) ?_; clear hF; intro a hF
   refine L_nil ?_
   refine hK14 _ _ ?_
   by_cases q4 : (decP (nth (splitOn s 46) i)) < 0
   ·
    replace hF := hF.know (d := 26) (v' := .bool true) (by kernel_rfl) (congrArg Value.bool (decide_eq_true q4))
    refine cond_t hF (by kernel_rfl) (by kernel_rfl) ?_
    refine wp_seq_k fun K15 hK15 => ?_
    refine A_start (fun Wx => Own W noX [.blk b2 (.cells (ipL (dotAcc (splitOn s 46) i)).toArray 33 (0, 0)), rowL strL 1 9 q1 qc1 (splitOn s 46)] Wx) (by kernel_rfl) ?_
    replace hO := hO.drewN 1
    generalize hWd : ({ W4 with drawn := W4.drawn + 1 } : World) = W4_d at hO ⊢; clear hWd
    have hS := hO.sub (.cons_cons _ (.cons_cons _ (List.nil_sublist _)))
    refine Tk 0 rfl hF (.agg #[.bool false, .int .u8 0, .int .u8 0, .int .u8 0, .int .u8 0, .int .u8 0, .int .u8 0, .int .u8 0, .int .u8 0, .int .u8 0, .int .u8 0, .int .u8 0, .int .u8 0, .int .u8 0, .int .u8 0, .int .u8 0, .int .u8 0]) (fun Wx _ => by kernel_rfl) hS ?_; clear hF; intro a hF
    refine Tk 1 rfl hF (errV ea 3) (fun Wx hO => x_load (p := .pointer (some ⟨4, 0, none⟩)) rfl (by kernel_rfl) (hE.load hO 3 4 h3 (by kernel_rfl))) hS ?_; clear hF; intro a hF
    refine A_one (i := 2) (listed' := #[true, true, true, false]) (by kernel_rfl) rfl (by kernel_rfl) ?_
    obtain ⟨W5, hst, hO1⟩ := run_storeAt (P := Tryz.prog) (k := 17) (T := 33) (off := 0) (v := .agg #[.bool false, .int .u8 0, .int .u8 0, .int .u8 0, .int .u8 0, .int .u8 0, .int .u8 0, .int .u8 0, .int .u8 0, .int .u8 0, .int .u8 0, .int .u8 0, .int .u8 0, .int .u8 0, .int .u8 0, .int .u8 0, .int .u8 0]) (cs := #[.bool false, .int .u8 0, .int .u8 0, .int .u8 0, .int .u8 0, .int .u8 0, .int .u8 0, .int .u8 0, .int .u8 0, .int .u8 0, .int .u8 0, .int .u8 0, .int .u8 0, .int .u8 0, .int .u8 0, .int .u8 0, .int .u8 0]) (cs' := #[.bool false, .int .u8 0, .int .u8 0, .int .u8 0, .int .u8 0, .int .u8 0, .int .u8 0, .int .u8 0, .int .u8 0, .int .u8 0, .int .u8 0, .int .u8 0, .int .u8 0, .int .u8 0, .int .u8 0, .int .u8 0, .int .u8 0]) hO (by kernel_rfl) (by kernel_rfl) (by kernel_rfl) (Nat.le_of_ble_eq_true (by kernel_rfl)) (by kernel_rfl) (.tail (.tail (.head _)))
    refine OpK.skip hF (by kernel_rfl) (by kernel_rfl) (x_store (p := .pointer (some ⟨b1, 0, none⟩)) (v := .agg #[.bool false, .int .u8 0, .int .u8 0, .int .u8 0, .int .u8 0, .int .u8 0, .int .u8 0, .int .u8 0, .int .u8 0, .int .u8 0, .int .u8 0, .int .u8 0, .int .u8 0, .int .u8 0, .int .u8 0, .int .u8 0, .int .u8 0]) rfl (by kernel_rfl) (by kernel_rfl) hst) (by kernel_rfl) ?_
    clear hst hF; intro a hF; replace hO := hO1; clear hO1
    refine ⟨hO.sub (.cons_cons _ (.cons_cons _ (List.nil_sublist _))), ?_⟩
    have hS := hO.sub (.cons_cons _ (.cons_cons _ (List.nil_sublist _)))
    refine Tk 3 rfl hF (errV ea 3) (fun Wx _ => by kernel_rfl) hS ?_; clear hF; intro a hF
    refine A_done (by kernel_rfl) ?_
    refine hK15 _ _ ?_
    refine wp_ret ?_
    refine then_ret ?_
    refine block_ret ?_
    refine then_ret ?_
    refine then_ret ?_
    refine block_ret ?_
    refine then_ret ?_
    refine ret2 hF (v := ipV noIp) (u := errV ea 3) rfl (resC (ad := ⟨b1, 0, none⟩) (by kernel_rfl) (run_loadA (k := 17) (by kernel_rfl) (by kernel_rfl) (hO.blk (List.mem_cons_of_mem _ (List.mem_cons_of_mem _ List.mem_cons_self))) (by kernel_rfl) (by kernel_rfl))) (resT (by kernel_rfl)) (by refine ⟨?_, hO.nil⟩; first | (rw [dot_len (by assumption)]; rfl) | (rw [dot_bad (i := i) (by omega) (by assumption)]; rfl) | (obtain rfl : i = 4 := (by omega); rw [dot_ok (by omega) hI.2]; rfl)) .ret (.inl rfl)
   ·
    replace hF := hF.know (d := 26) (v' := .bool false) (by kernel_rfl) (congrArg Value.bool (decide_eq_false q4))
    refine cond_f hF (by kernel_rfl) (by kernel_rfl) ?_
    refine wp_skip ?_
    refine hK13 _ _ ?_
    refine wp_region_lit ?_
    refine Vp hF (.int .i64 ((i : Int))) ?_; clear hF; intro a hF
    refine Vp hF (.int .i64 ((decP (nth (splitOn s 46) i)))) ?_; clear hF; intro a hF
    refine Vr hF (.int .u8 (((ub (decP (nth (splitOn s 46) i))).toNat : Int))) (x_int (x := IntKind.u8.wrap ((decP (nth (splitOn s 46) i)))) (ub_wrap _) (by kernel_rfl)) ?_; clear hF; intro a hF
    refine Vp hF (.pointer (some ⟨b2, 1, none⟩)) ?_; clear hF; intro a hF
    refine Vr hF (.pointer (some ⟨b2, 1 + i * 1, none⟩)) (x_idxPtr (b := b2) (off := 1) (elem := 5) (len := 16) (kd := .i64) (k := 1) (i := (i : Int)) rfl (by kernel_rfl) (by kernel_rfl) (by kernel_rfl) (by kernel_rfl) (by omega) (by omega)) ?_; clear hF; intro a hF
    obtain ⟨W6, hst, hO1⟩ := run_store_ip (P := Tryz.prog) (T := 5) (i := i) (v := (ub (decP (nth (splitOn s 46) i)))) hO (by kernel_rfl) (by (first | omega | (simp only [List.length_set, List.length_take, List.length_drop, List.length_append, List.length_cons, List.length_nil]; done) | (simp only [List.length_set, List.length_take, List.length_drop, List.length_append, List.length_cons, List.length_nil]; omega) | (simp only [List.length_set, List.length_take, List.length_drop, List.length_append, List.length_cons, List.length_nil] at *; omega))) (.head _)
    refine L_skip hF (by kernel_rfl) (by kernel_rfl) (x_store (p := .pointer (some ⟨b2, 1 + i * 1, none⟩)) (v := .int .u8 (((ub (decP (nth (splitOn s 46) i))).toNat : Int))) rfl (by kernel_rfl) (by kernel_rfl) hst) (by kernel_rfl) ?_
    clear hst hF; intro a hF; replace hO := hO1; clear hO1
    refine L_nil ?_
    refine block_normal ?_
    refine hK10 _ _ ?_
    refine wp_region_lit ?_
    refine Vr hF (.int .i64 ((i : Int) + 1)) (x_int (x := IntKind.i64.wrap ((i : Int) + 1)) (i64In (by omega) (by omega)) (by kernel_rfl)) ?_; clear hF; intro a hF
    refine Vp hF (.int .i64 ((i : Int) + 1)) ?_; clear hF; intro a hF
    refine L_nil ?_
    refine hK_1 (i + 1) _ _ (by first | omega | (dsimp only; omega)) ⟨⟨by omega, dotRound hI.2 (by assumption)⟩, ?_, ?_⟩
    · exact hF.restrict ⟨(by kernel_rfl), (by kernel_rfl), (by kernel_rfl), (by kernel_rfl), (congrArg some (by first | rfl | exact congrArg (Value.int _) (by omega) | simp)), trivial⟩
    · exact hO.sub (.cons_cons _ (.cons_cons _ (.cons_cons _ (List.nil_sublist _))))
  ·
   replace hF := hF.know (d := 19) (v' := .bool false) (by kernel_rfl) (congrArg Value.bool (decide_eq_false q3))
   refine cond_f hF (by kernel_rfl) (by kernel_rfl) ?_
   refine wp_exit ?_
   refine then_exit ?_
   refine then_exit ?_
   refine inBlock_hit ?_
   refine hK6 _ _ ?_
   refine wp_seq_k fun K16 hK16 => ?_
   refine wp_region_lit ?_
   refine Vr hF (ipV (dotAcc (splitOn s 46) i)) (x_load (p := .pointer (some ⟨b2, 0, none⟩)) rfl (by kernel_rfl) (run_loadA (k := 17) (by kernel_rfl) (by kernel_rfl) (hO.blk List.mem_cons_self) (by kernel_rfl) (by kernel_rfl))) ?_; clear hF; intro a hF
   obtain ⟨W7, hst, hO1⟩ := run_storeAt (P := Tryz.prog) (k := 17) (T := 33) (off := 0) (v := ipV (dotAcc (splitOn s 46) i)) (cs := #[.bool false, .int .u8 0, .int .u8 0, .int .u8 0, .int .u8 0, .int .u8 0, .int .u8 0, .int .u8 0, .int .u8 0, .int .u8 0, .int .u8 0, .int .u8 0, .int .u8 0, .int .u8 0, .int .u8 0, .int .u8 0, .int .u8 0]) (cs' := (ipL (dotAcc (splitOn s 46) i)).toArray) hO (by kernel_rfl) (by kernel_rfl) (by kernel_rfl) (Nat.le_of_ble_eq_true (by kernel_rfl)) (by kernel_rfl) (.tail (.tail (.head _)))
   refine L_skip hF (by kernel_rfl) (by kernel_rfl) (x_store (p := .pointer (some ⟨b1, 0, none⟩)) (v := ipV (dotAcc (splitOn s 46) i)) rfl (by kernel_rfl) (by kernel_rfl) hst) (by kernel_rfl) ?_
   clear hst hF; intro a hF; replace hO := hO1; clear hO1
   refine Vp hF (.nilIface) ?_; clear hF; intro a hF
   refine L_nil ?_
   refine hK16 _ _ ?_
   refine wp_ret ?_
   refine ret2 hF (v := ipV (dotAcc (splitOn s 46) i)) (u := .nilIface) rfl (resC (ad := ⟨b1, 0, none⟩) (by kernel_rfl) (run_loadA (k := 17) (by kernel_rfl) (by kernel_rfl) (hO.blk (List.mem_cons_of_mem _ (List.mem_cons_of_mem _ List.mem_cons_self))) (by kernel_rfl) (by kernel_rfl))) (resT (by kernel_rfl)) (by refine ⟨?_, hO.nil⟩; first | (rw [dot_len (by assumption)]; rfl) | (rw [dot_bad (i := i) (by omega) (by assumption)]; rfl) | (obtain rfl : i = 4 := (by omega); rw [dot_ok (by omega) hI.2]; rfl)) .ret (.inl rfl)
 ·
  replace hF := hF.know (d := 13) (v' := .bool true) (by kernel_rfl) (congrArg Value.bool (neT q2))
  refine cond_t hF (by kernel_rfl) (by kernel_rfl) ?_
  refine wp_seq_k fun K17 hK17 => ?_
  refine A_start (fun Wx => Own W noX [rowL strL 1 9 q1 qc1 (splitOn s 46)] Wx) (by kernel_rfl) ?_
  replace hO := hO.drewN 1
  generalize hWd : ({ W2 with drawn := W2.drawn + 1 } : World) = W2_d at hO ⊢; clear hWd
  have hS := hO.sub (.cons_cons _ (List.nil_sublist _))
  refine Tk 0 rfl hF (.agg #[.bool false, .int .u8 0, .int .u8 0, .int .u8 0, .int .u8 0, .int .u8 0, .int .u8 0, .int .u8 0, .int .u8 0, .int .u8 0, .int .u8 0, .int .u8 0, .int .u8 0, .int .u8 0, .int .u8 0, .int .u8 0, .int .u8 0]) (fun Wx _ => by kernel_rfl) hS ?_; clear hF; intro a hF
  refine Tk 1 rfl hF (errV ea 3) (fun Wx hO => x_load (p := .pointer (some ⟨4, 0, none⟩)) rfl (by kernel_rfl) (hE.load hO 3 4 h3 (by kernel_rfl))) hS ?_; clear hF; intro a hF
  refine A_one (i := 2) (listed' := #[true, true, true, false]) (by kernel_rfl) rfl (by kernel_rfl) ?_
  obtain ⟨W8, hst, hO1⟩ := run_storeAt (P := Tryz.prog) (k := 17) (T := 33) (off := 0) (v := .agg #[.bool false, .int .u8 0, .int .u8 0, .int .u8 0, .int .u8 0, .int .u8 0, .int .u8 0, .int .u8 0, .int .u8 0, .int .u8 0, .int .u8 0, .int .u8 0, .int .u8 0, .int .u8 0, .int .u8 0, .int .u8 0, .int .u8 0]) (cs := #[.bool false, .int .u8 0, .int .u8 0, .int .u8 0, .int .u8 0, .int .u8 0, .int .u8 0, .int .u8 0, .int .u8 0, .int .u8 0, .int .u8 0, .int .u8 0, .int .u8 0, .int .u8 0, .int .u8 0, .int .u8 0, .int .u8 0]) (cs' := #[.bool false, .int .u8 0, .int .u8 0, .int .u8 0, .int .u8 0, .int .u8 0, .int .u8 0, .int .u8 0, .int .u8 0, .int .u8 0, .int .u8 0, .int .u8 0, .int .u8 0, .int .u8 0, .int .u8 0, .int .u8 0, .int .u8 0]) hO (by kernel_rfl) (by kernel_rfl) (by kernel_rfl) (Nat.le_of_ble_eq_true (by kernel_rfl)) (by kernel_rfl) (.tail (.head _))
  refine OpK.skip hF (by kernel_rfl) (by kernel_rfl) (x_store (p := .pointer (some ⟨b1, 0, none⟩)) (v := .agg #[.bool false, .int .u8 0, .int .u8 0, .int .u8 0, .int .u8 0, .int .u8 0, .int .u8 0, .int .u8 0, .int .u8 0, .int .u8 0, .int .u8 0, .int .u8 0, .int .u8 0, .int .u8 0, .int .u8 0, .int .u8 0, .int .u8 0]) rfl (by kernel_rfl) (by kernel_rfl) hst) (by kernel_rfl) ?_
  clear hst hF; intro a hF; replace hO := hO1; clear hO1
  refine ⟨hO.sub (.cons_cons _ (List.nil_sublist _)), ?_⟩
  have hS := hO.sub (.cons_cons _ (List.nil_sublist _))
  refine Tk 3 rfl hF (errV ea 3) (fun Wx _ => by kernel_rfl) hS ?_; clear hF; intro a hF
  refine A_done (by kernel_rfl) ?_
  refine hK17 _ _ ?_
  refine wp_ret ?_
  refine then_ret ?_
  refine ret2 hF (v := ipV noIp) (u := errV ea 3) rfl (resC (ad := ⟨b1, 0, none⟩) (by kernel_rfl) (run_loadA (k := 17) (by kernel_rfl) (by kernel_rfl) (hO.blk (List.mem_cons_of_mem _ List.mem_cons_self)) (by kernel_rfl) (by kernel_rfl))) (resT (by kernel_rfl)) (by refine ⟨?_, hO.nil⟩; first | (rw [dot_len (by assumption)]; rfl) | (rw [dot_bad (i := i) (by omega) (by assumption)]; rfl) | (obtain rfl : i = 4 := (by omega); rw [dot_ok (by omega) hI.2]; rfl)) .ret (.inl rfl)

set_option maxRecDepth 20000 in
theorem addr_group (s : ByteArray) (W : World) (hG : LibW W) (hs : s.size ≤ 1000000) : Ret Tryz.prog 164 #[.string s] W fun v W' => v = .int .i64 (grpP s) ∧ Own W noX [] W' := by
 have hll := lowD_len s
 have hlz : (lowD s).data.toList.length = (lowD s).size := Array.length_toList
 refine enter Tryz.func164 rfl (n := 32) rfl (by kernel_rfl) (E0 := [(0, .string s)]) (by kernel_rfl) ?_
 intro a hF; have hO := Own.start W noX
 refine wp_seq_k fun K1 hK1 => ?_
 refine wp_region_lit ?_
 refine Vp hF (.int .i64 0) ?_; clear hF; intro a hF
 refine L_nil ?_
 refine hK1 _ _ ?_
 refine wp_seq_k fun K2 hK2 => ?_
 refine wp_seq_k fun K3 hK3 => ?_
 refine wp_region_lit ?_
 refine Vp hF (.string s) ?_; clear hF; intro a hF
 refine Vp hF (.bool (strEq s (⟨#[]⟩ : ByteArray))) ?_; clear hF; intro a hF
 refine Vp hF (.bool (strEq s (⟨#[]⟩ : ByteArray))) ?_; clear hF; intro a hF
 by_cases q1 : s = (⟨#[]⟩ : ByteArray)
 ·
  replace hF := hF.know (d := 9) (v' := .bool true) (by kernel_rfl) (congrArg Value.bool (strEq_iff.2 q1))
  refine Lo hF ?_; clear hF; intro a hF
  refine Lo hF ?_; clear hF; intro a hF
  refine Lo hF ?_; clear hF; intro a hF
  refine Vp hF (.bool true) ?_; clear hF; intro a hF
  refine L_nil ?_
  refine hK3 _ _ ?_
  refine cond_t hF (by kernel_rfl) (by kernel_rfl) ?_
  refine wp_seq_k fun K4 hK4 => ?_
  refine wp_region_lit ?_
  refine Vp hF (.int .i64 (-1)) ?_; clear hF; intro a hF
  refine L_nil ?_
  refine hK4 _ _ ?_
  refine wp_ret ?_
  refine then_ret ?_
  refine ret1 hF (v := .int .i64 (-1)) rfl (resT (by kernel_rfl)) (by refine ⟨?_, hO.nil⟩; first | exact congrArg (Value.int _) (grpP_no (.inl (by assumption))) | exact congrArg (Value.int _) (grpP_no (.inr (by assumption))) | (rw [grpD_yes (by assumption) (by assumption), grpBad hI.2.2.2 (by omega) (by assumption)]; done) | (rw [grpD_yes (by assumption) (by assumption), grpEnd hI.2.2.2 (by omega)]; done)) .ret (.inl rfl)
 ·
  replace hF := hF.know (d := 9) (v' := .bool false) (by kernel_rfl) (congrArg Value.bool (strEq_false.2 q1))
  refine Vp hF (.string s) ?_; clear hF; intro a hF
  refine Vp hF (.int .i64 ((s.size : Int))) ?_; clear hF; intro a hF
  refine Vp hF (.bool (decide ((s.size : Int) > 4))) ?_; clear hF; intro a hF
  refine Vp hF (.bool (decide ((s.size : Int) > 4))) ?_; clear hF; intro a hF
  refine L_nil ?_
  refine hK3 _ _ ?_
  by_cases q2 : (s.size : Int) > 4
  ·
   replace hF := hF.know (d := 13) (v' := .bool true) (by kernel_rfl) (congrArg Value.bool (decide_eq_true q2))
   refine cond_t hF (by kernel_rfl) (by kernel_rfl) ?_
   refine wp_seq_k fun K5 hK5 => ?_
   refine wp_region_lit ?_
   refine Vp hF (.int .i64 (-1)) ?_; clear hF; intro a hF
   refine L_nil ?_
   refine hK5 _ _ ?_
   refine wp_ret ?_
   refine then_ret ?_
   refine ret1 hF (v := .int .i64 (-1)) rfl (resT (by kernel_rfl)) (by refine ⟨?_, hO.nil⟩; first | exact congrArg (Value.int _) (grpP_no (.inl (by assumption))) | exact congrArg (Value.int _) (grpP_no (.inr (by assumption))) | (rw [grpD_yes (by assumption) (by assumption), grpBad hI.2.2.2 (by omega) (by assumption)]; done) | (rw [grpD_yes (by assumption) (by assumption), grpEnd hI.2.2.2 (by omega)]; done)) .ret (.inl rfl)
  ·
   replace hF := hF.know (d := 13) (v' := .bool false) (by kernel_rfl) (congrArg Value.bool (decide_eq_false q2))
   refine cond_f hF (by kernel_rfl) (by kernel_rfl) ?_
   refine wp_skip ?_
   refine hK2 _ _ ?_
   refine wp_seq_k fun K6 hK6 => ?_
   refine wp_region_lit ?_
   refine Vp hF (.int .i64 0) ?_; clear hF; intro a hF
   refine L_nil ?_
   refine hK6 _ _ ?_
   refine wp_seq_k fun K7 hK7 => ?_
   refine wp_seq_k fun K8 hK8 => ?_
   refine wp_region_lit ?_
   refine Vp hF (.string s) ?_; clear hF; intro a hF
   refine Lc hF (toLower_ret s W (hG.own hO) (by omega)) ?_
   clear hF; rintro _ W1 a ⟨rfl, hk⟩ hF
   replace hO := hO.call0 hk; clear hk
   obtain ⟨b1, cap1, W2, hst, hO1⟩ := run_conv_bytes (P := Tryz.prog) (src := 9) (dst := 46) (s := lowD s) hO Tryz.underlying9 Tryz.underlying46 Tryz.underlying5
   refine L_valW hF (by kernel_rfl) (by kernel_rfl) (x_conv hst rfl (by kernel_rfl)) (by kernel_rfl) ?_
   clear hst hF; intro a hF; replace hO := hO1; clear hO1
   refine Vp hF (.int .i64 ((((lowD s).data.toList).length : Int))) ?_; clear hF; intro a hF
   refine Vp hF (.int .i64 0) ?_; clear hF; intro a hF
   refine L_nil ?_
   refine hK8 _ _ ?_
   refine wp_block ?_
   refine loopX (τ := Nat × Int) (fun (xτ : Nat × Int) a Wx => (fun (i : Nat) (n : Int) => (i ≤ (lowD s).data.toList.length ∧ 0 ≤ n ∧ n < 16 ^ i ∧ grpGo (lowD s).data.toList 0 = grpGo ((lowD s).data.toList.drop i) n) ∧ Fr 32 a [(3, .int .i64 (n)), (16, .slice (some ⟨b1, 0, none⟩) (((lowD s).data.toList).length) cap1), (17, .int .i64 ((((lowD s).data.toList).length : Int))), (18, .int .i64 ((i : Int)))] ∧ Own W noX [readL u8L (some ⟨b1, 0, none⟩) ((lowD s).data.toList)] Wx) (xτ.1) (xτ.2)) (fun (xτ : Nat × Int) => (fun (i : Nat) (n : Int) => (lowD s).data.toList.length - i) (xτ.1) (xτ.2)) ((0, 0)) ⟨⟨Nat.zero_le _, Int.le_refl _, by decide, rfl⟩, ?_, ?_⟩ ?_
   · exact hF.restrict ⟨(congrArg some (by first | rfl | exact congrArg (Value.int _) (by omega) | simp)), (by kernel_rfl), (by kernel_rfl), (congrArg some (by first | rfl | exact congrArg (Value.int _) (by omega) | simp)), trivial⟩
   · exact hO.sub (.cons_cons _ (List.nil_sublist _))
   clear hF hO; rintro ⟨i, n⟩ a Wl1 ⟨hI, hF, hO⟩ KhK_1 hK_1
   try dsimp only at hI
   refine wp_seq_k fun K9 hK9 => ?_
   refine wp_region_lit ?_
   refine Vp hF (.bool (decide ((i : Int) < (((lowD s).data.toList).length : Int)))) ?_; clear hF; intro a hF
   refine L_nil ?_
   refine hK9 _ _ ?_
   refine wp_seq_k fun K10 hK10 => ?_
   by_cases q3 : (i : Int) < (((lowD s).data.toList).length : Int)
   ·
    replace hF := hF.know (d := 19) (v' := .bool true) (by kernel_rfl) (congrArg Value.bool (decide_eq_true q3))
    refine cond_t hF (by kernel_rfl) (by kernel_rfl) ?_
    refine wp_skip ?_
    refine hK10 _ _ ?_
    refine wp_seq_k fun K11 hK11 => ?_
    refine wp_block ?_
    refine wp_seq_k fun K12 hK12 => ?_
    refine wp_region_lit ?_
    refine Vr hF (.pointer (some ⟨(ab (some ⟨b1, 0, none⟩)), ao (some ⟨b1, 0, none⟩) + i * 1, none⟩)) (x_idxAddrS (p := some ⟨b1, 0, none⟩) (len := ((lowD s).data.toList).length) (cap := cap1) (elem := 5) (kd := .i64) (k := 1) (i := (i : Int)) rfl (by kernel_rfl) (by kernel_rfl) (by kernel_rfl) (by kernel_rfl) (by omega) (by omega) (SlAt.ne (k := 1) (hO.read List.mem_cons_self) (fun _ => rfl) (by decide) (by (first | omega | (simp only [List.length_set, List.length_take, List.length_drop, List.length_append, List.length_cons, List.length_nil]; done) | (simp only [List.length_set, List.length_take, List.length_drop, List.length_append, List.length_cons, List.length_nil]; omega) | (simp only [List.length_set, List.length_take, List.length_drop, List.length_append, List.length_cons, List.length_nil] at *; omega)) : i < ((lowD s).data.toList).length))) ?_; clear hF; intro a hF
    refine Vr hF (.int .u8 (((nth ((lowD s).data.toList) i).toNat : Int))) (x_load (p := .pointer (some ⟨(ab (some ⟨b1, 0, none⟩)), ao (some ⟨b1, 0, none⟩) + i * 1, none⟩)) rfl (by kernel_rfl) (run_loadEl1 (by kernel_rfl) (hO.read List.mem_cons_self) (fun _ => rfl) (by (first | omega | (simp only [List.length_set, List.length_take, List.length_drop, List.length_append, List.length_cons, List.length_nil]; done) | (simp only [List.length_set, List.length_take, List.length_drop, List.length_append, List.length_cons, List.length_nil]; omega) | (simp only [List.length_set, List.length_take, List.length_drop, List.length_append, List.length_cons, List.length_nil] at *; omega))) rfl)) ?_; clear hF; intro a hF
    refine Vp hF (.int .u8 (((nth ((lowD s).data.toList) i).toNat : Int))) ?_; clear hF; intro a hF
    refine L_nil ?_
    refine hK12 _ _ ?_
    refine wp_seq_k fun K13 hK13 => ?_
    refine wp_region_lit ?_
    refine Vp hF (.int .u8 (((nth ((lowD s).data.toList) i).toNat : Int))) ?_; clear hF; intro a hF
    refine Lc hF (indexByte_ret (nth ((lowD s).data.toList) i) Wl1) ?_
    clear hF; rintro _ W3 a ⟨rfl, hk⟩ hF
    replace hO := hO.call0 hk; clear hk
    refine Vp hF (.int .i64 ((Lib.indexByte hexS.data.toList (nth ((lowD s).data.toList) i)))) ?_; clear hF; intro a hF
    refine L_nil ?_
    refine hK13 _ _ ?_
    refine wp_seq_k fun K14 hK14 => ?_
    refine wp_seq_k fun K15 hK15 => ?_
    refine wp_region_lit ?_
    refine Vp hF (.int .i64 ((Lib.indexByte hexS.data.toList (nth ((lowD s).data.toList) i)))) ?_; clear hF; intro a hF
    refine Vp hF (.bool (decide ((Lib.indexByte hexS.data.toList (nth ((lowD s).data.toList) i)) < 0))) ?_; clear hF; intro a hF
    refine L_nil ?_
    refine hK15 _ _ ?_
    by_cases q4 : (Lib.indexByte hexS.data.toList (nth ((lowD s).data.toList) i)) < 0
    ·
     replace hF := hF.know (d := 25) (v' := .bool true) (by kernel_rfl) (congrArg Value.bool (decide_eq_true q4))
     refine cond_t hF (by kernel_rfl) (by kernel_rfl) ?_
     refine wp_seq_k fun K16 hK16 => ?_
     refine wp_region_lit ?_
     refine Vp hF (.int .i64 (-1)) ?_; clear hF; intro a hF
     refine L_nil ?_
     refine hK16 _ _ ?_
     refine wp_ret ?_
     refine then_ret ?_
     refine block_ret ?_
     refine then_ret ?_
     refine then_ret ?_
     refine block_ret ?_
     refine then_ret ?_
     refine ret1 hF (v := .int .i64 (-1)) rfl (resT (by kernel_rfl)) (by refine ⟨?_, hO.nil⟩; first | exact congrArg (Value.int _) (grpP_no (.inl (by assumption))) | exact congrArg (Value.int _) (grpP_no (.inr (by assumption))) | (rw [grpD_yes (by assumption) (by assumption), grpBad hI.2.2.2 (by omega) (by assumption)]; done) | (rw [grpD_yes (by assumption) (by assumption), grpEnd hI.2.2.2 (by omega)]; done)) .ret (.inl rfl)
    ·
     replace hF := hF.know (d := 25) (v' := .bool false) (by kernel_rfl) (congrArg Value.bool (decide_eq_false q4))
     refine cond_f hF (by kernel_rfl) (by kernel_rfl) ?_
     refine wp_skip ?_
     refine hK14 _ _ ?_
     refine wp_region_lit ?_
     refine Vp hF (.int .i64 (n)) ?_; clear hF; intro a hF
     refine Vr hF (.int .i64 (n * 16)) (x_int (x := IntKind.i64.wrap (n * 16)) (i64In (by (first | omega | (have hix := idx_hex (nth (lowD s).data.toList i); have hp := p16D i (by omega); omega))) (by (first | omega | (have hix := idx_hex (nth (lowD s).data.toList i); have hp := p16D i (by omega); omega)))) (by kernel_rfl)) ?_; clear hF; intro a hF
     refine Vp hF (.int .i64 ((Lib.indexByte hexS.data.toList (nth ((lowD s).data.toList) i)))) ?_; clear hF; intro a hF
     refine Vr hF (.int .i64 (n * 16 + (Lib.indexByte hexS.data.toList (nth ((lowD s).data.toList) i)))) (x_int (x := IntKind.i64.wrap (((BitVec.ofInt 64 (n * 16) ||| BitVec.ofInt 64 ((Lib.indexByte hexS.data.toList (nth ((lowD s).data.toList) i)))).toNat : Nat) : Int)) (or_i64 (by (first | omega | (have hix := idx_hex (nth (lowD s).data.toList i); have hp := p16D i (by omega); omega))) (by (first | omega | (have hix := idx_hex (nth (lowD s).data.toList i); have hp := p16D i (by omega); omega))) (by (first | omega | (have hix := idx_hex (nth (lowD s).data.toList i); have hp := p16D i (by omega); omega))) (by (first | omega | (have hix := idx_hex (nth (lowD s).data.toList i); have hp := p16D i (by omega); omega))) (by (first | omega | (have hix := idx_hex (nth (lowD s).data.toList i); have hp := p16D i (by omega); omega)))) (by kernel_rfl)) ?_; clear hF; intro a hF
     refine Vp hF (.int .i64 (n * 16 + (Lib.indexByte hexS.data.toList (nth ((lowD s).data.toList) i)))) ?_; clear hF; intro a hF
     refine L_nil ?_
     refine block_normal ?_
     refine hK11 _ _ ?_
     refine wp_region_lit ?_
     refine Vr hF (.int .i64 ((i : Int) + 1)) (x_int (x := IntKind.i64.wrap ((i : Int) + 1)) (i64In (by omega) (by omega)) (by kernel_rfl)) ?_; clear hF; intro a hF
     refine Vp hF (.int .i64 ((i : Int) + 1)) ?_; clear hF; intro a hF
     refine L_nil ?_
     refine hK_1 ((i + 1, n * 16 + (Lib.indexByte hexS.data.toList (nth ((lowD s).data.toList) i)))) _ _ (by first | omega | (dsimp only; omega)) ⟨⟨by dsimp only; omega, by have hix := idx_hex (nth (lowD s).data.toList i); dsimp only; omega, by have hix := idx_hex (nth (lowD s).data.toList i); have hp := p16D i (by omega); dsimp only; omega, grpRound hI.2.2.2 (by omega) (by assumption) rfl⟩, ?_, ?_⟩
     · exact hF.restrict ⟨(congrArg some (by first | rfl | exact congrArg (Value.int _) (by omega) | simp)), (by kernel_rfl), (by kernel_rfl), (congrArg some (by first | rfl | exact congrArg (Value.int _) (by omega) | simp)), trivial⟩
     · exact hO.sub (.cons_cons _ (List.nil_sublist _))
   ·
    replace hF := hF.know (d := 19) (v' := .bool false) (by kernel_rfl) (congrArg Value.bool (decide_eq_false q3))
    refine cond_f hF (by kernel_rfl) (by kernel_rfl) ?_
    refine wp_exit ?_
    refine then_exit ?_
    refine then_exit ?_
    refine inBlock_hit ?_
    refine hK7 _ _ ?_
    refine wp_seq_k fun K17 hK17 => ?_
    refine wp_region_lit ?_
    refine Vp hF (.int .i64 (n)) ?_; clear hF; intro a hF
    refine Vp hF (.int .i64 (n)) ?_; clear hF; intro a hF
    refine L_nil ?_
    refine hK17 _ _ ?_
    refine wp_ret ?_
    refine ret1 hF (v := .int .i64 (n)) rfl (resT (by kernel_rfl)) (by refine ⟨?_, hO.nil⟩; first | exact congrArg (Value.int _) (grpP_no (.inl (by assumption))) | exact congrArg (Value.int _) (grpP_no (.inr (by assumption))) | (rw [grpD_yes (by assumption) (by assumption), grpBad hI.2.2.2 (by omega) (by assumption)]; done) | (rw [grpD_yes (by assumption) (by assumption), grpEnd hI.2.2.2 (by omega)]; done)) .ret (.inl rfl)

set_option maxRecDepth 20000 in
theorem addr_row (s : ByteArray) (W : World) (hG : LibW W) (hs : s.size ≤ 1000000) : Ret Tryz.prog 137 #[.string s] W fun v W' => ∃ q qc, v = .tuple #[.slice q (rowB s).length qc, .bool (rowOk s)] ∧ Own W noX [rowL u8L 1 5 q qc (rowB s)] W' := by
 have hsl := split_len s 58
 refine enter Tryz.func137 rfl (n := 31) rfl (by kernel_rfl) (E0 := [(0, .string s)]) (by kernel_rfl) ?_
 intro a hF; have hO := Own.start W noX
 refine wp_seq_k fun K1 hK1 => ?_
 refine wp_region_lit ?_
 refine Vp hF (.slice none 0 0) ?_; clear hF; intro a hF
 refine Vp hF (.bool false) ?_; clear hF; intro a hF
 refine L_nil ?_
 refine hK1 _ _ ?_
 refine wp_seq_k fun K2 hK2 => ?_
 refine wp_seq_k fun K3 hK3 => ?_
 refine wp_region_lit ?_
 refine Vp hF (.string s) ?_; clear hF; intro a hF
 refine Vp hF (.bool (strEq s (⟨#[]⟩ : ByteArray))) ?_; clear hF; intro a hF
 refine L_nil ?_
 refine hK3 _ _ ?_
 by_cases q1 : s = (⟨#[]⟩ : ByteArray)
 ·
  replace hF := hF.know (d := 9) (v' := .bool true) (by kernel_rfl) (congrArg Value.bool (strEq_iff.2 q1))
  refine cond_t hF (by kernel_rfl) (by kernel_rfl) ?_
  refine wp_seq_k fun K4 hK4 => ?_
  refine wp_region_lit ?_
  refine Vp hF (.slice none 0 0) ?_; clear hF; intro a hF
  refine Vp hF (.bool true) ?_; clear hF; intro a hF
  refine L_nil ?_
  refine hK4 _ _ ?_
  refine wp_ret ?_
  refine then_ret ?_
  refine ret2 hF (v := .slice none 0 0) (u := .bool true) rfl (resT (by kernel_rfl)) (resT (by kernel_rfl)) (by (have hr := (by first | exact rowOk_e (by assumption) | exact row_bad (i := i) (by assumption) (by omega) (by assumption)); exact ⟨none, 0, by rw [hr.1, hr.2]; rfl, by rw [hr.2]; exact hO.nil.nilRow _ _ _⟩)) .ret (.inl rfl)
 ·
  replace hF := hF.know (d := 9) (v' := .bool false) (by kernel_rfl) (congrArg Value.bool (strEq_false.2 q1))
  refine cond_f hF (by kernel_rfl) (by kernel_rfl) ?_
  refine wp_skip ?_
  refine hK2 _ _ ?_
  refine wp_seq_k fun K5 hK5 => ?_
  refine wp_region_lit ?_
  refine Vp hF (.slice none 0 0) ?_; clear hF; intro a hF
  refine L_nil ?_
  refine hK5 _ _ ?_
  refine wp_seq_k fun K6 hK6 => ?_
  refine wp_seq_k fun K7 hK7 => ?_
  refine wp_region_lit ?_
  refine Vp hF (.string s) ?_; clear hF; intro a hF
  refine Lc hF (split_ret s 58 W (hG.own hO) (by omega)) ?_
  clear hF; rintro _ W1 a ⟨q2, qc1, rfl, hk⟩ hF
  replace hO := hO.call1 hk; clear hk
  refine Vp hF (.int .i64 (((splitOn s 58).length : Int))) ?_; clear hF; intro a hF
  refine Vp hF (.int .i64 0) ?_; clear hF; intro a hF
  refine L_nil ?_
  refine hK7 _ _ ?_
  refine wp_block ?_
  replace hO := hO.nilRow u8L 1 5
  refine loopX (τ := Nat × Option Addr × Nat × List UInt8) (fun (xτ : Nat × Option Addr × Nat × List UInt8) a Wx => (fun (i : Nat) (q : Option Addr) (qc : Nat) (acc : List UInt8) => (i ≤ (splitOn s 58).length ∧ (∀ j, j < i → 0 ≤ grpP (nth (splitOn s 58) j)) ∧ acc = ((splitOn s 58).take i).flatMap grpB) ∧ Fr 31 a [(4, .slice q acc.length qc), (11, .slice q2 ((splitOn s 58).length) qc1), (12, .int .i64 (((splitOn s 58).length : Int))), (13, .int .i64 ((i : Int)))] ∧ Own W noX [rowL u8L 1 5 q qc acc, rowL strL 1 9 q2 qc1 (splitOn s 58)] Wx) (xτ.1) (xτ.2.1) (xτ.2.2.1) (xτ.2.2.2)) (fun (xτ : Nat × Option Addr × Nat × List UInt8) => (fun (i : Nat) (q : Option Addr) (qc : Nat) (acc : List UInt8) => (splitOn s 58).length - i) (xτ.1) (xτ.2.1) (xτ.2.2.1) (xτ.2.2.2)) ((0, none, 0, [])) ⟨⟨Nat.zero_le _, fun j h => by omega, rfl⟩, ?_, ?_⟩ ?_
  · exact hF.restrict ⟨(congrArg some (by first | rfl | exact congrArg (Value.int _) (by omega) | simp)), (by kernel_rfl), (by kernel_rfl), (congrArg some (by first | rfl | exact congrArg (Value.int _) (by omega) | simp)), trivial⟩
  · exact hO.sub (.cons_cons _ (.cons_cons _ (List.nil_sublist _)))
  clear hF hO; rintro ⟨i, q, qc, acc⟩ a Wl1 ⟨hI, hF, hO⟩ KhK_1 hK_1
  try dsimp only at hI
  refine wp_seq_k fun K8 hK8 => ?_
  refine wp_region_lit ?_
  refine Vp hF (.bool (decide ((i : Int) < ((splitOn s 58).length : Int)))) ?_; clear hF; intro a hF
  refine L_nil ?_
  refine hK8 _ _ ?_
  refine wp_seq_k fun K9 hK9 => ?_
  by_cases q3 : (i : Int) < ((splitOn s 58).length : Int)
  ·
   replace hF := hF.know (d := 14) (v' := .bool true) (by kernel_rfl) (congrArg Value.bool (decide_eq_true q3))
   refine cond_t hF (by kernel_rfl) (by kernel_rfl) ?_
   refine wp_skip ?_
   refine hK9 _ _ ?_
   refine wp_seq_k fun K10 hK10 => ?_
   refine wp_block ?_
   refine wp_seq_k fun K11 hK11 => ?_
   refine wp_region_lit ?_
   refine Vr hF (.pointer (some ⟨(ab q2), ao q2 + i * 1, none⟩)) (x_idxAddrS (p := q2) (len := (splitOn s 58).length) (cap := qc1) (elem := 9) (kd := .i64) (k := 1) (i := (i : Int)) rfl (by kernel_rfl) (by kernel_rfl) (by kernel_rfl) (by kernel_rfl) (by omega) (by omega) (SlAt.ne (k := 1) (hO.row (List.mem_cons_of_mem _ List.mem_cons_self)) (fun _ => rfl) (by decide) (by (first | omega | (simp only [List.length_set, List.length_take, List.length_drop, List.length_append, List.length_cons, List.length_nil]; done) | (simp only [List.length_set, List.length_take, List.length_drop, List.length_append, List.length_cons, List.length_nil]; omega) | (simp only [List.length_set, List.length_take, List.length_drop, List.length_append, List.length_cons, List.length_nil] at *; omega)) : i < (splitOn s 58).length))) ?_; clear hF; intro a hF
   refine Vr hF (.string (nth (splitOn s 58) i)) (x_load (p := .pointer (some ⟨(ab q2), ao q2 + i * 1, none⟩)) rfl (by kernel_rfl) (run_loadEl1 (by kernel_rfl) (hO.row (List.mem_cons_of_mem _ List.mem_cons_self)) (fun _ => rfl) (by (first | omega | (simp only [List.length_set, List.length_take, List.length_drop, List.length_append, List.length_cons, List.length_nil]; done) | (simp only [List.length_set, List.length_take, List.length_drop, List.length_append, List.length_cons, List.length_nil]; omega) | (simp only [List.length_set, List.length_take, List.length_drop, List.length_append, List.length_cons, List.length_nil] at *; omega))) rfl)) ?_; clear hF; intro a hF
   refine Vp hF (.string (nth (splitOn s 58) i)) ?_; clear hF; intro a hF
   refine L_nil ?_
   refine hK11 _ _ ?_
   refine wp_seq_k fun K12 hK12 => ?_
   refine wp_region_lit ?_
   refine Vp hF (.string (nth (splitOn s 58) i)) ?_; clear hF; intro a hF
   refine Lc hF (addr_group (nth (splitOn s 58) i) Wl1 (hG.own hO) (by have := split_size s 58 _ (nth_mem (l := splitOn s 58) (i := i) (by omega)); omega)) ?_
   clear hF; rintro _ W2 a ⟨rfl, hk⟩ hF
   replace hO := hO.call0 hk; clear hk
   refine Vp hF (.int .i64 ((grpP (nth (splitOn s 58) i)))) ?_; clear hF; intro a hF
   refine L_nil ?_
   refine hK12 _ _ ?_
   refine wp_seq_k fun K13 hK13 => ?_
   refine wp_seq_k fun K14 hK14 => ?_
   refine wp_region_lit ?_
   refine Vp hF (.int .i64 ((grpP (nth (splitOn s 58) i)))) ?_; clear hF; intro a hF
   refine Vp hF (.bool (decide ((grpP (nth (splitOn s 58) i)) < 0))) ?_; clear hF; intro a hF
   refine L_nil ?_
   refine hK14 _ _ ?_
   by_cases q4 : (grpP (nth (splitOn s 58) i)) < 0
   ·
    replace hF := hF.know (d := 20) (v' := .bool true) (by kernel_rfl) (congrArg Value.bool (decide_eq_true q4))
    refine cond_t hF (by kernel_rfl) (by kernel_rfl) ?_
    refine wp_seq_k fun K15 hK15 => ?_
    refine wp_region_lit ?_
    refine Vp hF (.slice none 0 0) ?_; clear hF; intro a hF
    refine Vp hF (.bool false) ?_; clear hF; intro a hF
    refine L_nil ?_
    refine hK15 _ _ ?_
    refine wp_ret ?_
    refine then_ret ?_
    refine block_ret ?_
    refine then_ret ?_
    refine then_ret ?_
    refine block_ret ?_
    refine then_ret ?_
    refine ret2 hF (v := .slice none 0 0) (u := .bool false) rfl (resT (by kernel_rfl)) (resT (by kernel_rfl)) (by (have hr := (by first | exact rowOk_e (by assumption) | exact row_bad (i := i) (by assumption) (by omega) (by assumption)); exact ⟨none, 0, by rw [hr.1, hr.2]; rfl, by rw [hr.2]; exact hO.nil.nilRow _ _ _⟩)) .ret (.inl rfl)
   ·
    replace hF := hF.know (d := 20) (v' := .bool false) (by kernel_rfl) (congrArg Value.bool (decide_eq_false q4))
    refine cond_f hF (by kernel_rfl) (by kernel_rfl) ?_
    refine wp_skip ?_
    refine hK13 _ _ ?_
    refine wp_region_lit ?_
    refine Vp hF (.slice q acc.length qc) ?_; clear hF; intro a hF
    refine Vp hF (.int .i64 ((grpP (nth (splitOn s 58) i)))) ?_; clear hF; intro a hF
    refine Vp hF (.int .i64 (((grpP (nth (splitOn s 58) i))).fdiv 256)) ?_; clear hF; intro a hF
    refine Vr hF (.int .u8 (((ub (((grpP (nth (splitOn s 58) i))).fdiv 256)).toNat : Int))) (x_int (x := IntKind.u8.wrap (((grpP (nth (splitOn s 58) i))).fdiv 256)) (ub_wrap _) (by kernel_rfl)) ?_; clear hF; intro a hF
    refine Vp hF (.int .i64 ((grpP (nth (splitOn s 58) i)))) ?_; clear hF; intro a hF
    refine Vr hF (.int .u8 (((ub (grpP (nth (splitOn s 58) i))).toNat : Int))) (x_int (x := IntKind.u8.wrap ((grpP (nth (splitOn s 58) i)))) (ub_wrap _) (by kernel_rfl)) ?_; clear hF; intro a hF
    refine L_new hF hO (by kernel_rfl) (by kernel_rfl) (vf := fun b => .slice (some ⟨b, 0, none⟩) 2 2) (ob := .cells #[.int .u8 (((ub (((grpP (nth (splitOn s 58) i))).fdiv 256)).toNat : Int)), .int .u8 (((ub (grpP (nth (splitOn s 58) i))).toNat : Int))] 5) (by kernel_rfl) (by kernel_rfl) ?_
    clear hF hO; intro b1 W3 a hO hF
    obtain ⟨p1, cap1, W4, hap, hO1, -⟩ := run_append_row (P := Tryz.prog) (ty := 46) (t := 46) (z := .int .u8 0) (k := 1) (bytes := 1) (q := some ⟨b1, 0, none⟩) (ys := ([(ub (((grpP (nth (splitOn s 58) i))).fdiv 256)), (ub (grpP (nth (splitOn s 58) i)))] : List UInt8)) (cq := 2) hO (.tail (.head _)) (by kernel_rfl) (by kernel_rfl) (by kernel_rfl) (by decide) (fun _ => rfl) (fun _ => rfl) (SlAt.blk hO List.mem_cons_self (by kernel_rfl)) (by (try simp only [List.length_append, List.length_take, List.length_drop, List.length_cons, List.length_nil, maxLen]); (first | omega | (have hac := acc_len hI.2.2; have hgb := grpP_bd (nth (splitOn s 58) i); (try simp only [maxLen] at *); omega))) (by (try simp only [List.length_append, List.length_take, List.length_drop, List.length_cons, List.length_nil, maxLen]); (first | omega | (have hac := acc_len hI.2.2; have hgb := grpP_bd (nth (splitOn s 58) i); (try simp only [maxLen] at *); omega)))
    refine L_valW hF (by kernel_rfl) (by kernel_rfl) (x_app hap rfl (by kernel_rfl) (by kernel_rfl) rfl) (by kernel_rfl) ?_
    clear hap hF; intro a hF; replace hO := hO1; clear hO1
    refine Vp hF (.slice p1 ((acc ++ ([(ub (((grpP (nth (splitOn s 58) i))).fdiv 256)), (ub (grpP (nth (splitOn s 58) i)))] : List UInt8)).length) cap1) ?_; clear hF; intro a hF
    refine L_nil ?_
    refine block_normal ?_
    refine hK10 _ _ ?_
    refine wp_region_lit ?_
    refine Vr hF (.int .i64 ((i : Int) + 1)) (x_int (x := IntKind.i64.wrap ((i : Int) + 1)) (i64In (by omega) (by omega)) (by kernel_rfl)) ?_; clear hF; intro a hF
    refine Vp hF (.int .i64 ((i : Int) + 1)) ?_; clear hF; intro a hF
    refine L_nil ?_
    refine hK_1 ((i + 1, p1, cap1, acc ++ ([(ub (((grpP (nth (splitOn s 58) i))).fdiv 256)), (ub (grpP (nth (splitOn s 58) i)))] : List UInt8))) _ _ (by first | omega | (dsimp only; omega)) ⟨(by exact rowRound hI (by assumption) (by assumption)), ?_, ?_⟩
    · exact hF.restrict ⟨(congrArg some (by first | rfl | exact congrArg (Value.int _) (by omega) | simp)), (by kernel_rfl), (by kernel_rfl), (congrArg some (by first | rfl | exact congrArg (Value.int _) (by omega) | simp)), trivial⟩
    · exact hO.sub (.cons_cons _ (.cons _ (.cons_cons _ (List.nil_sublist _))))
  ·
   replace hF := hF.know (d := 14) (v' := .bool false) (by kernel_rfl) (congrArg Value.bool (decide_eq_false q3))
   refine cond_f hF (by kernel_rfl) (by kernel_rfl) ?_
   refine wp_exit ?_
   refine then_exit ?_
   refine then_exit ?_
   refine inBlock_hit ?_
   refine hK6 _ _ ?_
   refine wp_seq_k fun K16 hK16 => ?_
   refine wp_region_lit ?_
   refine Vp hF (.slice q acc.length qc) ?_; clear hF; intro a hF
   refine Vp hF (.slice q acc.length qc) ?_; clear hF; intro a hF
   refine Vp hF (.bool true) ?_; clear hF; intro a hF
   refine L_nil ?_
   refine hK16 _ _ ?_
   refine wp_ret ?_
   refine ret2 hF (v := .slice q acc.length qc) (u := .bool true) rfl (resT (by kernel_rfl)) (resT (by kernel_rfl)) (by have hr := row_good (by assumption) (by assumption) hI; exact ⟨_, _, by rw [hr.1, hr.2], by rw [hr.2]; exact hO.sub (.cons_cons _ (List.nil_sublist _))⟩) .ret (.inl rfl)

set_option maxRecDepth 20000 in
theorem addr_coloned (I : List Nat) (ea : Nat → Addr) (s : ByteArray) (W : World) (hG : LibW W) (hE : Errs I ea W) (h3 : I.contains 3 = true) (hs : s.size ≤ 1000000) : Ret Tryz.prog 87 #[.string s] W fun v W' => v = retIp ea (colP s) ∧ Own W noX [] W' := by
 have hl1 := rowB_len (cutH s)
 have hl2 := rowB_len (cutT s)
 have hz1 := cutH_size s
 have hz2 := cutT_size s
 refine enter Tryz.func87 rfl (n := 77) rfl (by kernel_rfl) (E0 := [(0, .string s)]) (by kernel_rfl) ?_
 intro a hF; have hO := Own.start W noX
 refine wp_seq_k fun K1 hK1 => ?_
 refine wp_region_lit ?_
 refine L_new hF hO (by kernel_rfl) (by kernel_rfl) (vf := fun b => .pointer (some ⟨b, 0, none⟩)) (ob := .cells #[.bool false, .int .u8 0, .int .u8 0, .int .u8 0, .int .u8 0, .int .u8 0, .int .u8 0, .int .u8 0, .int .u8 0, .int .u8 0, .int .u8 0, .int .u8 0, .int .u8 0, .int .u8 0, .int .u8 0, .int .u8 0, .int .u8 0] 33) (by kernel_rfl) (by kernel_rfl) ?_
 clear hF hO; intro b1 W1 a hO hF
 refine Vp hF (.nilIface) ?_; clear hF; intro a hF
 refine L_nil ?_
 refine hK1 _ _ ?_
 refine wp_seq_k fun K2 hK2 => ?_
 refine wp_region_lit ?_
 refine Vp hF (.string s) ?_; clear hF; intro a hF
 refine Lc hF (cut2_ret s W1 (hG.own hO) (by omega)) ?_
 clear hF; rintro _ W2 a ⟨rfl, hk⟩ hF
 replace hO := hO.call0 hk; clear hk
 refine Vp hF (.tuple #[.string (cutH s), .string (cutT s), .bool (cutY s)]) ?_; clear hF; intro a hF
 refine Vp hF (.string (cutH s)) ?_; clear hF; intro a hF
 refine Vp hF (.string (cutT s)) ?_; clear hF; intro a hF
 refine Vp hF (.bool (cutY s)) ?_; clear hF; intro a hF
 refine Vp hF (.string (cutH s)) ?_; clear hF; intro a hF
 refine Vp hF (.string (cutT s)) ?_; clear hF; intro a hF
 refine Vp hF (.bool (cutY s)) ?_; clear hF; intro a hF
 refine L_nil ?_
 refine hK2 _ _ ?_
 refine wp_seq_k fun K3 hK3 => ?_
 refine wp_region_lit ?_
 refine Vp hF (.string (cutH s)) ?_; clear hF; intro a hF
 refine Lc hF (addr_row (cutH s) W2 (hG.own hO) (by have := cutH_size s; have := cutT_size s; omega)) ?_
 clear hF; rintro _ W3 a ⟨q1, qc1, rfl, hk⟩ hF
 replace hO := hO.call1 hk; clear hk
 refine Vp hF (.tuple #[.slice q1 ((rowB (cutH s)).length) qc1, .bool (rowOk (cutH s))]) ?_; clear hF; intro a hF
 refine Vp hF (.slice q1 ((rowB (cutH s)).length) qc1) ?_; clear hF; intro a hF
 refine Vp hF (.bool (rowOk (cutH s))) ?_; clear hF; intro a hF
 refine Vp hF (.slice q1 ((rowB (cutH s)).length) qc1) ?_; clear hF; intro a hF
 refine Vp hF (.bool (rowOk (cutH s))) ?_; clear hF; intro a hF
 refine L_nil ?_
 refine hK3 _ _ ?_
 refine wp_seq_k fun K4 hK4 => ?_
 refine wp_region_lit ?_
 refine Vp hF (.string (cutT s)) ?_; clear hF; intro a hF
 refine Lc hF (addr_row (cutT s) W3 (hG.own hO) (by have := cutH_size s; have := cutT_size s; omega)) ?_
 clear hF; rintro _ W4 a ⟨q2, qc2, rfl, hk⟩ hF
 replace hO := hO.call1 hk; clear hk
 refine Vp hF (.tuple #[.slice q2 ((rowB (cutT s)).length) qc2, .bool (rowOk (cutT s))]) ?_; clear hF; intro a hF
 refine Vp hF (.slice q2 ((rowB (cutT s)).length) qc2) ?_; clear hF; intro a hF
 refine Vp hF (.bool (rowOk (cutT s))) ?_; clear hF; intro a hF
 refine Vp hF (.slice q2 ((rowB (cutT s)).length) qc2) ?_; clear hF; intro a hF
 refine Vp hF (.bool (rowOk (cutT s))) ?_; clear hF; intro a hF
 refine L_nil ?_
 refine hK4 _ _ ?_
 refine wp_seq_k fun K5 hK5 => ?_
 refine wp_region_lit ?_
 refine Vp hF (.slice q1 ((rowB (cutH s)).length) qc1) ?_; clear hF; intro a hF
 refine Vp hF (.int .i64 (((rowB (cutH s)).length : Int))) ?_; clear hF; intro a hF
 refine Vr hF (.int .i64 (16 - ((rowB (cutH s)).length : Int))) (x_int (x := IntKind.i64.wrap (16 - ((rowB (cutH s)).length : Int))) (i64In (by omega) (by omega)) (by kernel_rfl)) ?_; clear hF; intro a hF
 refine Vp hF (.slice q2 ((rowB (cutT s)).length) qc2) ?_; clear hF; intro a hF
 refine Vp hF (.int .i64 (((rowB (cutT s)).length : Int))) ?_; clear hF; intro a hF
 refine Vr hF (.int .i64 ((16 - ((rowB (cutH s)).length : Int)) - ((rowB (cutT s)).length : Int))) (x_int (x := IntKind.i64.wrap ((16 - ((rowB (cutH s)).length : Int)) - ((rowB (cutT s)).length : Int))) (i64In (by omega) (by omega)) (by kernel_rfl)) ?_; clear hF; intro a hF
 refine Vp hF (.int .i64 ((16 - ((rowB (cutH s)).length : Int)) - ((rowB (cutT s)).length : Int))) ?_; clear hF; intro a hF
 refine L_nil ?_
 refine hK5 _ _ ?_
 refine wp_seq_k fun K6 hK6 => ?_
 refine wp_block ?_
 refine wp_seq_k fun K7 hK7 => ?_
 refine wp_region_lit ?_
 refine Vp hF (.bool (rowOk (cutH s))) ?_; clear hF; intro a hF
 refine Vp hF (.bool (!(rowOk (cutH s)))) ?_; clear hF; intro a hF
 refine Vp hF (.bool (!(rowOk (cutH s)))) ?_; clear hF; intro a hF
 cases q3 : (rowOk (cutH s) : Bool)
 ·
  replace hF := hF.know (d := 38) (v' := .bool true) (by kernel_rfl) (congrArg Value.bool (notT q3))
  refine Lo hF ?_; clear hF; intro a hF
  refine Lo hF ?_; clear hF; intro a hF
  refine Vp hF (.bool true) ?_; clear hF; intro a hF
  refine Vp hF (.bool true) ?_; clear hF; intro a hF
  refine Lo hF ?_; clear hF; intro a hF
  refine Lo hF ?_; clear hF; intro a hF
  refine Vp hF (.bool true) ?_; clear hF; intro a hF
  refine Vp hF (.bool true) ?_; clear hF; intro a hF
  refine L_nil ?_
  refine hK7 _ _ ?_
  refine cond_t hF (by kernel_rfl) (by kernel_rfl) ?_
  refine wp_seq_k fun K8 hK8 => ?_
  refine A_start (fun Wx => Own W noX [rowL u8L 1 5 q2 qc2 (rowB (cutT s)), rowL u8L 1 5 q1 qc1 (rowB (cutH s))] Wx) (by kernel_rfl) ?_
  replace hO := hO.drewN 1
  generalize hWd : ({ W4 with drawn := W4.drawn + 1 } : World) = W4_d at hO ⊢; clear hWd
  have hS := hO.sub (.cons_cons _ (.cons_cons _ (List.nil_sublist _)))
  refine Tk 0 rfl hF (.agg #[.bool false, .int .u8 0, .int .u8 0, .int .u8 0, .int .u8 0, .int .u8 0, .int .u8 0, .int .u8 0, .int .u8 0, .int .u8 0, .int .u8 0, .int .u8 0, .int .u8 0, .int .u8 0, .int .u8 0, .int .u8 0, .int .u8 0]) (fun Wx _ => by kernel_rfl) hS ?_; clear hF; intro a hF
  refine Tk 1 rfl hF (errV ea 3) (fun Wx hO => x_load (p := .pointer (some ⟨4, 0, none⟩)) rfl (by kernel_rfl) (hE.load hO 3 4 h3 (by kernel_rfl))) hS ?_; clear hF; intro a hF
  refine A_one (i := 2) (listed' := #[true, true, true, false]) (by kernel_rfl) rfl (by kernel_rfl) ?_
  obtain ⟨W5, hst, hO1⟩ := run_storeAt (P := Tryz.prog) (k := 17) (T := 33) (off := 0) (v := .agg #[.bool false, .int .u8 0, .int .u8 0, .int .u8 0, .int .u8 0, .int .u8 0, .int .u8 0, .int .u8 0, .int .u8 0, .int .u8 0, .int .u8 0, .int .u8 0, .int .u8 0, .int .u8 0, .int .u8 0, .int .u8 0, .int .u8 0]) (cs := #[.bool false, .int .u8 0, .int .u8 0, .int .u8 0, .int .u8 0, .int .u8 0, .int .u8 0, .int .u8 0, .int .u8 0, .int .u8 0, .int .u8 0, .int .u8 0, .int .u8 0, .int .u8 0, .int .u8 0, .int .u8 0, .int .u8 0]) (cs' := #[.bool false, .int .u8 0, .int .u8 0, .int .u8 0, .int .u8 0, .int .u8 0, .int .u8 0, .int .u8 0, .int .u8 0, .int .u8 0, .int .u8 0, .int .u8 0, .int .u8 0, .int .u8 0, .int .u8 0, .int .u8 0, .int .u8 0]) hO (by kernel_rfl) (by kernel_rfl) (by kernel_rfl) (Nat.le_of_ble_eq_true (by kernel_rfl)) (by kernel_rfl) (.tail (.tail (.head _)))
  refine OpK.skip hF (by kernel_rfl) (by kernel_rfl) (x_store (p := .pointer (some ⟨b1, 0, none⟩)) (v := .agg #[.bool false, .int .u8 0, .int .u8 0, .int .u8 0, .int .u8 0, .int .u8 0, .int .u8 0, .int .u8 0, .int .u8 0, .int .u8 0, .int .u8 0, .int .u8 0, .int .u8 0, .int .u8 0, .int .u8 0, .int .u8 0, .int .u8 0]) rfl (by kernel_rfl) (by kernel_rfl) hst) (by kernel_rfl) ?_
  clear hst hF; intro a hF; replace hO := hO1; clear hO1
  refine ⟨hO.sub (.cons_cons _ (.cons_cons _ (List.nil_sublist _))), ?_⟩
  have hS := hO.sub (.cons_cons _ (.cons_cons _ (List.nil_sublist _)))
  refine Tk 3 rfl hF (errV ea 3) (fun Wx _ => by kernel_rfl) hS ?_; clear hF; intro a hF
  refine A_done (by kernel_rfl) ?_
  refine hK8 _ _ ?_
  refine wp_ret ?_
  refine block_ret ?_
  refine then_ret ?_
  refine ret2 hF (v := ipV noIp) (u := errV ea 3) rfl (resC (ad := ⟨b1, 0, none⟩) (by kernel_rfl) (run_loadA (k := 17) (by kernel_rfl) (by kernel_rfl) (hO.blk (List.mem_cons_of_mem _ (List.mem_cons_of_mem _ List.mem_cons_self))) (by kernel_rfl) (by kernel_rfl))) (resT (by kernel_rfl)) (by refine ⟨?_, hO.nil⟩; first | (rw [colP_some (colOk_iff.2 ⟨by assumption, by assumption, by assumption, by first | exact .inl ⟨by assumption, by omega⟩ | exact .inr ⟨by assumption, by omega⟩⟩)]; kernel_rfl) | (rw [colP_none (fun hc => by obtain ⟨h1, h2, h3, h4⟩ := colOk_iff.1 hc; rcases h4 with ⟨h5, h6⟩ | ⟨h5, h6⟩ <;> first | omega | (simp_all; done) | (simp_all; omega))]; rfl)) .ret (.inl rfl)
 ·
  replace hF := hF.know (d := 38) (v' := .bool false) (by kernel_rfl) (congrArg Value.bool (notF q3))
  refine Vp hF (.bool (rowOk (cutT s))) ?_; clear hF; intro a hF
  refine Vp hF (.bool (!(rowOk (cutT s)))) ?_; clear hF; intro a hF
  refine Vp hF (.bool (!(rowOk (cutT s)))) ?_; clear hF; intro a hF
  refine Vp hF (.bool (!(rowOk (cutT s)))) ?_; clear hF; intro a hF
  cases q4 : (rowOk (cutT s) : Bool)
  ·
   replace hF := hF.know (d := 42) (v' := .bool true) (by kernel_rfl) (congrArg Value.bool (notT q4))
   refine Lo hF ?_; clear hF; intro a hF
   refine Lo hF ?_; clear hF; intro a hF
   refine Vp hF (.bool true) ?_; clear hF; intro a hF
   refine Vp hF (.bool true) ?_; clear hF; intro a hF
   refine L_nil ?_
   refine hK7 _ _ ?_
   refine cond_t hF (by kernel_rfl) (by kernel_rfl) ?_
   refine wp_seq_k fun K9 hK9 => ?_
   refine A_start (fun Wx => Own W noX [rowL u8L 1 5 q2 qc2 (rowB (cutT s)), rowL u8L 1 5 q1 qc1 (rowB (cutH s))] Wx) (by kernel_rfl) ?_
   replace hO := hO.drewN 1
   generalize hWd : ({ W4 with drawn := W4.drawn + 1 } : World) = W4_d at hO ⊢; clear hWd
   have hS := hO.sub (.cons_cons _ (.cons_cons _ (List.nil_sublist _)))
   refine Tk 0 rfl hF (.agg #[.bool false, .int .u8 0, .int .u8 0, .int .u8 0, .int .u8 0, .int .u8 0, .int .u8 0, .int .u8 0, .int .u8 0, .int .u8 0, .int .u8 0, .int .u8 0, .int .u8 0, .int .u8 0, .int .u8 0, .int .u8 0, .int .u8 0]) (fun Wx _ => by kernel_rfl) hS ?_; clear hF; intro a hF
   refine Tk 1 rfl hF (errV ea 3) (fun Wx hO => x_load (p := .pointer (some ⟨4, 0, none⟩)) rfl (by kernel_rfl) (hE.load hO 3 4 h3 (by kernel_rfl))) hS ?_; clear hF; intro a hF
   refine A_one (i := 2) (listed' := #[true, true, true, false]) (by kernel_rfl) rfl (by kernel_rfl) ?_
   obtain ⟨W6, hst, hO1⟩ := run_storeAt (P := Tryz.prog) (k := 17) (T := 33) (off := 0) (v := .agg #[.bool false, .int .u8 0, .int .u8 0, .int .u8 0, .int .u8 0, .int .u8 0, .int .u8 0, .int .u8 0, .int .u8 0, .int .u8 0, .int .u8 0, .int .u8 0, .int .u8 0, .int .u8 0, .int .u8 0, .int .u8 0, .int .u8 0]) (cs := #[.bool false, .int .u8 0, .int .u8 0, .int .u8 0, .int .u8 0, .int .u8 0, .int .u8 0, .int .u8 0, .int .u8 0, .int .u8 0, .int .u8 0, .int .u8 0, .int .u8 0, .int .u8 0, .int .u8 0, .int .u8 0, .int .u8 0]) (cs' := #[.bool false, .int .u8 0, .int .u8 0, .int .u8 0, .int .u8 0, .int .u8 0, .int .u8 0, .int .u8 0, .int .u8 0, .int .u8 0, .int .u8 0, .int .u8 0, .int .u8 0, .int .u8 0, .int .u8 0, .int .u8 0, .int .u8 0]) hO (by kernel_rfl) (by kernel_rfl) (by kernel_rfl) (Nat.le_of_ble_eq_true (by kernel_rfl)) (by kernel_rfl) (.tail (.tail (.head _)))
   refine OpK.skip hF (by kernel_rfl) (by kernel_rfl) (x_store (p := .pointer (some ⟨b1, 0, none⟩)) (v := .agg #[.bool false, .int .u8 0, .int .u8 0, .int .u8 0, .int .u8 0, .int .u8 0, .int .u8 0, .int .u8 0, .int .u8 0, .int .u8 0, .int .u8 0, .int .u8 0, .int .u8 0, .int .u8 0, .int .u8 0, .int .u8 0, .int .u8 0]) rfl (by kernel_rfl) (by kernel_rfl) hst) (by kernel_rfl) ?_
   clear hst hF; intro a hF; replace hO := hO1; clear hO1
   refine ⟨hO.sub (.cons_cons _ (.cons_cons _ (List.nil_sublist _))), ?_⟩
   have hS := hO.sub (.cons_cons _ (.cons_cons _ (List.nil_sublist _)))
   refine Tk 3 rfl hF (errV ea 3) (fun Wx _ => by kernel_rfl) hS ?_; clear hF; intro a hF
   refine A_done (by kernel_rfl) ?_
   refine hK9 _ _ ?_
   refine wp_ret ?_
   refine block_ret ?_
   refine then_ret ?_
   refine ret2 hF (v := ipV noIp) (u := errV ea 3) rfl (resC (ad := ⟨b1, 0, none⟩) (by kernel_rfl) (run_loadA (k := 17) (by kernel_rfl) (by kernel_rfl) (hO.blk (List.mem_cons_of_mem _ (List.mem_cons_of_mem _ List.mem_cons_self))) (by kernel_rfl) (by kernel_rfl))) (resT (by kernel_rfl)) (by refine ⟨?_, hO.nil⟩; first | (rw [colP_some (colOk_iff.2 ⟨by assumption, by assumption, by assumption, by first | exact .inl ⟨by assumption, by omega⟩ | exact .inr ⟨by assumption, by omega⟩⟩)]; kernel_rfl) | (rw [colP_none (fun hc => by obtain ⟨h1, h2, h3, h4⟩ := colOk_iff.1 hc; rcases h4 with ⟨h5, h6⟩ | ⟨h5, h6⟩ <;> first | omega | (simp_all; done) | (simp_all; omega))]; rfl)) .ret (.inl rfl)
  ·
   replace hF := hF.know (d := 42) (v' := .bool false) (by kernel_rfl) (congrArg Value.bool (notF q4))
   refine Vp hF (.string s) ?_; clear hF; intro a hF
   refine Vp hF (.bool (strEq s (⟨#[]⟩ : ByteArray))) ?_; clear hF; intro a hF
   refine Vp hF (.bool (strEq s (⟨#[]⟩ : ByteArray))) ?_; clear hF; intro a hF
   refine Vp hF (.bool (strEq s (⟨#[]⟩ : ByteArray))) ?_; clear hF; intro a hF
   refine L_nil ?_
   refine hK7 _ _ ?_
   by_cases q5 : s = (⟨#[]⟩ : ByteArray)
   ·
    replace hF := hF.know (d := 35) (v' := .bool true) (by kernel_rfl) (congrArg Value.bool (strEq_iff.2 q5))
    refine cond_t hF (by kernel_rfl) (by kernel_rfl) ?_
    refine wp_seq_k fun K10 hK10 => ?_
    refine A_start (fun Wx => Own W noX [rowL u8L 1 5 q2 qc2 (rowB (cutT s)), rowL u8L 1 5 q1 qc1 (rowB (cutH s))] Wx) (by kernel_rfl) ?_
    replace hO := hO.drewN 1
    generalize hWd : ({ W4 with drawn := W4.drawn + 1 } : World) = W4_d at hO ⊢; clear hWd
    have hS := hO.sub (.cons_cons _ (.cons_cons _ (List.nil_sublist _)))
    refine Tk 0 rfl hF (.agg #[.bool false, .int .u8 0, .int .u8 0, .int .u8 0, .int .u8 0, .int .u8 0, .int .u8 0, .int .u8 0, .int .u8 0, .int .u8 0, .int .u8 0, .int .u8 0, .int .u8 0, .int .u8 0, .int .u8 0, .int .u8 0, .int .u8 0]) (fun Wx _ => by kernel_rfl) hS ?_; clear hF; intro a hF
    refine Tk 1 rfl hF (errV ea 3) (fun Wx hO => x_load (p := .pointer (some ⟨4, 0, none⟩)) rfl (by kernel_rfl) (hE.load hO 3 4 h3 (by kernel_rfl))) hS ?_; clear hF; intro a hF
    refine A_one (i := 2) (listed' := #[true, true, true, false]) (by kernel_rfl) rfl (by kernel_rfl) ?_
    obtain ⟨W7, hst, hO1⟩ := run_storeAt (P := Tryz.prog) (k := 17) (T := 33) (off := 0) (v := .agg #[.bool false, .int .u8 0, .int .u8 0, .int .u8 0, .int .u8 0, .int .u8 0, .int .u8 0, .int .u8 0, .int .u8 0, .int .u8 0, .int .u8 0, .int .u8 0, .int .u8 0, .int .u8 0, .int .u8 0, .int .u8 0, .int .u8 0]) (cs := #[.bool false, .int .u8 0, .int .u8 0, .int .u8 0, .int .u8 0, .int .u8 0, .int .u8 0, .int .u8 0, .int .u8 0, .int .u8 0, .int .u8 0, .int .u8 0, .int .u8 0, .int .u8 0, .int .u8 0, .int .u8 0, .int .u8 0]) (cs' := #[.bool false, .int .u8 0, .int .u8 0, .int .u8 0, .int .u8 0, .int .u8 0, .int .u8 0, .int .u8 0, .int .u8 0, .int .u8 0, .int .u8 0, .int .u8 0, .int .u8 0, .int .u8 0, .int .u8 0, .int .u8 0, .int .u8 0]) hO (by kernel_rfl) (by kernel_rfl) (by kernel_rfl) (Nat.le_of_ble_eq_true (by kernel_rfl)) (by kernel_rfl) (.tail (.tail (.head _)))
    refine OpK.skip hF (by kernel_rfl) (by kernel_rfl) (x_store (p := .pointer (some ⟨b1, 0, none⟩)) (v := .agg #[.bool false, .int .u8 0, .int .u8 0, .int .u8 0, .int .u8 0, .int .u8 0, .int .u8 0, .int .u8 0, .int .u8 0, .int .u8 0, .int .u8 0, .int .u8 0, .int .u8 0, .int .u8 0, .int .u8 0, .int .u8 0, .int .u8 0]) rfl (by kernel_rfl) (by kernel_rfl) hst) (by kernel_rfl) ?_
    clear hst hF; intro a hF; replace hO := hO1; clear hO1
    refine ⟨hO.sub (.cons_cons _ (.cons_cons _ (List.nil_sublist _))), ?_⟩
    have hS := hO.sub (.cons_cons _ (.cons_cons _ (List.nil_sublist _)))
    refine Tk 3 rfl hF (errV ea 3) (fun Wx _ => by kernel_rfl) hS ?_; clear hF; intro a hF
    refine A_done (by kernel_rfl) ?_
    refine hK10 _ _ ?_
    refine wp_ret ?_
    refine block_ret ?_
    refine then_ret ?_
    refine ret2 hF (v := ipV noIp) (u := errV ea 3) rfl (resC (ad := ⟨b1, 0, none⟩) (by kernel_rfl) (run_loadA (k := 17) (by kernel_rfl) (by kernel_rfl) (hO.blk (List.mem_cons_of_mem _ (List.mem_cons_of_mem _ List.mem_cons_self))) (by kernel_rfl) (by kernel_rfl))) (resT (by kernel_rfl)) (by refine ⟨?_, hO.nil⟩; first | (rw [colP_some (colOk_iff.2 ⟨by assumption, by assumption, by assumption, by first | exact .inl ⟨by assumption, by omega⟩ | exact .inr ⟨by assumption, by omega⟩⟩)]; kernel_rfl) | (rw [colP_none (fun hc => by obtain ⟨h1, h2, h3, h4⟩ := colOk_iff.1 hc; rcases h4 with ⟨h5, h6⟩ | ⟨h5, h6⟩ <;> first | omega | (simp_all; done) | (simp_all; omega))]; rfl)) .ret (.inl rfl)
   ·
    replace hF := hF.know (d := 35) (v' := .bool false) (by kernel_rfl) (congrArg Value.bool (strEq_false.2 q5))
    refine cond_f hF (by kernel_rfl) (by kernel_rfl) ?_
    refine wp_seq_k fun K11 hK11 => ?_
    refine wp_region_lit ?_
    refine Vp hF (.bool (cutY s)) ?_; clear hF; intro a hF
    refine Vp hF (.bool (cutY s)) ?_; clear hF; intro a hF
    cases q6 : (cutY s : Bool)
    ·
     replace hF := hF.know (d := 50) (v' := .bool false) (by kernel_rfl) (congrArg Value.bool q6)
     refine Lo hF ?_; clear hF; intro a hF
     refine Lo hF ?_; clear hF; intro a hF
     refine Vp hF (.bool false) ?_; clear hF; intro a hF
     refine Vp hF (.bool false) ?_; clear hF; intro a hF
     refine Vp hF (.bool (cutY s)) ?_; clear hF; intro a hF
     refine Vp hF (.bool (!(cutY s))) ?_; clear hF; intro a hF
     refine Vp hF (.bool (!(cutY s))) ?_; clear hF; intro a hF
     replace hF := hF.know (d := 57) (v' := .bool true) (by kernel_rfl) (congrArg Value.bool (notT q6))
     refine Vp hF (.int .i64 ((16 - ((rowB (cutH s)).length : Int)) - ((rowB (cutT s)).length : Int))) ?_; clear hF; intro a hF
     refine Vp hF (.bool (!(((16 - ((rowB (cutH s)).length : Int)) - ((rowB (cutT s)).length : Int)) == 0))) ?_; clear hF; intro a hF
     refine Vp hF (.bool (!(((16 - ((rowB (cutH s)).length : Int)) - ((rowB (cutT s)).length : Int)) == 0))) ?_; clear hF; intro a hF
     refine Vp hF (.bool (!(((16 - ((rowB (cutH s)).length : Int)) - ((rowB (cutT s)).length : Int)) == 0))) ?_; clear hF; intro a hF
     refine Vp hF (.bool (!(((16 - ((rowB (cutH s)).length : Int)) - ((rowB (cutT s)).length : Int)) == 0))) ?_; clear hF; intro a hF
     refine L_nil ?_
     refine hK11 _ _ ?_
     by_cases q7 : (16 - ((rowB (cutH s)).length : Int)) - ((rowB (cutT s)).length : Int) = 0
     ·
      replace hF := hF.know (d := 48) (v' := .bool false) (by kernel_rfl) (congrArg Value.bool (neF (not_not_intro q7)))
      refine cond_f hF (by kernel_rfl) (by kernel_rfl) ?_
      refine wp_skip ?_
      refine block_normal ?_
      refine hK6 _ _ ?_
      refine wp_seq_k fun K12 hK12 => ?_
      refine wp_region_lit ?_
      refine Vp hF (.agg #[.bool true, .int .u8 0, .int .u8 0, .int .u8 0, .int .u8 0, .int .u8 0, .int .u8 0, .int .u8 0, .int .u8 0, .int .u8 0, .int .u8 0, .int .u8 0, .int .u8 0, .int .u8 0, .int .u8 0, .int .u8 0, .int .u8 0]) ?_; clear hF; intro a hF
      refine L_new hF hO (by kernel_rfl) (by kernel_rfl) (vf := fun b => .pointer (some ⟨b, 0, none⟩)) (ob := .cells #[.bool false, .int .u8 0, .int .u8 0, .int .u8 0, .int .u8 0, .int .u8 0, .int .u8 0, .int .u8 0, .int .u8 0, .int .u8 0, .int .u8 0, .int .u8 0, .int .u8 0, .int .u8 0, .int .u8 0, .int .u8 0, .int .u8 0] 33) (by kernel_rfl) (by kernel_rfl) ?_
      clear hF hO; intro b2 W8 a hO hF
      obtain ⟨W9, hst, hO1⟩ := run_storeAt (P := Tryz.prog) (k := 17) (T := 33) (off := 0) (v := .agg #[.bool true, .int .u8 0, .int .u8 0, .int .u8 0, .int .u8 0, .int .u8 0, .int .u8 0, .int .u8 0, .int .u8 0, .int .u8 0, .int .u8 0, .int .u8 0, .int .u8 0, .int .u8 0, .int .u8 0, .int .u8 0, .int .u8 0]) (cs := #[.bool false, .int .u8 0, .int .u8 0, .int .u8 0, .int .u8 0, .int .u8 0, .int .u8 0, .int .u8 0, .int .u8 0, .int .u8 0, .int .u8 0, .int .u8 0, .int .u8 0, .int .u8 0, .int .u8 0, .int .u8 0, .int .u8 0]) (cs' := #[.bool true, .int .u8 0, .int .u8 0, .int .u8 0, .int .u8 0, .int .u8 0, .int .u8 0, .int .u8 0, .int .u8 0, .int .u8 0, .int .u8 0, .int .u8 0, .int .u8 0, .int .u8 0, .int .u8 0, .int .u8 0, .int .u8 0]) hO (by kernel_rfl) (by kernel_rfl) (by kernel_rfl) (Nat.le_of_ble_eq_true (by kernel_rfl)) (by kernel_rfl) (.head _)
      refine L_skip hF (by kernel_rfl) (by kernel_rfl) (x_store (p := .pointer (some ⟨b2, 0, none⟩)) (v := .agg #[.bool true, .int .u8 0, .int .u8 0, .int .u8 0, .int .u8 0, .int .u8 0, .int .u8 0, .int .u8 0, .int .u8 0, .int .u8 0, .int .u8 0, .int .u8 0, .int .u8 0, .int .u8 0, .int .u8 0, .int .u8 0, .int .u8 0]) rfl (by kernel_rfl) (by kernel_rfl) hst) (by kernel_rfl) ?_
      clear hst hF; intro a hF; replace hO := hO1; clear hO1
      refine L_nil ?_
      refine hK12 _ _ ?_
      refine wp_seq_k fun K13 hK13 => ?_
      refine wp_region_lit ?_
      refine Vp hF (.pointer (some ⟨b2, 1, none⟩)) ?_; clear hF; intro a hF
      refine Vr hF (.slice (some ⟨b2, 1, none⟩) 16 16) (x_slArr (b := b2) (off := 1) (n := 16) (elem := 5) (lo := 0) (hi := 16) rfl (by kernel_rfl) (by kernel_rfl) (by kernel_rfl) rfl rfl (by omega) (by omega) (by omega) (by kernel_rfl) (by first | rfl | omega) (by first | rfl | omega)) ?_; clear hF; intro a hF
      refine Vp hF (.slice q1 ((rowB (cutH s)).length) qc1) ?_; clear hF; intro a hF
      replace hO := hO.reblk (cs := #[.bool true, .int .u8 0, .int .u8 0, .int .u8 0, .int .u8 0, .int .u8 0, .int .u8 0, .int .u8 0, .int .u8 0, .int .u8 0, .int .u8 0, .int .u8 0, .int .u8 0, .int .u8 0, .int .u8 0, .int .u8 0, .int .u8 0]) (cs' := (ipL sixIp).toArray) (by kernel_rfl) (.head _)
      obtain ⟨W10, hst, hO1⟩ := run_copy_ip (P := Tryz.prog) (e := 5) (t := 46) (ty := 3) (j := 0) (n := 16) (c := 16) (off := 1) (cq := qc1) (q := q1) (A := rowB (cutH s)) hO (.head _) (by kernel_rfl) (by kernel_rfl) (hO.row (List.mem_cons_of_mem _ (List.mem_cons_of_mem _ List.mem_cons_self))) (by omega) (by omega) (by (try unfold arrOff); intros; (try split) <;> omega)
      refine L_valW hF (by kernel_rfl) (by kernel_rfl) (x_copy hst rfl (by kernel_rfl) (by kernel_rfl) rfl) (by kernel_rfl) ?_
      clear hst hF; intro a hF; replace hO := hO1; clear hO1
      refine L_nil ?_
      refine hK13 _ _ ?_
      refine wp_seq_k fun K14 hK14 => ?_
      refine wp_region_lit ?_
      refine Vp hF (.pointer (some ⟨b2, 1, none⟩)) ?_; clear hF; intro a hF
      refine Vp hF (.slice q2 ((rowB (cutT s)).length) qc2) ?_; clear hF; intro a hF
      refine Vp hF (.int .i64 (((rowB (cutT s)).length : Int))) ?_; clear hF; intro a hF
      refine Vr hF (.int .i64 (16 - ((rowB (cutT s)).length : Int))) (x_int (x := IntKind.i64.wrap (16 - ((rowB (cutT s)).length : Int))) (i64In (by omega) (by omega)) (by kernel_rfl)) ?_; clear hF; intro a hF
      refine Vr hF (.slice (some ⟨b2, 1 + arrOff 16 (16 - ((rowB (cutT s)).length : Int)), none⟩) (16 - (16 - ((rowB (cutT s)).length : Int)).toNat) (16 - (16 - ((rowB (cutT s)).length : Int)).toNat)) (x_slArr (b := b2) (off := 1) (n := 16) (elem := 5) (lo := 16 - ((rowB (cutT s)).length : Int)) (hi := 16) rfl (by kernel_rfl) (by kernel_rfl) (by kernel_rfl) ⟨.i64, (by kernel_rfl)⟩ rfl (by omega) (by omega) (by omega) (by kernel_rfl) (by first | rfl | omega) (by first | rfl | omega)) ?_; clear hF; intro a hF
      refine Vp hF (.slice q2 ((rowB (cutT s)).length) qc2) ?_; clear hF; intro a hF
      obtain ⟨W11, hst, hO1⟩ := run_copy_ip (P := Tryz.prog) (e := 5) (t := 46) (ty := 3) (j := (16 - ((rowB (cutT s)).length : Int)).toNat) (n := 16 - (16 - ((rowB (cutT s)).length : Int)).toNat) (c := 16 - (16 - ((rowB (cutT s)).length : Int)).toNat) (off := 1 + arrOff 16 (16 - ((rowB (cutT s)).length : Int))) (cq := qc2) (q := q2) (A := rowB (cutT s)) hO (.head _) (by kernel_rfl) (by kernel_rfl) (hO.row (List.mem_cons_of_mem _ List.mem_cons_self)) (by omega) (by omega) (by (try unfold arrOff); intros; (try split) <;> omega)
      refine L_valW hF (by kernel_rfl) (by kernel_rfl) (x_copy hst rfl (by kernel_rfl) (by kernel_rfl) rfl) (by kernel_rfl) ?_
      clear hst hF; intro a hF; replace hO := hO1; clear hO1
      refine L_nil ?_
      refine hK14 _ _ ?_
      refine wp_seq_k fun K15 hK15 => ?_
      refine wp_region_lit ?_
      refine Vr hF (ipV ((sixIp.cpy 0 (rowB (cutH s))).cpy ((16 - ((rowB (cutT s)).length : Int)).toNat) (rowB (cutT s)))) (x_load (p := .pointer (some ⟨b2, 0, none⟩)) rfl (by kernel_rfl) (run_loadA (k := 17) (by kernel_rfl) (by kernel_rfl) (hO.blk List.mem_cons_self) (by kernel_rfl) (by kernel_rfl))) ?_; clear hF; intro a hF
      obtain ⟨W12, hst, hO1⟩ := run_storeAt (P := Tryz.prog) (k := 17) (T := 33) (off := 0) (v := ipV ((sixIp.cpy 0 (rowB (cutH s))).cpy ((16 - ((rowB (cutT s)).length : Int)).toNat) (rowB (cutT s)))) (cs := #[.bool false, .int .u8 0, .int .u8 0, .int .u8 0, .int .u8 0, .int .u8 0, .int .u8 0, .int .u8 0, .int .u8 0, .int .u8 0, .int .u8 0, .int .u8 0, .int .u8 0, .int .u8 0, .int .u8 0, .int .u8 0, .int .u8 0]) (cs' := (ipL ((sixIp.cpy 0 (rowB (cutH s))).cpy ((16 - ((rowB (cutT s)).length : Int)).toNat) (rowB (cutT s)))).toArray) hO (by kernel_rfl) (by kernel_rfl) (by kernel_rfl) (Nat.le_of_ble_eq_true (by kernel_rfl)) (by kernel_rfl) (.tail (.tail (.tail (.head _))))
      refine L_skip hF (by kernel_rfl) (by kernel_rfl) (x_store (p := .pointer (some ⟨b1, 0, none⟩)) (v := ipV ((sixIp.cpy 0 (rowB (cutH s))).cpy ((16 - ((rowB (cutT s)).length : Int)).toNat) (rowB (cutT s)))) rfl (by kernel_rfl) (by kernel_rfl) hst) (by kernel_rfl) ?_
      clear hst hF; intro a hF; replace hO := hO1; clear hO1
      refine Vp hF (.nilIface) ?_; clear hF; intro a hF
      refine L_nil ?_
      refine hK15 _ _ ?_
      refine wp_ret ?_
      refine ret2 hF (v := ipV ((sixIp.cpy 0 (rowB (cutH s))).cpy ((16 - ((rowB (cutT s)).length : Int)).toNat) (rowB (cutT s)))) (u := .nilIface) rfl (resC (ad := ⟨b1, 0, none⟩) (by kernel_rfl) (run_loadA (k := 17) (by kernel_rfl) (by kernel_rfl) (hO.blk (List.mem_cons_of_mem _ (List.mem_cons_of_mem _ (List.mem_cons_of_mem _ List.mem_cons_self)))) (by kernel_rfl) (by kernel_rfl))) (resT (by kernel_rfl)) (by refine ⟨?_, hO.nil⟩; first | (rw [colP_some (colOk_iff.2 ⟨by assumption, by assumption, by assumption, by first | exact .inl ⟨by assumption, by omega⟩ | exact .inr ⟨by assumption, by omega⟩⟩)]; kernel_rfl) | (rw [colP_none (fun hc => by obtain ⟨h1, h2, h3, h4⟩ := colOk_iff.1 hc; rcases h4 with ⟨h5, h6⟩ | ⟨h5, h6⟩ <;> first | omega | (simp_all; done) | (simp_all; omega))]; rfl)) .ret (.inl rfl)
     ·
      replace hF := hF.know (d := 48) (v' := .bool true) (by kernel_rfl) (congrArg Value.bool (neT q7))
      refine cond_t hF (by kernel_rfl) (by kernel_rfl) ?_
      refine wp_seq_k fun K16 hK16 => ?_
      refine A_start (fun Wx => Own W noX [rowL u8L 1 5 q2 qc2 (rowB (cutT s)), rowL u8L 1 5 q1 qc1 (rowB (cutH s))] Wx) (by kernel_rfl) ?_
      replace hO := hO.drewN 1
      generalize hWd : ({ W4 with drawn := W4.drawn + 1 } : World) = W4_d at hO ⊢; clear hWd
      have hS := hO.sub (.cons_cons _ (.cons_cons _ (List.nil_sublist _)))
      refine Tk 0 rfl hF (.agg #[.bool false, .int .u8 0, .int .u8 0, .int .u8 0, .int .u8 0, .int .u8 0, .int .u8 0, .int .u8 0, .int .u8 0, .int .u8 0, .int .u8 0, .int .u8 0, .int .u8 0, .int .u8 0, .int .u8 0, .int .u8 0, .int .u8 0]) (fun Wx _ => by kernel_rfl) hS ?_; clear hF; intro a hF
      refine Tk 1 rfl hF (errV ea 3) (fun Wx hO => x_load (p := .pointer (some ⟨4, 0, none⟩)) rfl (by kernel_rfl) (hE.load hO 3 4 h3 (by kernel_rfl))) hS ?_; clear hF; intro a hF
      refine A_one (i := 2) (listed' := #[true, true, true, false]) (by kernel_rfl) rfl (by kernel_rfl) ?_
      obtain ⟨W13, hst, hO1⟩ := run_storeAt (P := Tryz.prog) (k := 17) (T := 33) (off := 0) (v := .agg #[.bool false, .int .u8 0, .int .u8 0, .int .u8 0, .int .u8 0, .int .u8 0, .int .u8 0, .int .u8 0, .int .u8 0, .int .u8 0, .int .u8 0, .int .u8 0, .int .u8 0, .int .u8 0, .int .u8 0, .int .u8 0, .int .u8 0]) (cs := #[.bool false, .int .u8 0, .int .u8 0, .int .u8 0, .int .u8 0, .int .u8 0, .int .u8 0, .int .u8 0, .int .u8 0, .int .u8 0, .int .u8 0, .int .u8 0, .int .u8 0, .int .u8 0, .int .u8 0, .int .u8 0, .int .u8 0]) (cs' := #[.bool false, .int .u8 0, .int .u8 0, .int .u8 0, .int .u8 0, .int .u8 0, .int .u8 0, .int .u8 0, .int .u8 0, .int .u8 0, .int .u8 0, .int .u8 0, .int .u8 0, .int .u8 0, .int .u8 0, .int .u8 0, .int .u8 0]) hO (by kernel_rfl) (by kernel_rfl) (by kernel_rfl) (Nat.le_of_ble_eq_true (by kernel_rfl)) (by kernel_rfl) (.tail (.tail (.head _)))
      refine OpK.skip hF (by kernel_rfl) (by kernel_rfl) (x_store (p := .pointer (some ⟨b1, 0, none⟩)) (v := .agg #[.bool false, .int .u8 0, .int .u8 0, .int .u8 0, .int .u8 0, .int .u8 0, .int .u8 0, .int .u8 0, .int .u8 0, .int .u8 0, .int .u8 0, .int .u8 0, .int .u8 0, .int .u8 0, .int .u8 0, .int .u8 0, .int .u8 0]) rfl (by kernel_rfl) (by kernel_rfl) hst) (by kernel_rfl) ?_
      clear hst hF; intro a hF; replace hO := hO1; clear hO1
      refine ⟨hO.sub (.cons_cons _ (.cons_cons _ (List.nil_sublist _))), ?_⟩
      have hS := hO.sub (.cons_cons _ (.cons_cons _ (List.nil_sublist _)))
      refine Tk 3 rfl hF (errV ea 3) (fun Wx _ => by kernel_rfl) hS ?_; clear hF; intro a hF
      refine A_done (by kernel_rfl) ?_
      refine hK16 _ _ ?_
      refine wp_ret ?_
      refine block_ret ?_
      refine then_ret ?_
      refine ret2 hF (v := ipV noIp) (u := errV ea 3) rfl (resC (ad := ⟨b1, 0, none⟩) (by kernel_rfl) (run_loadA (k := 17) (by kernel_rfl) (by kernel_rfl) (hO.blk (List.mem_cons_of_mem _ (List.mem_cons_of_mem _ List.mem_cons_self))) (by kernel_rfl) (by kernel_rfl))) (resT (by kernel_rfl)) (by refine ⟨?_, hO.nil⟩; first | (rw [colP_some (colOk_iff.2 ⟨by assumption, by assumption, by assumption, by first | exact .inl ⟨by assumption, by omega⟩ | exact .inr ⟨by assumption, by omega⟩⟩)]; kernel_rfl) | (rw [colP_none (fun hc => by obtain ⟨h1, h2, h3, h4⟩ := colOk_iff.1 hc; rcases h4 with ⟨h5, h6⟩ | ⟨h5, h6⟩ <;> first | omega | (simp_all; done) | (simp_all; omega))]; rfl)) .ret (.inl rfl)
    ·
     replace hF := hF.know (d := 50) (v' := .bool true) (by kernel_rfl) (congrArg Value.bool q6)
     refine Vp hF (.int .i64 ((16 - ((rowB (cutH s)).length : Int)) - ((rowB (cutT s)).length : Int))) ?_; clear hF; intro a hF
     refine Vp hF (.bool (decide ((16 - ((rowB (cutH s)).length : Int)) - ((rowB (cutT s)).length : Int) < 2))) ?_; clear hF; intro a hF
     refine Vp hF (.bool (decide ((16 - ((rowB (cutH s)).length : Int)) - ((rowB (cutT s)).length : Int) < 2))) ?_; clear hF; intro a hF
     refine Vp hF (.bool (decide ((16 - ((rowB (cutH s)).length : Int)) - ((rowB (cutT s)).length : Int) < 2))) ?_; clear hF; intro a hF
     by_cases q8 : (16 - ((rowB (cutH s)).length : Int)) - ((rowB (cutT s)).length : Int) < 2
     ·
      replace hF := hF.know (d := 54) (v' := .bool true) (by kernel_rfl) (congrArg Value.bool (decide_eq_true q8))
      refine Lo hF ?_; clear hF; intro a hF
      refine Lo hF ?_; clear hF; intro a hF
      refine Lo hF ?_; clear hF; intro a hF
      refine Lo hF ?_; clear hF; intro a hF
      refine Lo hF ?_; clear hF; intro a hF
      refine Lo hF ?_; clear hF; intro a hF
      refine Vp hF (.bool true) ?_; clear hF; intro a hF
      refine Vp hF (.bool true) ?_; clear hF; intro a hF
      refine L_nil ?_
      refine hK11 _ _ ?_
      refine cond_t hF (by kernel_rfl) (by kernel_rfl) ?_
      refine wp_seq_k fun K17 hK17 => ?_
      refine A_start (fun Wx => Own W noX [rowL u8L 1 5 q2 qc2 (rowB (cutT s)), rowL u8L 1 5 q1 qc1 (rowB (cutH s))] Wx) (by kernel_rfl) ?_
      replace hO := hO.drewN 1
      generalize hWd : ({ W4 with drawn := W4.drawn + 1 } : World) = W4_d at hO ⊢; clear hWd
      have hS := hO.sub (.cons_cons _ (.cons_cons _ (List.nil_sublist _)))
      refine Tk 0 rfl hF (.agg #[.bool false, .int .u8 0, .int .u8 0, .int .u8 0, .int .u8 0, .int .u8 0, .int .u8 0, .int .u8 0, .int .u8 0, .int .u8 0, .int .u8 0, .int .u8 0, .int .u8 0, .int .u8 0, .int .u8 0, .int .u8 0, .int .u8 0]) (fun Wx _ => by kernel_rfl) hS ?_; clear hF; intro a hF
      refine Tk 1 rfl hF (errV ea 3) (fun Wx hO => x_load (p := .pointer (some ⟨4, 0, none⟩)) rfl (by kernel_rfl) (hE.load hO 3 4 h3 (by kernel_rfl))) hS ?_; clear hF; intro a hF
      refine A_one (i := 2) (listed' := #[true, true, true, false]) (by kernel_rfl) rfl (by kernel_rfl) ?_
      obtain ⟨W14, hst, hO1⟩ := run_storeAt (P := Tryz.prog) (k := 17) (T := 33) (off := 0) (v := .agg #[.bool false, .int .u8 0, .int .u8 0, .int .u8 0, .int .u8 0, .int .u8 0, .int .u8 0, .int .u8 0, .int .u8 0, .int .u8 0, .int .u8 0, .int .u8 0, .int .u8 0, .int .u8 0, .int .u8 0, .int .u8 0, .int .u8 0]) (cs := #[.bool false, .int .u8 0, .int .u8 0, .int .u8 0, .int .u8 0, .int .u8 0, .int .u8 0, .int .u8 0, .int .u8 0, .int .u8 0, .int .u8 0, .int .u8 0, .int .u8 0, .int .u8 0, .int .u8 0, .int .u8 0, .int .u8 0]) (cs' := #[.bool false, .int .u8 0, .int .u8 0, .int .u8 0, .int .u8 0, .int .u8 0, .int .u8 0, .int .u8 0, .int .u8 0, .int .u8 0, .int .u8 0, .int .u8 0, .int .u8 0, .int .u8 0, .int .u8 0, .int .u8 0, .int .u8 0]) hO (by kernel_rfl) (by kernel_rfl) (by kernel_rfl) (Nat.le_of_ble_eq_true (by kernel_rfl)) (by kernel_rfl) (.tail (.tail (.head _)))
      refine OpK.skip hF (by kernel_rfl) (by kernel_rfl) (x_store (p := .pointer (some ⟨b1, 0, none⟩)) (v := .agg #[.bool false, .int .u8 0, .int .u8 0, .int .u8 0, .int .u8 0, .int .u8 0, .int .u8 0, .int .u8 0, .int .u8 0, .int .u8 0, .int .u8 0, .int .u8 0, .int .u8 0, .int .u8 0, .int .u8 0, .int .u8 0, .int .u8 0]) rfl (by kernel_rfl) (by kernel_rfl) hst) (by kernel_rfl) ?_
      clear hst hF; intro a hF; replace hO := hO1; clear hO1
      refine ⟨hO.sub (.cons_cons _ (.cons_cons _ (List.nil_sublist _))), ?_⟩
      have hS := hO.sub (.cons_cons _ (.cons_cons _ (List.nil_sublist _)))
      refine Tk 3 rfl hF (errV ea 3) (fun Wx _ => by kernel_rfl) hS ?_; clear hF; intro a hF
      refine A_done (by kernel_rfl) ?_
      refine hK17 _ _ ?_
      refine wp_ret ?_
      refine block_ret ?_
      refine then_ret ?_
      refine ret2 hF (v := ipV noIp) (u := errV ea 3) rfl (resC (ad := ⟨b1, 0, none⟩) (by kernel_rfl) (run_loadA (k := 17) (by kernel_rfl) (by kernel_rfl) (hO.blk (List.mem_cons_of_mem _ (List.mem_cons_of_mem _ List.mem_cons_self))) (by kernel_rfl) (by kernel_rfl))) (resT (by kernel_rfl)) (by refine ⟨?_, hO.nil⟩; first | (rw [colP_some (colOk_iff.2 ⟨by assumption, by assumption, by assumption, by first | exact .inl ⟨by assumption, by omega⟩ | exact .inr ⟨by assumption, by omega⟩⟩)]; kernel_rfl) | (rw [colP_none (fun hc => by obtain ⟨h1, h2, h3, h4⟩ := colOk_iff.1 hc; rcases h4 with ⟨h5, h6⟩ | ⟨h5, h6⟩ <;> first | omega | (simp_all; done) | (simp_all; omega))]; rfl)) .ret (.inl rfl)
     ·
      replace hF := hF.know (d := 54) (v' := .bool false) (by kernel_rfl) (congrArg Value.bool (decide_eq_false q8))
      refine Vp hF (.bool (cutY s)) ?_; clear hF; intro a hF
      refine Vp hF (.bool (!(cutY s))) ?_; clear hF; intro a hF
      refine Vp hF (.bool (!(cutY s))) ?_; clear hF; intro a hF
      replace hF := hF.know (d := 57) (v' := .bool false) (by kernel_rfl) (congrArg Value.bool (notF q6))
      refine Lo hF ?_; clear hF; intro a hF
      refine Lo hF ?_; clear hF; intro a hF
      refine Vp hF (.bool false) ?_; clear hF; intro a hF
      refine Vp hF (.bool false) ?_; clear hF; intro a hF
      refine Vp hF (.bool false) ?_; clear hF; intro a hF
      refine L_nil ?_
      refine hK11 _ _ ?_
      refine cond_f hF (by kernel_rfl) (by kernel_rfl) ?_
      refine wp_skip ?_
      refine block_normal ?_
      refine hK6 _ _ ?_
      refine wp_seq_k fun K18 hK18 => ?_
      refine wp_region_lit ?_
      refine Vp hF (.agg #[.bool true, .int .u8 0, .int .u8 0, .int .u8 0, .int .u8 0, .int .u8 0, .int .u8 0, .int .u8 0, .int .u8 0, .int .u8 0, .int .u8 0, .int .u8 0, .int .u8 0, .int .u8 0, .int .u8 0, .int .u8 0, .int .u8 0]) ?_; clear hF; intro a hF
      refine L_new hF hO (by kernel_rfl) (by kernel_rfl) (vf := fun b => .pointer (some ⟨b, 0, none⟩)) (ob := .cells #[.bool false, .int .u8 0, .int .u8 0, .int .u8 0, .int .u8 0, .int .u8 0, .int .u8 0, .int .u8 0, .int .u8 0, .int .u8 0, .int .u8 0, .int .u8 0, .int .u8 0, .int .u8 0, .int .u8 0, .int .u8 0, .int .u8 0] 33) (by kernel_rfl) (by kernel_rfl) ?_
      clear hF hO; intro b3 W15 a hO hF
      obtain ⟨W16, hst, hO1⟩ := run_storeAt (P := Tryz.prog) (k := 17) (T := 33) (off := 0) (v := .agg #[.bool true, .int .u8 0, .int .u8 0, .int .u8 0, .int .u8 0, .int .u8 0, .int .u8 0, .int .u8 0, .int .u8 0, .int .u8 0, .int .u8 0, .int .u8 0, .int .u8 0, .int .u8 0, .int .u8 0, .int .u8 0, .int .u8 0]) (cs := #[.bool false, .int .u8 0, .int .u8 0, .int .u8 0, .int .u8 0, .int .u8 0, .int .u8 0, .int .u8 0, .int .u8 0, .int .u8 0, .int .u8 0, .int .u8 0, .int .u8 0, .int .u8 0, .int .u8 0, .int .u8 0, .int .u8 0]) (cs' := #[.bool true, .int .u8 0, .int .u8 0, .int .u8 0, .int .u8 0, .int .u8 0, .int .u8 0, .int .u8 0, .int .u8 0, .int .u8 0, .int .u8 0, .int .u8 0, .int .u8 0, .int .u8 0, .int .u8 0, .int .u8 0, .int .u8 0]) hO (by kernel_rfl) (by kernel_rfl) (by kernel_rfl) (Nat.le_of_ble_eq_true (by kernel_rfl)) (by kernel_rfl) (.head _)
      refine L_skip hF (by kernel_rfl) (by kernel_rfl) (x_store (p := .pointer (some ⟨b3, 0, none⟩)) (v := .agg #[.bool true, .int .u8 0, .int .u8 0, .int .u8 0, .int .u8 0, .int .u8 0, .int .u8 0, .int .u8 0, .int .u8 0, .int .u8 0, .int .u8 0, .int .u8 0, .int .u8 0, .int .u8 0, .int .u8 0, .int .u8 0, .int .u8 0]) rfl (by kernel_rfl) (by kernel_rfl) hst) (by kernel_rfl) ?_
      clear hst hF; intro a hF; replace hO := hO1; clear hO1
      refine L_nil ?_
      refine hK18 _ _ ?_
      refine wp_seq_k fun K19 hK19 => ?_
      refine wp_region_lit ?_
      refine Vp hF (.pointer (some ⟨b3, 1, none⟩)) ?_; clear hF; intro a hF
      refine Vr hF (.slice (some ⟨b3, 1, none⟩) 16 16) (x_slArr (b := b3) (off := 1) (n := 16) (elem := 5) (lo := 0) (hi := 16) rfl (by kernel_rfl) (by kernel_rfl) (by kernel_rfl) rfl rfl (by omega) (by omega) (by omega) (by kernel_rfl) (by first | rfl | omega) (by first | rfl | omega)) ?_; clear hF; intro a hF
      refine Vp hF (.slice q1 ((rowB (cutH s)).length) qc1) ?_; clear hF; intro a hF
      replace hO := hO.reblk (cs := #[.bool true, .int .u8 0, .int .u8 0, .int .u8 0, .int .u8 0, .int .u8 0, .int .u8 0, .int .u8 0, .int .u8 0, .int .u8 0, .int .u8 0, .int .u8 0, .int .u8 0, .int .u8 0, .int .u8 0, .int .u8 0, .int .u8 0]) (cs' := (ipL sixIp).toArray) (by kernel_rfl) (.head _)
      obtain ⟨W17, hst, hO1⟩ := run_copy_ip (P := Tryz.prog) (e := 5) (t := 46) (ty := 3) (j := 0) (n := 16) (c := 16) (off := 1) (cq := qc1) (q := q1) (A := rowB (cutH s)) hO (.head _) (by kernel_rfl) (by kernel_rfl) (hO.row (List.mem_cons_of_mem _ (List.mem_cons_of_mem _ List.mem_cons_self))) (by omega) (by omega) (by (try unfold arrOff); intros; (try split) <;> omega)
      refine L_valW hF (by kernel_rfl) (by kernel_rfl) (x_copy hst rfl (by kernel_rfl) (by kernel_rfl) rfl) (by kernel_rfl) ?_
      clear hst hF; intro a hF; replace hO := hO1; clear hO1
      refine L_nil ?_
      refine hK19 _ _ ?_
      refine wp_seq_k fun K20 hK20 => ?_
      refine wp_region_lit ?_
      refine Vp hF (.pointer (some ⟨b3, 1, none⟩)) ?_; clear hF; intro a hF
      refine Vp hF (.slice q2 ((rowB (cutT s)).length) qc2) ?_; clear hF; intro a hF
      refine Vp hF (.int .i64 (((rowB (cutT s)).length : Int))) ?_; clear hF; intro a hF
      refine Vr hF (.int .i64 (16 - ((rowB (cutT s)).length : Int))) (x_int (x := IntKind.i64.wrap (16 - ((rowB (cutT s)).length : Int))) (i64In (by omega) (by omega)) (by kernel_rfl)) ?_; clear hF; intro a hF
      refine Vr hF (.slice (some ⟨b3, 1 + arrOff 16 (16 - ((rowB (cutT s)).length : Int)), none⟩) (16 - (16 - ((rowB (cutT s)).length : Int)).toNat) (16 - (16 - ((rowB (cutT s)).length : Int)).toNat)) (x_slArr (b := b3) (off := 1) (n := 16) (elem := 5) (lo := 16 - ((rowB (cutT s)).length : Int)) (hi := 16) rfl (by kernel_rfl) (by kernel_rfl) (by kernel_rfl) ⟨.i64, (by kernel_rfl)⟩ rfl (by omega) (by omega) (by omega) (by kernel_rfl) (by first | rfl | omega) (by first | rfl | omega)) ?_; clear hF; intro a hF
      refine Vp hF (.slice q2 ((rowB (cutT s)).length) qc2) ?_; clear hF; intro a hF
      obtain ⟨W18, hst, hO1⟩ := run_copy_ip (P := Tryz.prog) (e := 5) (t := 46) (ty := 3) (j := (16 - ((rowB (cutT s)).length : Int)).toNat) (n := 16 - (16 - ((rowB (cutT s)).length : Int)).toNat) (c := 16 - (16 - ((rowB (cutT s)).length : Int)).toNat) (off := 1 + arrOff 16 (16 - ((rowB (cutT s)).length : Int))) (cq := qc2) (q := q2) (A := rowB (cutT s)) hO (.head _) (by kernel_rfl) (by kernel_rfl) (hO.row (List.mem_cons_of_mem _ List.mem_cons_self)) (by omega) (by omega) (by (try unfold arrOff); intros; (try split) <;> omega)
      refine L_valW hF (by kernel_rfl) (by kernel_rfl) (x_copy hst rfl (by kernel_rfl) (by kernel_rfl) rfl) (by kernel_rfl) ?_
      clear hst hF; intro a hF; replace hO := hO1; clear hO1
      refine L_nil ?_
      refine hK20 _ _ ?_
      refine wp_seq_k fun K21 hK21 => ?_
      refine wp_region_lit ?_
      refine Vr hF (ipV ((sixIp.cpy 0 (rowB (cutH s))).cpy ((16 - ((rowB (cutT s)).length : Int)).toNat) (rowB (cutT s)))) (x_load (p := .pointer (some ⟨b3, 0, none⟩)) rfl (by kernel_rfl) (run_loadA (k := 17) (by kernel_rfl) (by kernel_rfl) (hO.blk List.mem_cons_self) (by kernel_rfl) (by kernel_rfl))) ?_; clear hF; intro a hF
      obtain ⟨W19, hst, hO1⟩ := run_storeAt (P := Tryz.prog) (k := 17) (T := 33) (off := 0) (v := ipV ((sixIp.cpy 0 (rowB (cutH s))).cpy ((16 - ((rowB (cutT s)).length : Int)).toNat) (rowB (cutT s)))) (cs := #[.bool false, .int .u8 0, .int .u8 0, .int .u8 0, .int .u8 0, .int .u8 0, .int .u8 0, .int .u8 0, .int .u8 0, .int .u8 0, .int .u8 0, .int .u8 0, .int .u8 0, .int .u8 0, .int .u8 0, .int .u8 0, .int .u8 0]) (cs' := (ipL ((sixIp.cpy 0 (rowB (cutH s))).cpy ((16 - ((rowB (cutT s)).length : Int)).toNat) (rowB (cutT s)))).toArray) hO (by kernel_rfl) (by kernel_rfl) (by kernel_rfl) (Nat.le_of_ble_eq_true (by kernel_rfl)) (by kernel_rfl) (.tail (.tail (.tail (.head _))))
      refine L_skip hF (by kernel_rfl) (by kernel_rfl) (x_store (p := .pointer (some ⟨b1, 0, none⟩)) (v := ipV ((sixIp.cpy 0 (rowB (cutH s))).cpy ((16 - ((rowB (cutT s)).length : Int)).toNat) (rowB (cutT s)))) rfl (by kernel_rfl) (by kernel_rfl) hst) (by kernel_rfl) ?_
      clear hst hF; intro a hF; replace hO := hO1; clear hO1
      refine Vp hF (.nilIface) ?_; clear hF; intro a hF
      refine L_nil ?_
      refine hK21 _ _ ?_
      refine wp_ret ?_
      refine ret2 hF (v := ipV ((sixIp.cpy 0 (rowB (cutH s))).cpy ((16 - ((rowB (cutT s)).length : Int)).toNat) (rowB (cutT s)))) (u := .nilIface) rfl (resC (ad := ⟨b1, 0, none⟩) (by kernel_rfl) (run_loadA (k := 17) (by kernel_rfl) (by kernel_rfl) (hO.blk (List.mem_cons_of_mem _ (List.mem_cons_of_mem _ (List.mem_cons_of_mem _ List.mem_cons_self)))) (by kernel_rfl) (by kernel_rfl))) (resT (by kernel_rfl)) (by refine ⟨?_, hO.nil⟩; first | (rw [colP_some (colOk_iff.2 ⟨by assumption, by assumption, by assumption, by first | exact .inl ⟨by assumption, by omega⟩ | exact .inr ⟨by assumption, by omega⟩⟩)]; kernel_rfl) | (rw [colP_none (fun hc => by obtain ⟨h1, h2, h3, h4⟩ := colOk_iff.1 hc; rcases h4 with ⟨h5, h6⟩ | ⟨h5, h6⟩ <;> first | omega | (simp_all; done) | (simp_all; omega))]; rfl)) .ret (.inl rfl)

set_option maxRecDepth 20000 in
theorem addr_Parse_cs (I : List Nat) (ea : Nat → Addr) (s : ByteArray) (x0 : Ip) (W : World) (hG : LibW W) (hE : Errs I ea W) (h3 : I.contains 3 = true) (hs : s.size ≤ 1000000) (hc : hasC s = true) (hp : colP s = some x0) : Ret Tryz.prog 27 #[.string s] W fun v W' => v = retIp ea (some x0) ∧ Own W noX [] W' := by
 refine enter Tryz.func27 rfl (n := 14) rfl (by kernel_rfl) (E0 := [(0, .string s)]) (by kernel_rfl) ?_
 intro a hF; have hO := Own.start W noX
 refine wp_seq_k fun K1 hK1 => ?_
 refine wp_region_lit ?_
 refine L_new hF hO (by kernel_rfl) (by kernel_rfl) (vf := fun b => .pointer (some ⟨b, 0, none⟩)) (ob := .cells #[.bool false, .int .u8 0, .int .u8 0, .int .u8 0, .int .u8 0, .int .u8 0, .int .u8 0, .int .u8 0, .int .u8 0, .int .u8 0, .int .u8 0, .int .u8 0, .int .u8 0, .int .u8 0, .int .u8 0, .int .u8 0, .int .u8 0] 33) (by kernel_rfl) (by kernel_rfl) ?_
 clear hF hO; intro b1 W1 a hO hF
 refine Vp hF (.nilIface) ?_; clear hF; intro a hF
 refine L_nil ?_
 refine hK1 _ _ ?_
 refine wp_seq_k fun K2 hK2 => ?_
 refine wp_seq_k fun K3 hK3 => ?_
 refine wp_region_lit ?_
 refine Vp hF (.string s) ?_; clear hF; intro a hF
 refine Lc hF ((contains_ret s W1).mono fun v W' h => (⟨by rw [h.1, hc], h.2⟩ : v = .bool true ∧ Own W1 noX [] W')) ?_
 clear hF; rintro _ W2 a ⟨rfl, hk⟩ hF
 replace hO := hO.call0 hk; clear hk
 refine L_nil ?_
 refine hK3 _ _ ?_
 refine cond_t hF (by kernel_rfl) (by kernel_rfl) ?_
 refine wp_seq_k fun K4 hK4 => ?_
 refine wp_region_lit ?_
 refine Vp hF (.string s) ?_; clear hF; intro a hF
 refine Lc hF ((addr_coloned I ea s W2 (hG.own hO) (hE.own hO) h3 hs).mono fun v W' h => (⟨by rw [h.1, hp]; rfl, h.2⟩ : v = .tuple #[ipV x0, .nilIface] ∧ Own W2 noX [] W')) ?_
 clear hF; rintro _ W3 a ⟨rfl, hk⟩ hF
 replace hO := hO.call0 hk; clear hk
 refine Vp hF (ipV x0) ?_; clear hF; intro a hF
 refine Vp hF (.nilIface) ?_; clear hF; intro a hF
 obtain ⟨W4, hst, hO1⟩ := run_storeAt (P := Tryz.prog) (k := 17) (T := 33) (off := 0) (v := ipV x0) (cs := #[.bool false, .int .u8 0, .int .u8 0, .int .u8 0, .int .u8 0, .int .u8 0, .int .u8 0, .int .u8 0, .int .u8 0, .int .u8 0, .int .u8 0, .int .u8 0, .int .u8 0, .int .u8 0, .int .u8 0, .int .u8 0, .int .u8 0]) (cs' := (ipL x0).toArray) hO (by kernel_rfl) (by kernel_rfl) (by kernel_rfl) (Nat.le_of_ble_eq_true (by kernel_rfl)) (by kernel_rfl) (.head _)
 refine L_skip hF (by kernel_rfl) (by kernel_rfl) (x_store (p := .pointer (some ⟨b1, 0, none⟩)) (v := ipV x0) rfl (by kernel_rfl) (by kernel_rfl) hst) (by kernel_rfl) ?_
 clear hst hF; intro a hF; replace hO := hO1; clear hO1
 refine Vp hF (.nilIface) ?_; clear hF; intro a hF
 refine L_nil ?_
 refine hK4 _ _ ?_
 refine wp_ret ?_
 refine then_ret ?_
 refine ret2 hF (v := ipV x0) (u := .nilIface) rfl (resC (ad := ⟨b1, 0, none⟩) (by kernel_rfl) (run_loadA (k := 17) (by kernel_rfl) (by kernel_rfl) (hO.blk List.mem_cons_self) (by kernel_rfl) (by kernel_rfl))) (resT (by kernel_rfl)) (by refine ⟨?_, hO.nil⟩; first | rfl | (simp [*]; done)) .ret (.inl rfl)

set_option maxRecDepth 20000 in
theorem addr_Parse_cn (I : List Nat) (ea : Nat → Addr) (s : ByteArray) (W : World) (hG : LibW W) (hE : Errs I ea W) (h3 : I.contains 3 = true) (hs : s.size ≤ 1000000) (hc : hasC s = true) (hp : colP s = none) : Ret Tryz.prog 27 #[.string s] W fun v W' => v = retIp ea none ∧ Own W noX [] W' := by
 refine enter Tryz.func27 rfl (n := 14) rfl (by kernel_rfl) (E0 := [(0, .string s)]) (by kernel_rfl) ?_
 intro a hF; have hO := Own.start W noX
 refine wp_seq_k fun K1 hK1 => ?_
 refine wp_region_lit ?_
 refine L_new hF hO (by kernel_rfl) (by kernel_rfl) (vf := fun b => .pointer (some ⟨b, 0, none⟩)) (ob := .cells #[.bool false, .int .u8 0, .int .u8 0, .int .u8 0, .int .u8 0, .int .u8 0, .int .u8 0, .int .u8 0, .int .u8 0, .int .u8 0, .int .u8 0, .int .u8 0, .int .u8 0, .int .u8 0, .int .u8 0, .int .u8 0, .int .u8 0] 33) (by kernel_rfl) (by kernel_rfl) ?_
 clear hF hO; intro b1 W1 a hO hF
 refine Vp hF (.nilIface) ?_; clear hF; intro a hF
 refine L_nil ?_
 refine hK1 _ _ ?_
 refine wp_seq_k fun K2 hK2 => ?_
 refine wp_seq_k fun K3 hK3 => ?_
 refine wp_region_lit ?_
 refine Vp hF (.string s) ?_; clear hF; intro a hF
 refine Lc hF ((contains_ret s W1).mono fun v W' h => (⟨by rw [h.1, hc], h.2⟩ : v = .bool true ∧ Own W1 noX [] W')) ?_
 clear hF; rintro _ W2 a ⟨rfl, hk⟩ hF
 replace hO := hO.call0 hk; clear hk
 refine L_nil ?_
 refine hK3 _ _ ?_
 refine cond_t hF (by kernel_rfl) (by kernel_rfl) ?_
 refine wp_seq_k fun K4 hK4 => ?_
 refine wp_region_lit ?_
 refine Vp hF (.string s) ?_; clear hF; intro a hF
 refine Lc hF ((addr_coloned I ea s W2 (hG.own hO) (hE.own hO) h3 hs).mono fun v W' h => (⟨by rw [h.1, hp]; rfl, h.2⟩ : v = .tuple #[ipV noIp, errV ea 3] ∧ Own W2 noX [] W')) ?_
 clear hF; rintro _ W3 a ⟨rfl, hk⟩ hF
 replace hO := hO.call0 hk; clear hk
 refine Vp hF (ipV noIp) ?_; clear hF; intro a hF
 refine Vp hF (errV ea 3) ?_; clear hF; intro a hF
 obtain ⟨W4, hst, hO1⟩ := run_storeAt (P := Tryz.prog) (k := 17) (T := 33) (off := 0) (v := ipV noIp) (cs := #[.bool false, .int .u8 0, .int .u8 0, .int .u8 0, .int .u8 0, .int .u8 0, .int .u8 0, .int .u8 0, .int .u8 0, .int .u8 0, .int .u8 0, .int .u8 0, .int .u8 0, .int .u8 0, .int .u8 0, .int .u8 0, .int .u8 0]) (cs' := (ipL noIp).toArray) hO (by kernel_rfl) (by kernel_rfl) (by kernel_rfl) (Nat.le_of_ble_eq_true (by kernel_rfl)) (by kernel_rfl) (.head _)
 refine L_skip hF (by kernel_rfl) (by kernel_rfl) (x_store (p := .pointer (some ⟨b1, 0, none⟩)) (v := ipV noIp) rfl (by kernel_rfl) (by kernel_rfl) hst) (by kernel_rfl) ?_
 clear hst hF; intro a hF; replace hO := hO1; clear hO1
 refine Vp hF (errV ea 3) ?_; clear hF; intro a hF
 refine L_nil ?_
 refine hK4 _ _ ?_
 refine wp_ret ?_
 refine then_ret ?_
 refine ret2 hF (v := ipV noIp) (u := errV ea 3) rfl (resC (ad := ⟨b1, 0, none⟩) (by kernel_rfl) (run_loadA (k := 17) (by kernel_rfl) (by kernel_rfl) (hO.blk List.mem_cons_self) (by kernel_rfl) (by kernel_rfl))) (resT (by kernel_rfl)) (by refine ⟨?_, hO.nil⟩; first | rfl | (simp [*]; done)) .ret (.inl rfl)

set_option maxRecDepth 20000 in
theorem addr_Parse_ds (I : List Nat) (ea : Nat → Addr) (s : ByteArray) (x0 : Ip) (W : World) (hG : LibW W) (hE : Errs I ea W) (h3 : I.contains 3 = true) (hs : s.size ≤ 1000000) (hc : hasC s = false) (hp : dotP s = some x0) : Ret Tryz.prog 27 #[.string s] W fun v W' => v = retIp ea (some x0) ∧ Own W noX [] W' := by
 refine enter Tryz.func27 rfl (n := 14) rfl (by kernel_rfl) (E0 := [(0, .string s)]) (by kernel_rfl) ?_
 intro a hF; have hO := Own.start W noX
 refine wp_seq_k fun K1 hK1 => ?_
 refine wp_region_lit ?_
 refine L_new hF hO (by kernel_rfl) (by kernel_rfl) (vf := fun b => .pointer (some ⟨b, 0, none⟩)) (ob := .cells #[.bool false, .int .u8 0, .int .u8 0, .int .u8 0, .int .u8 0, .int .u8 0, .int .u8 0, .int .u8 0, .int .u8 0, .int .u8 0, .int .u8 0, .int .u8 0, .int .u8 0, .int .u8 0, .int .u8 0, .int .u8 0, .int .u8 0] 33) (by kernel_rfl) (by kernel_rfl) ?_
 clear hF hO; intro b1 W1 a hO hF
 refine Vp hF (.nilIface) ?_; clear hF; intro a hF
 refine L_nil ?_
 refine hK1 _ _ ?_
 refine wp_seq_k fun K2 hK2 => ?_
 refine wp_seq_k fun K3 hK3 => ?_
 refine wp_region_lit ?_
 refine Vp hF (.string s) ?_; clear hF; intro a hF
 refine Lc hF ((contains_ret s W1).mono fun v W' h => (⟨by rw [h.1, hc], h.2⟩ : v = .bool false ∧ Own W1 noX [] W')) ?_
 clear hF; rintro _ W2 a ⟨rfl, hk⟩ hF
 replace hO := hO.call0 hk; clear hk
 refine L_nil ?_
 refine hK3 _ _ ?_
 refine cond_f hF (by kernel_rfl) (by kernel_rfl) ?_
 refine wp_skip ?_
 refine hK2 _ _ ?_
 refine wp_seq_k fun K4 hK4 => ?_
 refine wp_region_lit ?_
 refine Vp hF (.string s) ?_; clear hF; intro a hF
 refine Lc hF ((addr_dotted I ea s W2 (hG.own hO) (hE.own hO) h3 hs).mono fun v W' h => (⟨by rw [h.1, hp]; rfl, h.2⟩ : v = .tuple #[ipV x0, .nilIface] ∧ Own W2 noX [] W')) ?_
 clear hF; rintro _ W3 a ⟨rfl, hk⟩ hF
 replace hO := hO.call0 hk; clear hk
 refine Vp hF (ipV x0) ?_; clear hF; intro a hF
 refine Vp hF (.nilIface) ?_; clear hF; intro a hF
 obtain ⟨W4, hst, hO1⟩ := run_storeAt (P := Tryz.prog) (k := 17) (T := 33) (off := 0) (v := ipV x0) (cs := #[.bool false, .int .u8 0, .int .u8 0, .int .u8 0, .int .u8 0, .int .u8 0, .int .u8 0, .int .u8 0, .int .u8 0, .int .u8 0, .int .u8 0, .int .u8 0, .int .u8 0, .int .u8 0, .int .u8 0, .int .u8 0, .int .u8 0]) (cs' := (ipL x0).toArray) hO (by kernel_rfl) (by kernel_rfl) (by kernel_rfl) (Nat.le_of_ble_eq_true (by kernel_rfl)) (by kernel_rfl) (.head _)
 refine L_skip hF (by kernel_rfl) (by kernel_rfl) (x_store (p := .pointer (some ⟨b1, 0, none⟩)) (v := ipV x0) rfl (by kernel_rfl) (by kernel_rfl) hst) (by kernel_rfl) ?_
 clear hst hF; intro a hF; replace hO := hO1; clear hO1
 refine Vp hF (.nilIface) ?_; clear hF; intro a hF
 refine L_nil ?_
 refine hK4 _ _ ?_
 refine wp_ret ?_
 refine ret2 hF (v := ipV x0) (u := .nilIface) rfl (resC (ad := ⟨b1, 0, none⟩) (by kernel_rfl) (run_loadA (k := 17) (by kernel_rfl) (by kernel_rfl) (hO.blk List.mem_cons_self) (by kernel_rfl) (by kernel_rfl))) (resT (by kernel_rfl)) (by refine ⟨?_, hO.nil⟩; first | rfl | (simp [*]; done)) .ret (.inl rfl)

set_option maxRecDepth 20000 in
theorem addr_Parse_dn (I : List Nat) (ea : Nat → Addr) (s : ByteArray) (W : World) (hG : LibW W) (hE : Errs I ea W) (h3 : I.contains 3 = true) (hs : s.size ≤ 1000000) (hc : hasC s = false) (hp : dotP s = none) : Ret Tryz.prog 27 #[.string s] W fun v W' => v = retIp ea none ∧ Own W noX [] W' := by
 refine enter Tryz.func27 rfl (n := 14) rfl (by kernel_rfl) (E0 := [(0, .string s)]) (by kernel_rfl) ?_
 intro a hF; have hO := Own.start W noX
 refine wp_seq_k fun K1 hK1 => ?_
 refine wp_region_lit ?_
 refine L_new hF hO (by kernel_rfl) (by kernel_rfl) (vf := fun b => .pointer (some ⟨b, 0, none⟩)) (ob := .cells #[.bool false, .int .u8 0, .int .u8 0, .int .u8 0, .int .u8 0, .int .u8 0, .int .u8 0, .int .u8 0, .int .u8 0, .int .u8 0, .int .u8 0, .int .u8 0, .int .u8 0, .int .u8 0, .int .u8 0, .int .u8 0, .int .u8 0] 33) (by kernel_rfl) (by kernel_rfl) ?_
 clear hF hO; intro b1 W1 a hO hF
 refine Vp hF (.nilIface) ?_; clear hF; intro a hF
 refine L_nil ?_
 refine hK1 _ _ ?_
 refine wp_seq_k fun K2 hK2 => ?_
 refine wp_seq_k fun K3 hK3 => ?_
 refine wp_region_lit ?_
 refine Vp hF (.string s) ?_; clear hF; intro a hF
 refine Lc hF ((contains_ret s W1).mono fun v W' h => (⟨by rw [h.1, hc], h.2⟩ : v = .bool false ∧ Own W1 noX [] W')) ?_
 clear hF; rintro _ W2 a ⟨rfl, hk⟩ hF
 replace hO := hO.call0 hk; clear hk
 refine L_nil ?_
 refine hK3 _ _ ?_
 refine cond_f hF (by kernel_rfl) (by kernel_rfl) ?_
 refine wp_skip ?_
 refine hK2 _ _ ?_
 refine wp_seq_k fun K4 hK4 => ?_
 refine wp_region_lit ?_
 refine Vp hF (.string s) ?_; clear hF; intro a hF
 refine Lc hF ((addr_dotted I ea s W2 (hG.own hO) (hE.own hO) h3 hs).mono fun v W' h => (⟨by rw [h.1, hp]; rfl, h.2⟩ : v = .tuple #[ipV noIp, errV ea 3] ∧ Own W2 noX [] W')) ?_
 clear hF; rintro _ W3 a ⟨rfl, hk⟩ hF
 replace hO := hO.call0 hk; clear hk
 refine Vp hF (ipV noIp) ?_; clear hF; intro a hF
 refine Vp hF (errV ea 3) ?_; clear hF; intro a hF
 obtain ⟨W4, hst, hO1⟩ := run_storeAt (P := Tryz.prog) (k := 17) (T := 33) (off := 0) (v := ipV noIp) (cs := #[.bool false, .int .u8 0, .int .u8 0, .int .u8 0, .int .u8 0, .int .u8 0, .int .u8 0, .int .u8 0, .int .u8 0, .int .u8 0, .int .u8 0, .int .u8 0, .int .u8 0, .int .u8 0, .int .u8 0, .int .u8 0, .int .u8 0]) (cs' := (ipL noIp).toArray) hO (by kernel_rfl) (by kernel_rfl) (by kernel_rfl) (Nat.le_of_ble_eq_true (by kernel_rfl)) (by kernel_rfl) (.head _)
 refine L_skip hF (by kernel_rfl) (by kernel_rfl) (x_store (p := .pointer (some ⟨b1, 0, none⟩)) (v := ipV noIp) rfl (by kernel_rfl) (by kernel_rfl) hst) (by kernel_rfl) ?_
 clear hst hF; intro a hF; replace hO := hO1; clear hO1
 refine Vp hF (errV ea 3) ?_; clear hF; intro a hF
 refine L_nil ?_
 refine hK4 _ _ ?_
 refine wp_ret ?_
 refine ret2 hF (v := ipV noIp) (u := errV ea 3) rfl (resC (ad := ⟨b1, 0, none⟩) (by kernel_rfl) (run_loadA (k := 17) (by kernel_rfl) (by kernel_rfl) (hO.blk List.mem_cons_self) (by kernel_rfl) (by kernel_rfl))) (resT (by kernel_rfl)) (by refine ⟨?_, hO.nil⟩; first | rfl | (simp [*]; done)) .ret (.inl rfl)

theorem addr_Parse (I : List Nat) (ea : Nat → Addr) (s : ByteArray) (W : World) (hG : LibW W) (hE : Errs I ea W) (h3 : I.contains 3 = true) (hs : s.size ≤ 1000000) : Ret Tryz.prog 27 #[.string s] W fun v W' => v = retIp ea (parseIp s) ∧ Own W noX [] W' := by
  unfold parseIp
  cases hc : hasC s with
  | true => cases hp : colP s with
    | none => simpa [hp] using addr_Parse_cn I ea s W hG hE h3 hs hc hp
    | some a => simpa [hp] using addr_Parse_cs I ea s a W hG hE h3 hs hc hp
  | false => cases hp : dotP s with
    | none => simpa [hp] using addr_Parse_dn I ea s W hG hE h3 hs hc hp
    | some a => simpa [hp] using addr_Parse_ds I ea s a W hG hE h3 hs hc hp

end Go.Proofs.YthellfigmpjhlaaGreatDoor
