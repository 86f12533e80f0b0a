/- Arrays of bytes inside an address: what is stored, copied, sliced. -/
import Derived.Test.YthellfigmpjhlaaGreatDoorAddrP
import Derived.Lib.ConvBytes
namespace Go.Proofs.YthellfigmpjhlaaGreatDoor
open Go Go.RowKit
set_option linter.unusedVariables false
set_option linter.unusedSimpArgs false
set_option linter.unusedSectionVars false

section
variable {w0 W : World} {X : Ext} {L L' K : List Chunk} {P : Program}

theorem Own.reblk {b : Nat} {cs cs' : Array Value} {T : TypeId} {fr : Nat × Nat} (h : Own w0 X L W) (e : cs = cs') (hu : Upd (.blk b (.cells cs T fr)) (.blk b (.cells cs' T fr)) L L') : Own w0 X L' W :=
  h.turn hu (fun _ h => h) (fun hh => by subst e; exact hh)

theorem splice_set (x : Ip) (i : Nat) (hi : i < 16) (v : UInt8) : splice (ipL x).toArray (1 + i * 1) [.int .u8 (v.toNat : Int)] = (ipL (x.set i v)).toArray := by
  match i, hi with
  | 0, _ | 1, _ | 2, _ | 3, _ | 4, _ | 5, _ | 6, _ | 7, _ | 8, _ | 9, _ | 10, _ | 11, _ | 12, _ | 13, _ | 14, _ | 15, _ => rfl
  | n + 16, h => omega

theorem run_store_ip {b i : Nat} {x : Ip} {v : UInt8} {E T : TypeId} (h : Own w0 X L W) (hs : sizeT P T = some 1) (hi : i < 16) (hu : Upd (.blk b (.cells (ipL x).toArray E (0, 0))) (.blk b (.cells (ipL (x.set i v)).toArray E (0, 0))) L L') :
    ∃ W', (Instr.storeAt T (.pointer (some ⟨b, 1 + i * 1, none⟩)) (.int .u8 (v.toNat : Int))).run P W = .ok () W' ∧ Own w0 X L' W' :=
  run_storeAt h hs rfl rfl (by show 1 + i * 1 + 1 ≤ 17; omega) (splice_set x i hi v) hu

theorem over_flat {α : Type} {c : α → List Value} {k : Nat} (hk : ∀ a, (c a).length = k) (F A : List α) (j : Nat) : (over F j A).flatMap c = over (F.flatMap c) (j * k) (A.flatMap c) := by
  unfold over
  rw [List.flatMap_append, List.flatMap_append, flat_take hk, flat_drop hk, flat_len hk, Nat.add_mul]

theorem splice_cpy (x : Ip) (j : Nat) (A : List UInt8) (hj : j + A.length ≤ 16) : splice (ipL x).toArray (1 + j) (A.flatMap u8L) = (ipL (x.cpy j A)).toArray := by
  have hl : (A.flatMap u8L).length = A.length := by rw [flat_len (k := 1) (fun _ => rfl)]; omega
  rw [← Array.toList_inj, splice_over _ _ _ (by rw [hl]; show 1 + j + A.length ≤ 17; omega)]
  show over (ipL x) (1 + j) (A.flatMap u8L) = ipL (x.cpy j A)
  have hb : (x.cpy j A).bytes = over x.bytes j A := Ip.bytes_of _ _ (by rw [over_len (by rw [Ip.bytes_len]; exact hj)]; rfl)
  rw [ipL_bytes, ipL_bytes, hb, over_flat (k := 1) (fun _ => rfl)]
  unfold over
  rw [show 1 + j = j + 1 by omega, List.take_succ_cons, Nat.mul_one, show j + 1 + (A.flatMap u8L).length = (j + (A.flatMap u8L).length) + 1 by omega, List.drop_succ_cons]
  rfl

theorem cpy_nil (x : Ip) (j : Nat) : x.cpy j [] = x := by
  unfold Ip.cpy over
  simp [Ip.of_bytes]

theorem run_copy_ip {b j n c off cq : Nat} {q : Option Addr} {A : List UInt8} {x : Ip} {t ty e E : TypeId} (hO : Own w0 X L W) (hu : Upd (.blk b (.cells (ipL x).toArray E (0, 0))) (.blk b (.cells (ipL (x.cpy j A)).toArray E (0, 0))) L L')
    (ht : P.underlying t = some (.slice e)) (hs : sizeT P e = some 1) (hsrc : SlAt W q (A.flatMap u8L)) (hn : A.length ≤ n) (hj : j + A.length ≤ 16) (hoff : A.length ≠ 0 → off = 1 + j) :
    ∃ W', (Builtin.copy_ #[t, t] ty #[.slice (some ⟨b, off, none⟩) n c, .slice q A.length cq]).run P W = .ok (.int .i64 (A.length : Int)) W' ∧ Own w0 X L' W' := by
  have hmin : Nat.min A.length n = A.length := Nat.min_eq_left hn
  have hl : (A.flatMap u8L).length = A.length * 1 := flat_len (k := 1) (fun _ => rfl) A
  by_cases hA : A = []
  · subst hA
    rw [cpy_nil] at hu
    have hf : (Builtin.firstCells 1 0 (.slice q 0 cq)).run P W = .ok #[] W := by
      cases q with
      | none => exact run_firstCells_none W _ _ _ _
      | some a => exact run_firstCells_some W 1 0 a 0 cq [] (by simp) (fun j v h => by simp at h)
    refine ⟨W, ?_, hO.turn hu (fun _ h => h) (fun h => h)⟩
    simp [Builtin.copy_, run_underlying ht, run_sizeOf hs, Builtin.lenOf, hf, storeCells, goInt]
  · have hpos : 0 < A.length := List.length_pos_iff.2 hA
    have hq : q = some ⟨ab q, ao q, none⟩ := hsrc.ne (k := 1) (fun _ => rfl) (by decide) hpos
    have hf : (Builtin.firstCells 1 A.length (.slice q A.length cq)).run P W = .ok (A.flatMap u8L).toArray W := by
      rw [hq]
      exact run_firstCells_some W 1 A.length _ _ _ _ hl (fun i u hu => by rw [addr_add]; exact hsrc.cell i u hu)
    have hall : (A.flatMap u8L).all (·.oneCell') = true := by
      rw [List.all_eq_true]
      intro u hu
      obtain ⟨a, _, ha⟩ := List.mem_flatMap.1 hu
      simp [u8L] at ha
      subst ha
      rfl
    have ho := hoff (by omega)
    subst ho
    have hb := hO.blk hu.mem
    obtain ⟨W', hr, e1, e2, e3, e7, e4, e5, e6⟩ := run_storeCells' (P := P) (A.flatMap u8L) (1 + j) 0 (ipL x).toArray W hb (by rw [hl]; show 1 + j + 0 + A.length * 1 ≤ 17; omega) hall
    refine ⟨W', ?_, hO.write hu e1 e2 e3 (by rw [e7]; exact Nat.le_refl _) e4 (by rw [e5, ← splice_cpy x j A hj]; rfl) e6⟩
    simp [Builtin.copy_, run_underlying ht, run_sizeOf hs, Builtin.lenOf, hmin, hf, hr, goInt]

def arrOff (n : Nat) (lo : Int) : Nat := if n = lo.toNat then 0 else lo.toNat
end

section
variable {P : Program} {o : Oper} {W W' : World} {E : Env} {v v1 v2 : Value}
theorem x_copy {s x : Operand} {t1 t2 ty : TypeId} (hr : (Builtin.copy_ #[t1, t2] ty #[v1, v2]).run P W = .ok v W') (hop : o.op = .call { callee := .builtin .copy, args := #[s, x], argTypes := #[t1, t2] }) (h1 : rho E s = v1) (h2 : rho E x = v2) (hty : o.type = ty) :
    (execOp (rho E) o).run P W = .ok (.value v) W' := by
  unfold execOp
  simp only [hop, resolve, invoke, builtin, Sem.run_bind, Sem.run_pure, Result.andThen_ok, List.map_toArray, List.map_cons, List.map_nil, h1, h2, hty, hr]

/-- 'x[lo:hi]' of an array behind a pointer. -/
theorem x_slArr {T elem : TypeId} {ax : Operand} {lx hx : Option Operand} {b off n : Nat} {lo hi : Int} {m r o' : Nat} (hop : o.op = .slice T ax lx hx none) (h1 : rho E ax = .pointer (some ⟨b, off, none⟩)) (hT : P.underlying T = some (.array n elem)) (hs : sizeT P elem = some 1)
    (hlo : match lx with | some l => ∃ kd, rho E l = .int kd lo | none => lo = 0) (hhi : match hx with | some h => ∃ kd, rho E h = .int kd hi | none => hi = (n : Int)) (h0 : 0 ≤ lo) (h2 : lo ≤ hi) (h3 : hi ≤ n)
    (ho : off + arrOff n lo = o') (hm : hi.toNat - lo.toNat = m) (hr : n - lo.toNat = r) :
    (execOp (rho E) o).run P W = .ok (.value (.slice (some ⟨b, o', none⟩) m r)) W := by
  subst hm hr ho
  unfold execOp
  have hb1 : ∀ kd, (Instr.sliceBound (.int kd hi) n .sliceAlen).run P W = .ok hi.toNat W := fun kd => run_bound_lo (by omega) h3
  have hb2 : ∀ kd, (Instr.sliceBound (.int kd lo) hi.toNat .sliceB).run P W = .ok lo.toNat W := fun kd => run_bound_lo h0 (by omega)
  cases lx <;> cases hx
  · subst hlo hhi
    by_cases hn : n = 0 <;> simp [hop, h1, Instr.sliceAt, underlying, program, Sem.run, hT, Result.andThen, Instr.sliceBounds, run_sizeOf hs, Instr.sureAddr, arrOff, addr_add, hn]
  · obtain ⟨kd, hh⟩ := hhi
    subst hlo
    by_cases hn : n = 0 <;> simp [hop, h1, hh, Instr.sliceAt, underlying, program, Sem.run, hT, Result.andThen, Instr.sliceBounds, hb1, run_sizeOf hs, Instr.sureAddr, arrOff, addr_add, hn]
    all_goals simp_all
  · obtain ⟨kd, hh⟩ := hlo
    subst hhi
    have hb3 : (Instr.sliceBound (.int kd lo) n .sliceB).run P W = .ok lo.toNat W := run_bound_lo h0 (by omega)
    by_cases hn : n = lo.toNat <;> simp [hop, h1, hh, Instr.sliceAt, underlying, program, Sem.run, hT, Result.andThen, Instr.sliceBounds, hb3, run_sizeOf hs, Instr.sureAddr, arrOff, addr_add, hn]
    all_goals simp_all
  · obtain ⟨kd, hh⟩ := hhi
    obtain ⟨kd', hh'⟩ := hlo
    by_cases hn : n = lo.toNat <;> simp [hop, h1, hh, hh', Instr.sliceAt, underlying, program, Sem.run, hT, Result.andThen, Instr.sliceBounds, hb1, hb2, run_sizeOf hs, Instr.sureAddr, arrOff, addr_add, hn]
    all_goals simp_all
end

/-! ### Bytes out of a string -/
def readL {α : Type} (c : α → List Value) (p : Option Addr) (l : List α) : Chunk where
  fp b := p.map (·.block) = some b
  holds h := (l.flatMap c ≠ [] → p = some ⟨ab p, ao p, none⟩) ∧ ∀ j u, (l.flatMap c)[j]? = some u → ∃ cs T fr, h (ab p) = some (.cells cs T fr) ∧ cs[ao p + j]? = some u
  loc h h' he hh := ⟨hh.1, fun j u hu => by
    obtain ⟨cs, T, fr, h1, h2⟩ := hh.2 j u hu
    have hp := hh.1 (fun e => by rw [e] at hu; simp at hu)
    refine ⟨cs, T, fr, ?_, h2⟩
    rw [← he (ab p) (by rw [hp]; rfl)]
    exact h1⟩

theorem Own.read {α : Type} {c : α → List Value} {p : Option Addr} {l : List α} {w0 W : World} {X : Ext} {L : List Chunk} (hO : Own w0 X L W) (hm : readL c p l ∈ L) : SlAt W p (l.flatMap c) := by
  obtain ⟨h1, h2⟩ := hO.holds _ hm
  refine ⟨h1, fun j u hu => ?_⟩
  obtain ⟨cs, T, fr, h3, h4⟩ := h2 j u hu
  have h3' : W.heap[ab p]? = some (.cells cs T fr) := h3
  simp only [World.cell?, h3']
  exact h4

theorem run_conv_bytes {P : Program} {src dst e : TypeId} {s : ByteArray} {u : TypeDesc} {w0 W : World} {X : Ext} {L : List Chunk} (hO : Own w0 X L W) (hs : P.underlying src = some u) (hd : P.underlying dst = some (.slice e)) (he : P.underlying e = some (.int .u8)) :
    ∃ b cap W', (convert src dst (.string s)).run P W = .ok (.slice (some ⟨b, 0, none⟩) s.data.toList.length cap) W' ∧ Own w0 X (readL u8L (some ⟨b, 0, none⟩) s.data.toList :: L) W' := by
  refine ⟨W.heap.size, grownCap W s.size 0 e, Lib.bytesWorld W e s, Lib.run_convert_string_bytes W src dst e s hs hd he, ?_⟩
  have hsz := Lib.bytesWorld_size W e s
  have hnew : Own W noD [readL u8L (some ⟨W.heap.size, 0, none⟩) s.data.toList] (Lib.bytesWorld W e s) := by
    refine ⟨rfl, rfl, rfl, by rw [hsz]; omega, fun b hb _ => Lib.bytesWorld_at_old W e s b hb, fun _ => Nat.le_add_right _ _, ?_, ?_, ?_, List.pairwise_singleton _ _⟩
    · intro x hx
      rw [List.mem_singleton] at hx
      subst hx
      refine ⟨fun _ => rfl, fun j u hu => ⟨_, _, _, Lib.bytesWorld_at_new W e s, ?_⟩⟩
      show (Lib.bytesCells W e s)[0 + j]? = some u
      have hfl : s.data.toList.flatMap u8L = s.data.toList.map fun b => Value.int .u8 (b.toNat : Int) := by
        induction s.data.toList with
        | nil => rfl
        | cons a t ih => simp [u8L, ih]
      rw [hfl] at hu
      have hj : j < s.data.size := by
        have := (List.getElem?_eq_some_iff.1 hu).1
        simpa using this
      rw [Nat.zero_add]
      unfold Lib.bytesCells
      rw [Array.getElem?_append_left (by simpa using hj)]
      simpa using hu
    · intro x hx b hb
      rw [List.mem_singleton] at hx
      subst hx
      rw [← Option.some.inj hb, hsz]
      exact Nat.lt_succ_self _
    · intro x hx b hb
      rw [List.mem_singleton] at hx
      subst hx
      rw [← Option.some.inj hb]
      exact .inl (Nat.le_refl _)
  exact hO.call hnew (fun _ h => h) (fun _ => rfl)

section
variable {P : Program} {o : Oper} {W W' : World} {E : Env} {v v1 : Value}
theorem x_conv {x : Operand} {t1 t2 : TypeId} (hr : (convert t1 t2 v1).run P W = .ok v W') (hop : o.op = .convert t1 t2 x) (h1 : rho E x = v1) : (execOp (rho E) o).run P W = .ok (.value v) W' := by
  unfold execOp
  simp only [hop, h1, Sem.run_bind, hr, Result.andThen_ok, Sem.run_pure]
end
end Go.Proofs.YthellfigmpjhlaaGreatDoor
