/- bytes.Compare: the entry of the model, on rows of bytes. -/
import Derived.Test.YthellfigmpjhlaaGreatDoorIpW
import Derived.Laws.Externs
namespace Go.Proofs.YthellfigmpjhlaaGreatDoor
open Go Go.RowKit
set_option linter.unusedVariables false
set_option linter.unusedSimpArgs false

section
variable {P : Program} {W : World}
theorem run_loadBytes' : ∀ (l : List UInt8) (b off : Nat) (acc : ByteArray), (∀ j u, (l.flatMap u8L)[j]? = some u → W.cell? ⟨b, off + j, none⟩ = some u) → (Extern.Bytes.loadBytes ⟨b, off, none⟩ l.length acc).run P W = .ok ⟨acc.data ++ l.toArray⟩ W
  | [], b, off, acc, _ => by
    simp [Extern.Bytes.loadBytes]
  | x :: t, b, off, acc, h => by
    have h0 := h 0 (.int .u8 (x.toNat : Int)) rfl
    have hl : (load (⟨b, off, none⟩ : Addr)).run P W = .ok (.int .u8 (x.toNat : Int)) W := by
      unfold load
      simp only [Sem.run]
      rw [show (⟨b, off, none⟩ : Addr) = ⟨b, off + 0, none⟩ from rfl, h0]
    have ih := run_loadBytes' t b (off + 1) (acc.push x) (fun j u hu => by
      have := h (j + 1) u (by simpa [u8L] using hu)
      rw [show off + 1 + j = off + (j + 1) by omega]
      exact this)
    rw [List.length_cons, Extern.Bytes.loadBytes]
    simp only [Sem.run_bind, hl, Result.andThen_ok, addr_add]
    have hx : (x.toNat : Int).toNat.toUInt8 = x := by simp
    rw [hx, ih]
    congr 1
    simp [ByteArray.push]

theorem run_bytesOf {p : Option Addr} {l : List UInt8} {c : Nat} (h : SlAt W p (l.flatMap u8L)) : (Extern.Bytes.bytesOf (.slice p l.length c)).run P W = .ok ⟨l.toArray⟩ W := by
  cases p with
  | none =>
    have : l = [] := by
      cases l with
      | nil => rfl
      | cons a t => exact absurd (h.ne (k := 1) (i := 0) (fun _ => rfl) (by decide) (by simp)) (by simp)
    subst this
    simp [Extern.Bytes.bytesOf]
    rfl
  | some a =>
    cases l with
    | nil => simp [Extern.Bytes.bytesOf, Extern.Bytes.loadBytes]; rfl
    | cons x t =>
      have hp := h.ne (k := 1) (i := 0) (fun _ => rfl) (by decide) (by simp)
      have ha : a = ⟨ab (some a), ao (some a), none⟩ := Option.some.inj hp
      have := run_loadBytes' (P := P) (W := W) (x :: t) (ab (some a)) (ao (some a)) .empty h.cell
      simp only [Extern.Bytes.bytesOf]
      rw [ha]
      simp only [ab, ao] at this ⊢
      rw [this]
      congr 1
      simp [ByteArray.empty, ByteArray.emptyWithCapacity]
      try rfl

theorem run_bytes_string {src dst e : TypeId} {p : Option Addr} {l : List UInt8} {c : Nat} (h : SlAt W p (l.flatMap u8L)) (hs : P.underlying src = some (.slice e)) (he : P.underlying e = some (.int .u8)) (hd : P.underlying dst = some .string) :
    (convert src dst (.slice p l.length c)).run P W = .ok (.string ⟨l.toArray⟩) W := by
  cases l with
  | nil =>
    cases p with
    | none => exact run_convert_bytes_nil W src e hs he _ _ dst hd
    | some a => exact run_convert_bytes_back W src dst e a c [] hs he hd (fun j hj => absurd hj (Nat.not_lt_zero _))
  | cons x t =>
    have hp := h.ne (k := 1) (i := 0) (fun _ => rfl) (by decide) (by simp)
    rw [hp]
    refine run_convert_bytes_back W src dst e _ c (x :: t) hs he hd fun j hj => ?_
    rw [addr_add]
    have := h.el (k := 1) (fun _ => rfl) hj 0 (.int .u8 (((x :: t)[j]).toNat : Int)) (by rw [nth_eq hj]; rfl)
    simpa using this

def cmpBy (l m : List UInt8) : Int := Extern.BytealgCompare.cmp ⟨l.toArray⟩ ⟨m.toArray⟩
theorem run_compare {p q : Option Addr} {l m : List UInt8} {c d : Nat} (h : SlAt W p (l.flatMap u8L)) (h' : SlAt W q (m.flatMap u8L)) : (Extern.BytealgCompare.compare #[.slice p l.length c, .slice q m.length d]).run P W = .ok (.int .i64 (cmpBy l m)) W := by
  change Sem.run P (do pure (goInt (Extern.BytealgCompare.cmp (← Extern.Bytes.bytesOf (.slice p l.length c)) (← Extern.Bytes.bytesOf (.slice q m.length d))))) W = _
  simp only [Sem.run_bind, run_bytesOf h, run_bytesOf h', Result.andThen_ok, Sem.run_pure]
  rfl
end

section
variable {P : Program} {w0 W : World} {X : Ext} {L : List Chunk}
theorem ipL_at (x : Ip) (i : Nat) (hi : i < 16) : (ipL x).toArray[1 + i * 1]? = some (.int .u8 ((x.at i).toNat : Int)) := by
  match i, hi with
  | 0, _ | 1, _ | 2, _ | 3, _ | 4, _ | 5, _ | 6, _ | 7, _ | 8, _ | 9, _ | 10, _ | 11, _ | 12, _ | 13, _ | 14, _ | 15, _ => rfl
  | n + 16, h => omega

theorem run_load_ip {b i : Nat} {x : Ip} {E T : TypeId} {fr : Nat × Nat} (hO : Own w0 X L W) (hm : Chunk.blk b (.cells (ipL x).toArray E fr) ∈ L) (hA : aggT P T = some false) (hi : i < 16) :
    (Instr.loadAt T (.pointer (some ⟨b, 1 + i * 1, none⟩))).run P W = .ok (.int .u8 ((x.at i).toNat : Int)) W :=
  run_load1 hA ((hO.cell hm).trans (ipL_at x i hi))

theorem SlAt.arr {b : Nat} {x : Ip} {E : TypeId} {fr : Nat × Nat} (hO : Own w0 X L W) (hm : Chunk.blk b (.cells (ipL x).toArray E fr) ∈ L) (lo n : Nat) (h : lo + n ≤ 16) : SlAt W (some ⟨b, 1 + lo, none⟩) (((x.bytes.drop lo).take n).flatMap u8L) := by
  refine SlAt.blkAt hO hm ?_
  rw [flat_len (k := 1) (fun _ => rfl), List.length_take, List.length_drop, Ip.bytes_len, Nat.min_eq_left (by omega), Nat.mul_one]
  show ((ipL x).drop (1 + lo)).take n = _
  rw [ipL_bytes, show 1 + lo = lo + 1 by omega, List.drop_succ_cons, flat_take (k := 1) (fun _ => rfl), flat_drop (k := 1) (fun _ => rfl), Nat.mul_one, Nat.mul_one]
end

section
variable {P : Program} {o : Oper} {W : World} {E : Env} {v v1 v2 : Value}
/-- A call of a function that the model carries out itself. -/
theorem x_ext2 {f : FuncId} {fn : Func} {e : Array Value → Sem Value} {c1 c2 : Operand} {ts : Array TypeId} (hr : (e #[v1, v2]).run P W = .ok v W) (hop : o.op = .call { callee := .value (.func f), args := #[c1, c2], argTypes := ts }) (h1 : rho E c1 = v1) (h2 : rho E c2 = v2)
    (hf : P.funcs[f]? = some fn) (hname : (fn.name == "runtime.NumGoroutine") = false) (hb : fn.body.isNone = true) (hn : Extern.findNext fn = none) (he : Extern.find fn = some e) : (execOp (rho E) o).run P W = .ok (.value v) W := by
  unfold execOp
  have := run_callFunc_extern (P := P) hf hname hb hn he #[v1, v2] W
  rw [hr] at this
  have hf0 : rho E (.func f) = .func (.func f) #[] #[] := rfl
  simp [hop, resolve, invoke, h1, h2, hf0, Deferred.ofValue, Sem.run_bind, this, Result.andThen]
end
end Go.Proofs.YthellfigmpjhlaaGreatDoor
