/- What every chapter uses: texts, the library's contracts in the engine's words, '==', errors. -/
import Derived.Test.YthellfigmpjhlaaGreatDoorProg
import Derived.Test.YthellfigmpjhlaaGreatDoorEq
import Derived.Deep.Quiet
namespace Go.Proofs.YthellfigmpjhlaaGreatDoor
open Go Go.RowKit

/-! ### Texts -/

theorem size_data (s : ByteArray) : s.data.toList.length = s.size := rfl

theorem bt_get (s : ByteArray) (i : Nat) (h : i < s.data.toList.length) : bt s (i : Int) = ((s.data.toList[i]).toNat : Int) := by
  unfold bt
  have h' : i < s.data.size := h
  rw [Int.toNat_natCast, Array.getElem?_eq_getElem h']
  rfl

theorem empty_iff (s : ByteArray) : s = ⟨#[]⟩ ↔ s.size = 0 := by
  constructor
  · intro h; rw [h]; rfl
  · intro h
    cases s with
    | mk d =>
      have : d.size = 0 := h
      rw [Array.size_eq_zero_iff] at this
      rw [this]

/-! ### From the library's contracts to the engine's words -/
theorem own_below {w w' : World} (h : Below w.heap.size w w') : Own w noX [] w' :=
  ⟨h.os, h.tape, h.output, h.size, fun b hb _ => h.block b hb, fun e => Bool.noConfusion e, by simp, by simp, by simp, List.Pairwise.nil⟩
theorem own_drewN (w : World) (X : Ext) (k : Nat) : Own w X [] (w.drewN k) := (Own.start w X).drewN _
theorem own_drew (w : World) (X : Ext) : Own w X [] w.drew := (Own.start w X).drew
theorem below_own {w w' : World} {L : List Chunk} (h : Own w noX L w') : Below w.heap.size w w' := ⟨h.os, h.tape, h.output, h.size, fun b hb => h.old b hb (fun x => x)⟩

/-! ### '==' -/
section
variable {o : Oper} {E : Env} {W : World} {ax bx : Operand} {T T' : TypeId}
theorem x_eq {P : Program} {x y : Value} {r : Bool} (hop : o.op = .binOp .eql T ax bx T') (h1 : rho E ax = x) (h2 : rho E bx = y) (hg : (eqGuard .eql T ax bx x y).run P W = .ok () W) (hb : binOp .eql T x y = (do pure (.bool (← Op.equal T x y)))) (hr : (Op.equalIn Op.maxDepth T x y).run P W = .ok r W) :
    (execOp (rho E) o).run P W = .ok (.value (.bool r)) W := by
  unfold execOp
  simp only [hop, h1, h2, Sem.run_bind, hg, Result.andThen_ok, hb, Op.equal, hr, Sem.run_pure]
theorem x_ne {P : Program} {x y : Value} {r : Bool} (hop : o.op = .binOp .neq T ax bx T') (h1 : rho E ax = x) (h2 : rho E bx = y) (hg : (eqGuard .neq T ax bx x y).run P W = .ok () W) (hb : binOp .neq T x y = (do pure (.bool (!(← Op.equal T x y))))) (hr : (Op.equalIn Op.maxDepth T x y).run P W = .ok r W) :
    (execOp (rho E) o).run P W = .ok (.value (.bool (!r))) W := by
  unfold execOp
  simp only [hop, h1, h2, Sem.run_bind, hg, Result.andThen_ok, hb, Op.equal, hr, Sem.run_pure]
end

/-! ### Errors: number i of package api's lies at 'ea i' -/
def errV (ea : Nat → Addr) (i : Nat) : Value := .iface 226 (.pointer (some (ea i)))
end Go.Proofs.YthellfigmpjhlaaGreatDoor
