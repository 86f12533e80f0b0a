/- The program's data as Lean data, and how they stand in cells. Plain definitions. -/
import Derived.Test.YtkeialdhogfdjaaDoorProg
import Derived.Test.YtkeialdhogfdjaaDoorEq
import Derived.Deep.Quiet
namespace Go.Proofs.YtkeialdhogfdjaaDoor
open Go Go.RowKit

structure Key where
  space : ByteArray
  name : ByteArray

theorem Key.ext' {a b : Key} (h1 : a.space = b.space) (h2 : a.name = b.name) : a = b := by
  cases a; cases b; simp at h1 h2; subst h1; subst h2; rfl

instance : DecidableEq Key := fun a b =>
  if h : a.space = b.space ∧ a.name = b.name then .isTrue (Key.ext' h.1 h.2) else .isFalse fun e => h ⟨by rw [e], by rw [e]⟩

instance : Inhabited Key := ⟨⟨ByteArray.empty, ByteArray.empty⟩⟩

def keyL (k : Key) : List Value := [.string k.space, .string k.name]
def keyV (k : Key) : Value := .agg #[.string k.space, .string k.name]
def noKey : Key := ⟨⟨#[]⟩, ⟨#[]⟩⟩

/-! ### Texts -/

theorem size_data (s : ByteArray) : s.data.toList.length = s.size := rfl

theorem bt_get (s : ByteArray) (i : Nat) (h : i < s.data.toList.length) : bt s (i : Int) = ((s.data.toList[i]).toNat : Int) := by
  unfold bt
  have h' : i < s.data.size := h
  rw [Int.toNat_natCast, Array.getElem?_eq_getElem h']
  rfl

theorem empty_iff (s : ByteArray) : s = ⟨#[]⟩ ↔ s.size = 0 := by
  constructor
  · intro h; rw [h]; rfl
  · intro h
    cases s with
    | mk d =>
      have : d.size = 0 := h
      rw [Array.size_eq_zero_iff] at this
      rw [this]

/-! ### From the library's contracts to the engine's words -/
theorem own_below {w w' : World} (h : Below w.heap.size w w') : Own w noX [] w' :=
  ⟨h.os, h.tape, h.output, h.size, fun b hb _ => h.block b hb, fun e => Bool.noConfusion e, by simp, by simp, by simp, List.Pairwise.nil⟩
theorem own_drewN (w : World) (X : Ext) (k : Nat) : Own w X [] (w.drewN k) := (Own.start w X).drewN _
theorem own_drew (w : World) (X : Ext) : Own w X [] w.drew := (Own.start w X).drew
theorem below_own {w w' : World} {L : List Chunk} (h : Own w noX L w') : Below w.heap.size w w' := ⟨h.os, h.tape, h.output, h.size, fun b hb => h.old b hb (fun x => x)⟩

/-! ### '==' -/
theorem decKey (a b : Key) : (strEq a.space b.space && (strEq a.name b.name && true)) = decide (a = b) := by
  rw [Bool.eq_iff_iff]
  simp only [Bool.and_true, Bool.and_eq_true, strEq_iff, decide_eq_true_iff]
  exact ⟨fun h => Key.ext' h.1 h.2, fun h => by rw [h]; exact ⟨rfl, rfl⟩⟩

theorem run_eqKey (d : Nat) (a b : Key) (W : World) : (Op.equalIn (d + 1 + 1) 23 (keyV a) (keyV b)).run Tryd.prog W = .ok (decide (a = b)) W := by
  rw [← decKey]
  exact eq_struct Tryd.underlying23 (by kernel_rfl) (eqf_cons (by kernel_rfl) (a := .string a.space) (b := .string b.space) (by kernel_rfl) (by kernel_rfl) (eq_str Tryd.underlying9)
    (eqf_cons (by kernel_rfl) (a := .string a.name) (b := .string b.name) (by kernel_rfl) (by kernel_rfl) (eq_str Tryd.underlying9) eqf_nil))

section
variable {o : Oper} {E : Env} {W : World} {ax bx : Operand} {T T' : TypeId}
theorem x_eq {P : Program} {x y : Value} {r : Bool} (hop : o.op = .binOp .eql T ax bx T') (h1 : rho E ax = x) (h2 : rho E bx = y) (hg : (eqGuard .eql T ax bx x y).run P W = .ok () W) (hb : binOp .eql T x y = (do pure (.bool (← Op.equal T x y)))) (hr : (Op.equalIn Op.maxDepth T x y).run P W = .ok r W) :
    (execOp (rho E) o).run P W = .ok (.value (.bool r)) W := by
  unfold execOp
  simp only [hop, h1, h2, Sem.run_bind, hg, Result.andThen_ok, hb, Op.equal, hr, Sem.run_pure]
theorem x_ne {P : Program} {x y : Value} {r : Bool} (hop : o.op = .binOp .neq T ax bx T') (h1 : rho E ax = x) (h2 : rho E bx = y) (hg : (eqGuard .neq T ax bx x y).run P W = .ok () W) (hb : binOp .neq T x y = (do pure (.bool (!(← Op.equal T x y))))) (hr : (Op.equalIn Op.maxDepth T x y).run P W = .ok r W) :
    (execOp (rho E) o).run P W = .ok (.value (.bool (!r))) W := by
  unfold execOp
  simp only [hop, h1, h2, Sem.run_bind, hg, Result.andThen_ok, hb, Op.equal, hr, Sem.run_pure]
theorem x_eqKey {a b : Key} (hop : o.op = .binOp .eql 23 ax bx T') (h1 : rho E ax = keyV a) (h2 : rho E bx = keyV b) : (execOp (rho E) o).run Tryd.prog W = .ok (.value (.bool (decide (a = b)))) W :=
  x_eq hop h1 h2 (by kernel_rfl) rfl (run_eqKey 9998 a b W)
theorem x_neKey {a b : Key} (hop : o.op = .binOp .neq 23 ax bx T') (h1 : rho E ax = keyV a) (h2 : rho E bx = keyV b) : (execOp (rho E) o).run Tryd.prog W = .ok (.value (.bool (!decide (a = b)))) W :=
  x_ne hop h1 h2 (by kernel_rfl) rfl (run_eqKey 9998 a b W)
end

/-! ### Errors: number i of package api's lies at 'ea i' -/
def errV (ea : Nat → Addr) (i : Nat) : Value := .iface 109 (.pointer (some (ea i)))
end Go.Proofs.YtkeialdhogfdjaaDoor
