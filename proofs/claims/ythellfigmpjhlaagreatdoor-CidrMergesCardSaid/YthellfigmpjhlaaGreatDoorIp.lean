/- Addresses, points and cidrs as Lean data, and how they stand in cells. -/
import Derived.Test.YthellfigmpjhlaaGreatDoorBase
import Derived.Test.YthellfigmpjhlaaGreatDoorSlice
import Derived.ChangeKeysEq
namespace Go.Proofs.YthellfigmpjhlaaGreatDoor
open Go Go.RowKit
set_option linter.unusedVariables false
set_option linter.unusedSimpArgs false
set_option linter.unusedSectionVars false

def u8v (b : UInt8) : Value := .int .u8 (b.toNat : Int)
def u8L (b : UInt8) : List Value := [.int .u8 (b.toNat : Int)]
def strL (s : ByteArray) : List Value := [.string s]
def i64L (i : Int) : List Value := [.int .i64 i]
instance : Inhabited ByteArray := ⟨ByteArray.empty⟩

structure Ip where
  six : Bool
  b0 : UInt8
  b1 : UInt8
  b2 : UInt8
  b3 : UInt8
  b4 : UInt8
  b5 : UInt8
  b6 : UInt8
  b7 : UInt8
  b8 : UInt8
  b9 : UInt8
  b10 : UInt8
  b11 : UInt8
  b12 : UInt8
  b13 : UInt8
  b14 : UInt8
  b15 : UInt8
deriving DecidableEq

instance : Inhabited Ip := ⟨⟨false, 0, 0, 0, 0, 0, 0, 0, 0, 0, 0, 0, 0, 0, 0, 0, 0⟩⟩
def noIp : Ip := ⟨false, 0, 0, 0, 0, 0, 0, 0, 0, 0, 0, 0, 0, 0, 0, 0, 0⟩
def Ip.bytes (a : Ip) : List UInt8 := [a.b0, a.b1, a.b2, a.b3, a.b4, a.b5, a.b6, a.b7, a.b8, a.b9, a.b10, a.b11, a.b12, a.b13, a.b14, a.b15]
def Ip.of (six : Bool) (l : List UInt8) : Ip := ⟨six, l.getD 0 0, l.getD 1 0, l.getD 2 0, l.getD 3 0, l.getD 4 0, l.getD 5 0, l.getD 6 0, l.getD 7 0, l.getD 8 0, l.getD 9 0, l.getD 10 0, l.getD 11 0, l.getD 12 0, l.getD 13 0, l.getD 14 0, l.getD 15 0⟩
def ipL (a : Ip) : List Value := [.bool a.six, .int .u8 (a.b0.toNat : Int), .int .u8 (a.b1.toNat : Int), .int .u8 (a.b2.toNat : Int), .int .u8 (a.b3.toNat : Int), .int .u8 (a.b4.toNat : Int), .int .u8 (a.b5.toNat : Int), .int .u8 (a.b6.toNat : Int), .int .u8 (a.b7.toNat : Int), .int .u8 (a.b8.toNat : Int), .int .u8 (a.b9.toNat : Int), .int .u8 (a.b10.toNat : Int), .int .u8 (a.b11.toNat : Int), .int .u8 (a.b12.toNat : Int), .int .u8 (a.b13.toNat : Int), .int .u8 (a.b14.toNat : Int), .int .u8 (a.b15.toNat : Int)]
def ipV (a : Ip) : Value := .agg #[.bool a.six, .int .u8 (a.b0.toNat : Int), .int .u8 (a.b1.toNat : Int), .int .u8 (a.b2.toNat : Int), .int .u8 (a.b3.toNat : Int), .int .u8 (a.b4.toNat : Int), .int .u8 (a.b5.toNat : Int), .int .u8 (a.b6.toNat : Int), .int .u8 (a.b7.toNat : Int), .int .u8 (a.b8.toNat : Int), .int .u8 (a.b9.toNat : Int), .int .u8 (a.b10.toNat : Int), .int .u8 (a.b11.toNat : Int), .int .u8 (a.b12.toNat : Int), .int .u8 (a.b13.toNat : Int), .int .u8 (a.b14.toNat : Int), .int .u8 (a.b15.toNat : Int)]
def octV (a : Ip) : Value := .agg #[.int .u8 (a.b0.toNat : Int), .int .u8 (a.b1.toNat : Int), .int .u8 (a.b2.toNat : Int), .int .u8 (a.b3.toNat : Int), .int .u8 (a.b4.toNat : Int), .int .u8 (a.b5.toNat : Int), .int .u8 (a.b6.toNat : Int), .int .u8 (a.b7.toNat : Int), .int .u8 (a.b8.toNat : Int), .int .u8 (a.b9.toNat : Int), .int .u8 (a.b10.toNat : Int), .int .u8 (a.b11.toNat : Int), .int .u8 (a.b12.toNat : Int), .int .u8 (a.b13.toNat : Int), .int .u8 (a.b14.toNat : Int), .int .u8 (a.b15.toNat : Int)]
theorem Ip.of_bytes (a : Ip) : Ip.of a.six a.bytes = a := rfl
theorem Ip.bytes_len (a : Ip) : a.bytes.length = 16 := rfl
theorem Ip.bytes_of (s : Bool) (l : List UInt8) (h : l.length = 16) : (Ip.of s l).bytes = l := by
  match l, h with
  | [b0, b1, b2, b3, b4, b5, b6, b7, b8, b9, b10, b11, b12, b13, b14, b15], _ => rfl
theorem Ip.ext_bytes {a b : Ip} (h1 : a.six = b.six) (h2 : a.bytes = b.bytes) : a = b := by rw [← a.of_bytes, ← b.of_bytes, h1, h2]
theorem ipL_bytes (a : Ip) : ipL a = .bool a.six :: a.bytes.flatMap u8L := rfl
def Ip.at (a : Ip) (i : Nat) : UInt8 := a.bytes.getD i 0
def Ip.set (a : Ip) (i : Nat) (v : UInt8) : Ip := Ip.of a.six (a.bytes.set i v)

structure Pt where
  ip : Ip
  port : Int
deriving DecidableEq
instance : Inhabited Pt := ⟨⟨default, 0⟩⟩
def noPt : Pt := ⟨noIp, 0⟩
def ptL (p : Pt) : List Value := [.bool p.ip.six, .int .u8 (p.ip.b0.toNat : Int), .int .u8 (p.ip.b1.toNat : Int), .int .u8 (p.ip.b2.toNat : Int), .int .u8 (p.ip.b3.toNat : Int), .int .u8 (p.ip.b4.toNat : Int), .int .u8 (p.ip.b5.toNat : Int), .int .u8 (p.ip.b6.toNat : Int), .int .u8 (p.ip.b7.toNat : Int), .int .u8 (p.ip.b8.toNat : Int), .int .u8 (p.ip.b9.toNat : Int), .int .u8 (p.ip.b10.toNat : Int), .int .u8 (p.ip.b11.toNat : Int), .int .u8 (p.ip.b12.toNat : Int), .int .u8 (p.ip.b13.toNat : Int), .int .u8 (p.ip.b14.toNat : Int), .int .u8 (p.ip.b15.toNat : Int), .int .i64 p.port]
def ptV (p : Pt) : Value := .agg #[.bool p.ip.six, .int .u8 (p.ip.b0.toNat : Int), .int .u8 (p.ip.b1.toNat : Int), .int .u8 (p.ip.b2.toNat : Int), .int .u8 (p.ip.b3.toNat : Int), .int .u8 (p.ip.b4.toNat : Int), .int .u8 (p.ip.b5.toNat : Int), .int .u8 (p.ip.b6.toNat : Int), .int .u8 (p.ip.b7.toNat : Int), .int .u8 (p.ip.b8.toNat : Int), .int .u8 (p.ip.b9.toNat : Int), .int .u8 (p.ip.b10.toNat : Int), .int .u8 (p.ip.b11.toNat : Int), .int .u8 (p.ip.b12.toNat : Int), .int .u8 (p.ip.b13.toNat : Int), .int .u8 (p.ip.b14.toNat : Int), .int .u8 (p.ip.b15.toNat : Int), .int .i64 p.port]
theorem ptL_ip (p : Pt) : ptL p = ipL p.ip ++ [.int .i64 p.port] := rfl

/-! ### '==' of arrays of bytes -/
theorem run_eqItems {P : Program} {W : World} {d k : Nat} {e : TypeId} {xs ys : Array Value} {f : Nat → Bool} : ∀ (is : List Nat), (∀ i ∈ is, ∃ a b, (part e xs (i * k)).run P W = .ok a W ∧ (part e ys (i * k)).run P W = .ok b W ∧ (Op.equalIn d e a b).run P W = .ok (f i) W) →
    (Op.eqItems d e k xs ys is).run P W = .ok (is.all f) W
  | [], _ => by simp [Op.eqItems]
  | i :: t, h => by
    obtain ⟨a, b, h1, h2, h3⟩ := h i List.mem_cons_self
    have ih := run_eqItems t (fun j hj => h j (List.mem_cons_of_mem _ hj))
    simp only [Op.eqItems, Sem.run_bind, h1, h2, h3, Result.andThen_ok, List.all_cons]
    cases hf : f i
    · simp
    · simpa using ih

theorem all_oct (x y : List UInt8) (h : x.length = y.length) : (List.range x.length).all (fun i => ((x.getD i 0).toNat : Int) == ((y.getD i 0).toNat : Int)) = decide (x = y) := by
  rw [Bool.eq_iff_iff, List.all_eq_true, decide_eq_true_iff]
  constructor
  · intro hh
    refine List.ext_getElem h fun i h1 h2 => ?_
    have := hh i (List.mem_range.2 h1)
    simp only [beq_iff_eq, List.getD_eq_getElem?_getD, List.getElem?_eq_getElem h1, List.getElem?_eq_getElem h2, Option.getD_some] at this
    exact UInt8.toNat_inj.1 (by omega)
  · intro e i _
    subst e
    exact beq_self_eq_true _

def octEq (a b : Ip) : Bool := decide (a.bytes = b.bytes)
theorem run_eqOct (d : Nat) (a b : Ip) (W : World) : (Op.equalIn (d + 1 + 1) 31 (octV a) (octV b)).run Tryz.prog W = .ok (octEq a b) W := by
  unfold octEq
  rw [← all_oct a.bytes b.bytes rfl]
  obtain ⟨i, hi⟩ : ∃ i, Tryz.prog.info? 5 = some i := by
    have h : (Tryz.prog.info? 5).isSome = true := by kernel_rfl
    exact Option.isSome_iff_exists.1 h
  unfold octV
  rw [Go.run_equalIn_array (w := W) (d := d + 1) (hu := Tryz.underlying31) (hi := hi), show Tryz.prog.cellsOf 5 = 1 by kernel_rfl]
  refine run_eqItems _ fun i hi => ?_
  have hi' : i < 16 := List.mem_range.1 hi
  match i, hi' with
  | 0, _ | 1, _ | 2, _ | 3, _ | 4, _ | 5, _ | 6, _ | 7, _ | 8, _ | 9, _ | 10, _ | 11, _ | 12, _ | 13, _ | 14, _ | 15, _ => exact ⟨u8v (a.bytes.getD _ 0), u8v (b.bytes.getD _ 0), by kernel_rfl, by kernel_rfl, eq_int Tryz.underlying5⟩
  | n + 16, h => omega

def ipEq (a b : Ip) : Bool := (a.six == b.six) && (octEq a b && true)
theorem ipEq_dec (a b : Ip) : ipEq a b = decide (a = b) := by
  rw [Bool.eq_iff_iff, decide_eq_true_iff]
  simp only [ipEq, octEq, Bool.and_true, Bool.and_eq_true, beq_iff_eq, decide_eq_true_iff]
  exact ⟨fun h => Ip.ext_bytes h.1 h.2, fun h => by rw [h]; exact ⟨rfl, rfl⟩⟩
theorem run_eqIp (d : Nat) (a b : Ip) (W : World) : (Op.equalIn (d + 1 + 1 + 1) 33 (ipV a) (ipV b)).run Tryz.prog W = .ok (decide (a = b)) W := by
  rw [← ipEq_dec]
  exact eq_struct Tryz.underlying33 (by kernel_rfl) (eqf_cons (by kernel_rfl) (a := .bool a.six) (b := .bool b.six) (by kernel_rfl) (by kernel_rfl) (eq_bool Tryz.underlying4)
    (eqf_cons (by kernel_rfl) (a := octV a) (b := octV b) (by kernel_rfl) (by kernel_rfl) (run_eqOct d a b W) eqf_nil))

theorem Pt.ext_ip {a b : Pt} (h1 : a.ip = b.ip) (h2 : a.port = b.port) : a = b := by cases a; cases b; simp at h1 h2; subst h1; subst h2; rfl
theorem ptEq_dec (a b : Pt) : (decide (a.ip = b.ip) && ((a.port == b.port) && true)) = decide (a = b) := by
  rw [Bool.eq_iff_iff, decide_eq_true_iff]
  simp only [Bool.and_true, Bool.and_eq_true, beq_iff_eq, decide_eq_true_iff]
  exact ⟨fun h => Pt.ext_ip h.1 h.2, fun h => by rw [h]; exact ⟨rfl, rfl⟩⟩
theorem run_eqPt (d : Nat) (a b : Pt) (W : World) : (Op.equalIn (d + 1 + 1 + 1 + 1) 45 (ptV a) (ptV b)).run Tryz.prog W = .ok (decide (a = b)) W := by
  rw [← ptEq_dec]
  exact eq_struct Tryz.underlying45 (by kernel_rfl) (eqf_cons (by kernel_rfl) (a := ipV a.ip) (b := ipV b.ip) (by kernel_rfl) (by kernel_rfl) (run_eqIp d a.ip b.ip W)
    (eqf_cons (by kernel_rfl) (a := .int .i64 a.port) (b := .int .i64 b.port) (by kernel_rfl) (by kernel_rfl) (eq_int Tryz.underlying3) eqf_nil))

section
variable {o : Oper} {E : Env} {W : World} {ax bx : Operand} {T' : TypeId}
theorem x_eqIp {a b : Ip} (hop : o.op = .binOp .eql 33 ax bx T') (h1 : rho E ax = ipV a) (h2 : rho E bx = ipV b) : (execOp (rho E) o).run Tryz.prog W = .ok (.value (.bool (decide (a = b)))) W :=
  x_eq hop h1 h2 (by kernel_rfl) rfl (run_eqIp 9997 a b W)
theorem x_neIp {a b : Ip} (hop : o.op = .binOp .neq 33 ax bx T') (h1 : rho E ax = ipV a) (h2 : rho E bx = ipV b) : (execOp (rho E) o).run Tryz.prog W = .ok (.value (.bool (!decide (a = b)))) W :=
  x_ne hop h1 h2 (by kernel_rfl) rfl (run_eqIp 9997 a b W)
theorem x_eqOct {a b : Ip} (hop : o.op = .binOp .eql 31 ax bx T') (h1 : rho E ax = octV a) (h2 : rho E bx = octV b) : (execOp (rho E) o).run Tryz.prog W = .ok (.value (.bool (octEq a b))) W :=
  x_eq hop h1 h2 (by kernel_rfl) rfl (run_eqOct 9998 a b W)
theorem x_eqPt {a b : Pt} (hop : o.op = .binOp .eql 45 ax bx T') (h1 : rho E ax = ptV a) (h2 : rho E bx = ptV b) : (execOp (rho E) o).run Tryz.prog W = .ok (.value (.bool (decide (a = b)))) W :=
  x_eq hop h1 h2 (by kernel_rfl) rfl (run_eqPt 9996 a b W)
theorem x_nePt {a b : Pt} (hop : o.op = .binOp .neq 45 ax bx T') (h1 : rho E ax = ptV a) (h2 : rho E bx = ptV b) : (execOp (rho E) o).run Tryz.prog W = .ok (.value (.bool (!decide (a = b)))) W :=
  x_ne hop h1 h2 (by kernel_rfl) rfl (run_eqPt 9996 a b W)
end
end Go.Proofs.YthellfigmpjhlaaGreatDoor
