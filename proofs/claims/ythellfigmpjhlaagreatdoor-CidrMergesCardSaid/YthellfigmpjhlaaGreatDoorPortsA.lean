/- Package ports, walked. -/
import Derived.Test.YthellfigmpjhlaaGreatDoorAddrW
import Derived.Test.YthellfigmpjhlaaGreatDoorPortsP
namespace Go.Proofs.YthellfigmpjhlaaGreatDoor
open Go Go.RowKit
set_option linter.unusedVariables false
set_option linter.unusedSimpArgs false

theorem lastIndex_ret (s : ByteArray) (W : World) (hs : s.size ≤ 1000000) : Ret Tryz.prog 111 #[.string s, .string ⟨#[58]⟩] W fun v W' => v = .int .i64 (lastC s) ∧ Own W noX [] W' :=
  Ret.of (Any.strings_LastIndex_one Tryz.lays148 s ⟨#[58]⟩ rfl (by omega) W) fun _ _ ⟨he, hw⟩ => ⟨_, he, rfl, by rw [hw]; exact Own.start W _⟩
theorem cutPrefix_ret (s : ByteArray) (W : World) : Ret Tryz.prog 151 #[.string s, .string ⟨#[91]⟩] W fun v W' => v = .tuple #[.string (bareA s), .bool (Lib.hasPrefix s.data.toList [91])] ∧ Own W noX [] W' :=
  Ret.of (Any.strings_CutPrefix Tryz.lays103 s ⟨#[91]⟩ W) fun _ _ ⟨he, hw⟩ => ⟨_, he, rfl, by rw [hw]; exact Own.start W _⟩
theorem cutSuffix_ret (s : ByteArray) (W : World) (hs : s.size ≤ 1000000) : Ret Tryz.prog 152 #[.string s, .string ⟨#[93]⟩] W fun v W' => v = .tuple #[.string ⟨(Lib.trimSuffix s.data.toList [93]).toArray⟩, .bool (Lib.hasSuffix s.data.toList [93])] ∧ Own W noX [] W' :=
  Ret.of (Any.strings_CutSuffix Tryz.lays104 s ⟨#[93]⟩ W (by omega)) fun _ _ ⟨he, hw⟩ => ⟨_, he, rfl, by rw [hw]; exact Own.start W _⟩
theorem atoi_ret (s : ByteArray) (W : World) (hG : LibW W) (hs : s.size ≤ 1000000) : Ret Tryz.prog 103 #[.string s] W fun v W' => ∃ te pe, v = .tuple #[.int .i64 (atoiN s), if atoiOk s then .nilIface else .iface te pe] ∧ Own W noX [] W' := by
  unfold atoiN atoiOk
  cases h : Lib.atoiAll s.data.toList with
  | ok u => exact Ret.of (Any.strconv_Atoi_ok Tryz.lays172 s (by omega) u h W) fun _ _ ⟨he, hw⟩ => ⟨_, he, 0, .nilIface, rfl, by rcases hw with rfl | ⟨t, rfl⟩; exact Own.start _ _; exact own_bytesWorld _ _ _⟩
  | «syntax» =>
    obtain ⟨te, pe, hm⟩ := hG.syn
    exact Ret.of (Any.strconv_Atoi_syntax Tryz.lays172 s (by omega) h _ W hm (.inr ⟨_, _, rfl⟩)) fun _ _ ⟨N, he, _, _, hb⟩ => ⟨_, he, _, _, rfl, own_below hb⟩
  | range =>
    obtain ⟨te, pe, hm⟩ := hG.rng
    exact Ret.of (Any.strconv_Atoi_range Tryz.lays172 s (by omega) h _ W hm (.inr ⟨_, _, rfl⟩)) fun _ _ ⟨N, he, _, _, hb⟩ => ⟨_, he, _, _, rfl, own_below hb⟩

end Go.Proofs.YthellfigmpjhlaaGreatDoor
