/- What Put of package bits computes. Conditions: numbers fit their kinds. -/
import Derived.Test.YtmbpgenjjgepiaaDoorNum
namespace Go.Proofs.YtmbpgenjjgepiaaDoor
open Go.RowKit

theorem elU8 : Elem Tryd.prog 24 5 1 1 := Elem.mk' (z := .int .u8 0) Tryd.underlying24 (by kernel_rfl) rfl (by decide)

set_option maxRecDepth 1000000 in
set_option maxHeartbeats 400000 in
theorem put_any (u : Nat) (hu : u < 18446744073709551616) (w : World) :
    Calls Tryd.prog 15 #[.int .u64 u] w (RV fun v w' => ∃ A c, v = .slice A (putL u).length c ∧ w'.ownsRow w.heap.size 5 1 (.slice A (putL u).length c) (putL u).length (u8s (putL u)) ∧ Below w.heap.size w w') := by
  go_enter Tryd.func15, Tryd.ntmps15
  go_wp2
  go_loopw [0, 3] (fun x v wr => ∃ (y : Nat) (pre : List Nat) (A : Option Addr) (c : Nat), x = .int .u64 y ∧ v = .slice A pre.length c ∧ y ≤ u ∧ pre.length ≤ 9 ∧ pre.length + (putL y).length ≤ 10 ∧ putL u = pre ++ putL y ∧ wr.ownsRow w.heap.size 5 1 (.slice A pre.length c) pre.length (u8s pre) ∧ Below w.heap.size w wr) (fun x _ _ => (intOf x).toNat)
  case atStart => exact ⟨u, [], none, 0, rfl, rfl, Nat.le_refl _, by simp, by have := putL_len10 hu; simpa using this, rfl, World.ownsRow_nil _ _ _ _, Below.refl _ _⟩
  case round =>
    obtain ⟨y, pre, A, c, rfl, rfl, hy, hp, hlen, hput, hown, hbel⟩ := hrel
    have Hput := Lib.hid hput; clear hput
    have hbs := hbel.size
    by_cases hlt : (128 : Int) ≤ (y : Int)
    · have hp2 := putL_len10 (u := y) (by omega)
      have hq := putL_pos (y / 128)
      have e0 := Lib.hid (putL_big (u := y) (by omega))
      go_wp2_with (at_builtin; refine wpList_append1 rfl _ _ _ rfl elU8 rfl hown rfl rfl rfl ?_ ?c1 ?c2 ?c3 ?c4; intro A' c' w1 hown' hgrow hbel')
      case c1 => rfl
      case c2 => omega
      case c3 => unfold maxLen; omega
      case c4 => exact hbs
      have e1 := e0.out
      have hl1 : pre.length + ((putL (y / 128)).length + 1) ≤ 10 := by rw [e1, List.length_cons] at hlen; exact hlen
      refine ⟨⟨y / 128, pre ++ [y % 128 + 128], A', c', by go_num, by simp, by omega, by simp; omega, by simp; omega, ?_, ?_, hbel.trans hbel'⟩, by simp [intOf]; omega⟩
      · rw [Hput.out, e1]; simp
      · rw [or128] at hown'
        rw [List.length_append, u8s_app]
        exact hown'
    · go_wp2_with (at_builtin; refine wpList_append1 rfl _ _ _ rfl elU8 rfl hown rfl rfl rfl ?_ ?c1 ?c2 ?c3 ?c4; intro A' c' w1 hown' hgrow hbel')
      case c1 => rfl
      case c2 => omega
      case c3 => unfold maxLen; omega
      try case c4 => exact hbs
      go_ret
      have e1 : putL u = pre ++ [y] := by rw [Hput.out, putL_small (by omega)]
      refine RV.mk ⟨A', c', by rw [e1]; simp, ?_, hbel.trans hbel'⟩
      rw [e1, List.length_append, u8s_app]
      exact hown'

end Go.Proofs.YtmbpgenjjgepiaaDoor
