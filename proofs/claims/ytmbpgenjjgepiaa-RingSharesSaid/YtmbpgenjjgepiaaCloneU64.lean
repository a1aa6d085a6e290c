/- What slices.Clone makes of a []uint64. Conditions: none beyond the theorem's own hypotheses. -/
import Derived.Test.YtmbpgenjjgepiaaU64s
namespace Go.Proofs.Ytmbpgenjjgepiaa
open Go.RowKit

theorem elU64 : Elem Try.prog 32 23 1 8 := Elem.mk' (z := .int .u64 0) Try.underlying32 (by kernel_rfl) rfl (by decide)

set_option maxRecDepth 1000000 in
set_option maxHeartbeats 400000 in
theorem cloneU64_any (A : Option Addr) (n c : Nat) (xs : List Value) (hl : xs.length = n * 1) (h1 : ∀ u ∈ xs, u.oneCell' = true) (hA : A = none → n = 0 ∧ c = 0) (hmax : n * 8 ≤ 140737488355328) (w : World) (h : Has w w.heap.size A xs) :
    Calls Try.prog 45 #[.slice A n c] w (RV fun v w' => ∃ A' c', v = .slice A' n c' ∧ w'.ownsRow w.heap.size 23 1 (.slice A' n c') n xs ∧ Below w.heap.size w w') := by
  have hq := fun (w : World) (a : Option Addr) (n c n' c' : Nat) => Lib.run_eql_slice_nil (P := Try.prog) w 32 23 a n c n' c' Try.underlying32
  cases A with
  | none =>
    obtain ⟨rfl, rfl⟩ := hA rfl
    go_enter Try.func45, Try.ntmps45
    go_wp2
    go_ret
    exact RV.mk ⟨none, 0, rfl, ⟨hl, .inl ⟨rfl, rfl⟩⟩, Below.refl _ _⟩
  | some ad =>
    go_enter Try.func45, Try.ntmps45
    go_wp2_with (at_builtin; refine wpList_spread rfl _ _ _ rfl elU64 rfl (World.ownsRow_made (base := w.heap.size) w #[] 0 (Nat.le_refl _) (Nat.zero_le _) rfl) rfl ((h.keep fun p hp => World.cell?_alloc_lt w _ p hp)) ?_ ?c1 ?c2 ?c3 ?c4 ?c5; intro A' c' w1 hown hgrow hbel)
    case c1 => exact hl
    case c2 => exact h1
    case c3 => omega
    case c4 => unfold maxLen; omega
    case c5 => simp
    go_ret
    rw [Nat.zero_add, List.nil_append] at hown
    exact RV.mk ⟨A', c', rfl, hown, ((Below.refl _ _).alloc (Nat.le_refl _) _).trans hbel⟩
end Go.Proofs.Ytmbpgenjjgepiaa
