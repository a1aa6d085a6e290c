/- slices.Clone of labels. Conditions: the row lies in its cells. -/
import Derived.Test.YtmfndpkhcejffaaIxStep
import Derived.Lib.SliceRun
namespace Go.Proofs.Ytmfndpkhcejffaa
open Go.RowKit

theorem elLabI : Elem Try.prog 43 55 2 32 := Elem.mk' (z := .agg #[.string ⟨#[]⟩, .string ⟨#[]⟩]) Try.underlying43 (by kernel_rfl) rfl (by decide)
theorem labCs_one (l : List Lab) : ∀ u ∈ labCs l, u.oneCell' = true := by
  intro u hu
  unfold labCs at hu
  obtain ⟨x, _, h⟩ := List.mem_flatMap.1 hu
  simp [labC] at h
  rcases h with rfl | rfl <;> rfl
set_option maxRecDepth 1000000 in
set_option maxHeartbeats 1000000 in
theorem cloneLab_any (A : Option Addr) (n c : Nat) (L : List Lab) (hn : L.length = n) (hA : A = none → n = 0 ∧ c = 0) (hmax : n * 32 ≤ 140737488355328) (w : World) (h : Has w w.heap.size A (labCs L)) :
    Calls Try.prog 20 #[.slice A n c] w (RV fun v w' => ∃ A' c', v = .slice A' n c' ∧ w'.ownsRow w.heap.size 55 2 (.slice A' n c') n (labCs L) ∧ Below w.heap.size w w') := by
  have hq := fun (w : World) (a : Option Addr) (n c n' c' : Nat) => Lib.run_eql_slice_nil (P := Try.prog) w 43 55 a n c n' c' Try.underlying43
  have hl : (labCs L).length = n * 2 := by rw [labCs_len, hn]
  cases A with
  | none =>
    obtain ⟨rfl, rfl⟩ := hA rfl
    go_enter Try.func20, Try.ntmps20
    go_wp2
    go_ret
    exact RV.mk ⟨none, 0, rfl, ⟨hl, .inl ⟨rfl, rfl⟩⟩, Below.refl _ _⟩
  | some ad =>
    go_enter Try.func20, Try.ntmps20
    go_wp2_with (at_builtin; refine wpList_spread rfl _ _ _ rfl elLabI rfl (World.ownsRow_made (base := w.heap.size) w #[] 0 (Nat.le_refl _) (Nat.zero_le _) rfl) rfl ((h.keep fun p hp => World.cell?_alloc_lt w _ p hp)) ?_ ?c1 ?c2 ?c3 ?c4 ?c5; intro A' c' w1 hown hgrow hbel)
    case c1 => exact hl
    case c2 => exact labCs_one L
    case c3 => omega
    case c4 => unfold maxLen; omega
    case c5 => simp
    go_ret
    rw [Nat.zero_add, List.nil_append] at hown
    exact RV.mk ⟨A', c', rfl, hown, ((Below.refl _ _).alloc (Nat.le_refl _) _).trans hbel⟩
end Go.Proofs.Ytmfndpkhcejffaa
