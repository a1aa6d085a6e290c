/- What the laws' helper good computes: that no error is among these. Conditions: none beyond the theorem's own hypotheses. -/
import Derived.Test.YtmfndpkhcejffaaI64s
namespace Go.Proofs.Ytmfndpkhcejffaa
open Go.RowKit

set_option maxRecDepth 1000000 in
set_option maxHeartbeats 400000 in
theorem good1_any (n : Int) (w : World) : Calls Try.prog 27 #[.int .i64 n] w (R1 (.bool (n != 0)) (Drawn w)) := by
  go_enter Try.func27, Try.ntmps27
  go_wp2
  go_ret
  exact R1.mk rfl (Drawn.refl _)

def badAt (l : List Int) (v : Int) : Prop := (v = -1 ∧ l.all (· == 0) = true) ∨ (0 ≤ v ∧ l.all (· == 0) = false)

set_option maxRecDepth 1000000 in
set_option maxHeartbeats 1000000 in
theorem goodIndex_any (A : Option Addr) (c : Nat) (l : List Int) (hl : l.length ≤ 1000) (w : World) (h : Has w w.heap.size A (i64s l)) :
    Calls Try.prog 40 #[.slice A l.length c, .func (.func 27) #[] #[]] w (RV fun v w' => (∃ x : Int, v = .int .i64 x ∧ badAt l x) ∧ Drawn w w') := by
  go_enter Try.func40, Try.ntmps40
  go_wp2
  go_loopw [8] (fun i wr => ∃ k : Nat, k ≤ l.length ∧ i = .int .i64 (k : Nat) ∧ Hid (∀ j, j < k → at_ l j = 0) ∧ Drawn w wr) (fun i _ => l.length - (intOf i).toNat)
  case atStart => exact ⟨0, by omega, rfl, Lib.hid (fun j hj => by omega), Drawn.refl _⟩
  case round =>
    obtain ⟨k, hk, rfl, hz, n, rfl⟩ := hrel
    by_cases hlt : (k : Int) < (l.length : Int)
    · obtain ⟨ad, rfl, _, hc⟩ := h.at (i64s_at (show k < l.length by omega))
      by_cases e : at_ l k = 0
      · have f1 : (at_ l k != 0) = false := by rw [bne_eq_false_iff_eq]; exact e
        have E := Lib.hid e; clear e
        go_wp2_with fail
        refine (good1_any _ _).mono ?_
        rintro e w1 ⟨rfl, n1, rfl⟩
        go_wp2_with fail
        go_roundw
        case rel => exact ⟨k + 1, by omega, by go_num, Lib.hid (fun j hj => by rcases Nat.lt_or_ge j k with h1 | h1; exact hz.out j h1; rw [show j = k by omega]; exact E.out), ⟨_, rfl⟩⟩
        case measure => simp [intOf]; omega
      · have f1 : (at_ l k != 0) = true := by rw [bne_iff_ne]; exact e
        have E := Lib.hid e; clear e
        go_wp2_with fail
        refine (good1_any _ _).mono ?_
        rintro e w1 ⟨rfl, n1, rfl⟩
        go_wp2_with fail
        go_ret
        refine RV.mk ⟨⟨(k : Int), rfl, .inr ⟨by omega, ?_⟩⟩, ⟨_, rfl⟩⟩
        rw [List.all_eq_false]
        exact ⟨at_ l k, at_mem (by omega), by simpa using E.out⟩
    · go_wp2
      go_ret
      refine RV.mk ⟨⟨-1, rfl, .inl ⟨rfl, ?_⟩⟩, ⟨_, rfl⟩⟩
      rw [List.all_eq_true]
      intro x hx
      obtain ⟨j, hj, rfl⟩ := List.getElem_of_mem hx
      have := hz.out j (by omega)
      rw [at_eq hj] at this
      simp [this]

set_option maxRecDepth 1000000 in
set_option maxHeartbeats 1000000 in
theorem good_any (A : Option Addr) (n c : Nat) (l : List Int) (hn : l.length = n) (hl : l.length ≤ 1000) (w : World) (h : Has w w.heap.size A (i64s l)) :
    Calls Try.prog 10 #[.slice A n c] w (R1 (.bool (l.all (· == 0))) (Drawn w)) := by
  subst hn
  have step : ∀ w : World, Has w w.heap.size A (i64s l) → Calls Try.prog 26 #[.slice A l.length c, .func (.func 27) #[] #[]] w (R1 (.bool (!(l.all (· == 0)))) (Drawn w)) := by
    intro w h
    go_enter Try.func26, Try.ntmps26
    go_wp2_with fail
    refine (goodIndex_any A c l hl _ (by exact h)).mono ?_
    rintro e w1 ⟨v, rfl, ⟨x, rfl, hx⟩, n1, rfl⟩
    rcases hx with ⟨rfl, ha⟩ | ⟨h0, ha⟩
    · have Ha := Lib.hid ha; clear ha
      go_wp2_with fail
      go_ret
      exact R1.mk (bool_eq (by rw [Ha.out]; simp)) ⟨_, rfl⟩
    · have Ha := Lib.hid ha; clear ha
      go_wp2_with fail
      go_ret
      exact R1.mk (bool_eq (by rw [Ha.out]; simp)) ⟨_, rfl⟩
  have Step := Lib.hid step; clear step
  go_enter Try.func10, Try.ntmps10
  go_wp2_with fail
  refine (Step.out _ (by exact h)).mono ?_
  rintro e w1 ⟨rfl, n1, rfl⟩
  go_wp2_with fail
  go_ret
  exact R1.mk (bool_eq (by simp)) ⟨_, rfl⟩
end Go.Proofs.Ytmfndpkhcejffaa
