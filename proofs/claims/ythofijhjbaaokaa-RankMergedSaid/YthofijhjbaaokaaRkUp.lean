/- What upTo of package gaugehousekeep and slices.Contains tell of a row of int64. Conditions: the row lies in its cells. -/
import Derived.Test.YthofijhjbaaokaaRanked
namespace Go.Proofs.Ythofijhjbaaokaa
open Go.RowKit

theorem cnt_take {l : List Int} {k : Nat} (h : k < l.length) (x : Int) : cnt (l.take (k + 1)) x = cnt (l.take k) x + if at_ l k ≤ x then 1 else 0 := by
  rw [take_at h, cnt_app, cnt_cons]; simp [cnt]

set_option maxRecDepth 1000000 in
set_option maxHeartbeats 4000000 in
theorem upToK_any (A : Option Addr) (n c : Nat) (l : List Int) (hn : l.length = n) (hl : n ≤ 4000000000000000000) (x : Int) (w : World) (h : Has w w.heap.size A (i64s l)) :
    Calls Try.prog 12 #[.slice A n c, .int .i64 x] w (R1 (.tuple #[.int .i64 (cnt l x : Nat), .int .i64 (cnt l (x - 1) : Nat)]) (fun w' => w' = w)) := by
  have Hn := Lib.hid hn; clear hn
  go_enter Try.func12, Try.ntmps12
  go_wp2_with fail
  go_loopw [6, 7, 12] (fun a b i wr => ∃ k p q : Nat, k ≤ n ∧ p ≤ k ∧ q ≤ k ∧ i = .int .i64 (k : Nat) ∧ a = .int .i64 (p : Nat) ∧ b = .int .i64 (q : Nat) ∧ Hid (p = cnt (l.take k) x ∧ q = cnt (l.take k) (x - 1)) ∧ wr = w) (fun _ _ i _ => n - (intOf i).toNat)
  case atStart => exact ⟨0, 0, 0, by omega, by omega, by omega, rfl, rfl, rfl, Lib.hid ⟨rfl, rfl⟩, rfl⟩
  case round =>
    obtain ⟨k, p, q, hk, hp, hq, rfl, rfl, rfl, hc, rfl⟩ := hrel
    by_cases hlt : (k : Int) < (n : Int)
    · obtain ⟨ad, rfl, _, c1⟩ := h.at (i64s_at (show k < l.length by rw [Hn.out]; omega))
      have s1 := cnt_take (show k < l.length by rw [Hn.out]; omega) x
      have s2 := cnt_take (show k < l.length by rw [Hn.out]; omega) (x - 1)
      obtain ⟨v, hv⟩ : ∃ v, at_ l k = v := ⟨_, rfl⟩
      rw [hv] at s1 s2 c1
      have H1 := Lib.hid s1
      have H2 := Lib.hid s2
      clear hv s1 s2
      by_cases hx : v ≤ x
      · by_cases hy : v < x
        · have H3 := Lib.hid (show cnt (l.take (k + 1)) x = p + 1 ∧ cnt (l.take (k + 1)) (x - 1) = q + 1 from by rw [H1.out, H2.out, if_pos hx, if_pos (by omega), hc.out.1, hc.out.2]; exact ⟨rfl, rfl⟩)
          go_wp2_with fail
          go_roundw
          case rel => exact ⟨k + 1, p + 1, q + 1, by omega, by omega, by omega, by go_num, by go_num, by go_num, Lib.hid ⟨H3.out.1.symm, H3.out.2.symm⟩, by trivial⟩
          case measure => simp [intOf]; omega
        · have H3 := Lib.hid (show cnt (l.take (k + 1)) x = p + 1 ∧ cnt (l.take (k + 1)) (x - 1) = q from by rw [H1.out, H2.out, if_pos hx, if_neg (by omega), hc.out.1, hc.out.2]; exact ⟨rfl, rfl⟩)
          go_wp2_with fail
          go_roundw
          case rel => exact ⟨k + 1, p + 1, q, by omega, by omega, by omega, by go_num, by go_num, rfl, Lib.hid ⟨H3.out.1.symm, H3.out.2.symm⟩, by trivial⟩
          case measure => simp [intOf]; omega
      · have hy : ¬ v < x := by omega
        have H3 := Lib.hid (show cnt (l.take (k + 1)) x = p ∧ cnt (l.take (k + 1)) (x - 1) = q from by rw [H1.out, H2.out, if_neg hx, if_neg (by omega), hc.out.1, hc.out.2]; exact ⟨rfl, rfl⟩)
        go_wp2_with fail
        go_roundw
        case rel => exact ⟨k + 1, p, q, by omega, by omega, by omega, by go_num, rfl, rfl, Lib.hid ⟨H3.out.1.symm, H3.out.2.symm⟩, by trivial⟩
        case measure => simp [intOf]; omega
    · have hkn : k = n := by omega
      subst hkn
      have H3 := Lib.hid (show p = cnt l x ∧ q = cnt l (x - 1) from by have := hc.out; rw [← Hn.out, List.take_length] at this; exact this)
      go_wp2_with fail
      go_ret2
      exact R1.mk (by rw [← H3.out.1, ← H3.out.2]; rfl) rfl
end Go.Proofs.Ythofijhjbaaokaa
