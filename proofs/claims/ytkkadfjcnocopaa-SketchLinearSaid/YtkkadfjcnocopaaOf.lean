/- The number of a text: what package hash's Of computes. Conditions: the text's bytes are bytes. -/
import Derived.Test.YtkkadfjcnocopaaMix
namespace Go.Proofs.Ytkkadfjcnocopaa
open Go.RowKit

theorem ofStep_eq (u b i : Nat) :
    IntKind.u64.wrap (IntKind.u64.wrap ((u : Int) + (b : Int)) + IntKind.u64.wrap (256 * (i : Int))) = (((u + b + 256 * i) % 18446744073709551616 : Nat) : Int) := by
  simp only [IntKind.wrap_u64]
  omega

set_option maxRecDepth 1000000 in
set_option maxHeartbeats 400000 in
theorem of_any (s : Nat) (hs : s < 18446744073709551616) (A : Option Addr) (c : Nat) (l : List Nat) (hl : l.length ≤ maxLen) (hb : Bytes l) (w : World) (h : Has w w.heap.size A (u8s l)) :
    Calls Try.prog 109 #[.int .u64 s, .slice A l.length c] w (R1 (.int .u64 (ofN s l : Nat)) (Drawn w)) := by
  unfold maxLen at hl
  go_enter Try.func109, Try.ntmps109
  go_wp2_with fail
  refine (mix_any s hs _).mono ?_
  rintro e w1 ⟨rfl, n1, rfl⟩
  go_wp2_with fail
  go_loopw [5, 12] (fun u i wr => ∃ k : Nat, k ≤ l.length ∧ i = .int .i64 (k : Nat) ∧ u = .int .u64 (ofUp s l k : Nat) ∧ Drawn w wr) (fun _ i _ => l.length - (intOf i).toNat)
  case atStart => exact ⟨0, by omega, rfl, rfl, _, rfl⟩
  case round =>
    obtain ⟨k, hk, rfl, rfl, n2, rfl⟩ := hrel
    by_cases hlt : (k : Int) < (l.length : Int)
    · obtain ⟨ad, rfl, _, hc⟩ := h.at (u8s_at (show k < l.length by omega))
      have hu := ofUp_lt s l k
      have hbk := hb.at k
      go_wp2_with fail
      rw [ofStep_eq]
      refine (mix_any _ (Nat.mod_lt _ (by decide)) _).mono ?_
      rintro e w1 ⟨rfl, n3, rfl⟩
      go_wp2_with fail
      go_roundw
      case rel => exact ⟨k + 1, by omega, by go_num, rfl, _, rfl⟩
      case measure => simp [intOf]; omega
    · go_wp2_with fail
      go_ret
      exact R1.mk (int_eq (by rw [show k = l.length from by omega]; rfl)) ⟨_, rfl⟩

theorem of_any' (s : Nat) (hs : s < 18446744073709551616) (A : Option Addr) (n c : Nat) (l : List Nat) (hn : l.length = n) (hl : l.length ≤ maxLen) (hb : Bytes l) (w : World) (h : Has w w.heap.size A (u8s l)) :
    Calls Try.prog 109 #[.int .u64 s, .slice A n c] w (R1 (.int .u64 (ofN s l : Nat)) (Drawn w)) := by
  subst hn
  exact of_any s hs A c l hl hb w h
end Go.Proofs.Ytkkadfjcnocopaa
