/- The walk of the law RankSlack: it returns true. Conditions: the arguments fit their kinds. -/
import Derived.Test.YtacmlepjhhmbmaaRanked
import Derived.Lib.MinMax
namespace Go.Proofs.Ytacmlepjhhmbmaa
open Go.RowKit

theorem RkG.prods {K : Int} {T : List Int} {L : List (List Int)} {N S : Int} {l : List Int} (h : RkG K T L N S l) {q : Nat} (hq : L.length - 1 = q) : 0 ≤ 2 * K * S ∧ 2 * K * S ≤ N * (q : Int) ∧ N * (q : Int) ≤ 25000000000000 := by
  have h1 := h.levels
  rw [hq] at h1
  have h2 : N * (q : Int) ≤ 1000000000000 * 25 := Int.mul_le_mul (by have := h.nle.2; omega) (by have := h.ln; omega) (by omega) (by omega)
  exact ⟨Int.mul_nonneg (by have := h.k2; omega) h.slack.1, h1, by omega⟩

set_option maxRecDepth 1000000 in
set_option maxHeartbeats 16000000 in
theorem rankSlack_true (w : World) (K : Int) (_ : -9223372036854775808 ≤ K ∧ K ≤ 9223372036854775807) (A : Option Addr) (c : Nat) (l : List Int) (hI : ∀ x ∈ l, in64 x) (lc : l.length ≤ c) (cm : c ≤ maxLen) (hA : A = none → c = 0) (has : Has w w.heap.size A (i64s l)) (hs : l.length ≤ 17592186043904) :
    Calls Try.prog 6 #[.int .i64 K, .slice A l.length c] w (R1 (.bool true) (Below w.heap.size w)) := by
  have HR := Lib.hid (fun (w' : World) (hb : Below w.heap.size w w') => ranked_any K A l.length c l rfl (by omega) (fun x hx => hI x hx) w' (has.next hb))
  obtain ⟨n, hn⟩ : ∃ n, l.length = n := ⟨_, rfl⟩
  have Hn := Lib.hid hn
  rw [hn] at HR hs ⊢
  clear hn hI lc cm hA has
  go_enter Try.func6, Try.ntmps6
  go_wp2_with fail
  refine (ranks_true _).mono ?_
  rintro e9 w1 ⟨rfl, hb1⟩
  go_wp2_with fail
  refine (HR.out _ hb1).mono ?_
  rintro e9 w2 ⟨v, rfl, hres, hb2⟩
  have hb02 := bnext hb1 hb2
  rcases hres with ⟨T, L, N, S, x, hG, h20, rfl, A3, c3, B3, e3, vs3, rfl, hO⟩ | ⟨rfl, hbad⟩
  · obtain ⟨p, hp⟩ : ∃ p, T.length = p := ⟨_, rfl⟩
    obtain ⟨m, hm⟩ : ∃ m, L.length = m := ⟨_, rfl⟩
    obtain ⟨hp1, hp2, hp3⟩ := hG.prods (q := m - 1) (by rw [hm])
    have hk2 := hG.k2
    have hk64 := hG.k64
    have hm20 : m ≤ 20 := by omega
    have e0 : IntKind.i64.wrap (2 * K) = 2 * K := IntWalk.i64_in _ (by omega)
    have hfew := Lib.hid (fun (h : (n : Int) < K) => hG.few (by rw [Hn.out]; exact h))
    rw [hp, hm]
    have hcase : ((n : Int) < K ∧ S = 0 ∧ m = 0) ∨ (K ≤ (n : Int) ∧ m = 0) ∨ (K ≤ (n : Int) ∧ ∃ q, m = q + 1) := by
      rcases Int.lt_or_le (n : Int) K with h1 | h1
      · obtain ⟨h2, h3⟩ := hfew.out h1
        exact .inl ⟨h1, h2, by omega⟩
      · rcases Nat.eq_zero_or_pos m with h2 | h2
        · exact .inr (.inl ⟨h1, h2⟩)
        · exact .inr (.inr ⟨h1, m - 1, by omega⟩)
    clear hG hO hp hm hfew h20
    rcases hcase with ⟨h1, rfl, rfl⟩ | ⟨h1, rfl⟩ | ⟨h1, q, rfl⟩
    · clear hp1 hp2 hp3
      have hmax : max (-1 : Int) 0 = 0 := by decide
      have hw0 : wrap64 0 = 0 := wrap_id (by omega)
      go_wp2_with fail
      go_ret
      exact R1.mk (by simp) (hb02.alloc hb02.size _)
    · have hp2' : 2 * K * S = 0 := by simp at hp2; omega
      clear hp1 hp2 hp3
      have hmax : max (-1 : Int) 0 = 0 := by decide
      have hw0 : wrap64 0 = 0 := wrap_id (by omega)
      go_wp2_with fail
      go_ret
      exact R1.mk (by simp) (hb02.alloc hb02.size _)
    · have hq0 : q + 1 - 1 = q := by omega
      rw [hq0] at hp2 hp3
      have e2 : IntKind.i64.wrap (2 * K * S) = 2 * K * S := IntWalk.i64_in _ (by omega)
      have e3 : IntKind.i64.wrap (N * (q : Int)) = N * (q : Int) := IntWalk.i64_in _ (by omega)
      have e1 : IntKind.i64.wrap (((q + 1 : Nat) : Int) - 1) = (q : Int) := (IntWalk.i64_in _ (by omega)).trans (by omega)
      have hmax : max (q : Int) 0 = (q : Int) := by omega
      go_wp2_with fail
      go_ret
      exact R1.mk (by simp) (hb02.alloc hb02.size _)
  · simp only [zeroR]
    rw [Hn.out] at hbad
    rcases hbad with h1 | h1 | h1
    · go_wp2_with fail
      go_ret
      exact R1.mk (by simp) (hb02.alloc hb02.size _)
    · have h2 : ¬ K < 2 := by omega
      go_wp2_with fail
      go_ret
      exact R1.mk (by simp) (hb02.alloc hb02.size _)
    · have h3 : (1000 : Int) < (n : Int) := by omega
      by_cases h2 : K < 2
      · go_wp2_with fail
        go_ret
        exact R1.mk (by simp) (hb02.alloc hb02.size _)
      · by_cases h4 : 64 < K
        · go_wp2_with fail
          go_ret
          exact R1.mk (by simp) (hb02.alloc hb02.size _)
        · go_wp2_with fail
          go_ret
          exact R1.mk (by simp) (hb02.alloc hb02.size _)
end Go.Proofs.Ytacmlepjhhmbmaa
