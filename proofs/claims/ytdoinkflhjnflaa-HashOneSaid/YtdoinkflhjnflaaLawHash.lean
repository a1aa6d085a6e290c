/- The walks of the laws HashBack and HashApart: each returns true. Conditions: the arguments fit their kinds. -/
import Derived.Test.YtdoinkflhjnflaaOf
namespace Go.Proofs.Ytdoinkflhjnflaa
open Go.RowKit

set_option maxRecDepth 1000000 in
set_option maxHeartbeats 400000 in
theorem hashes_true (w : World) : Calls Try.prog 24 #[] w (R1 (.bool true) (Drawn w)) := by
  have e0 : mixN 0 = 0 := by decide +kernel
  go_enter Try.func24, Try.ntmps24
  go_wp2_with fail
  refine (mix_any 0 (by omega) _).mono ?_
  rintro e w1 ⟨rfl, n1, rfl⟩
  rw [e0]
  go_wp2_with fail
  refine (mix_any 9 (by omega) _).mono ?_
  rintro e w1 ⟨rfl, n2, rfl⟩
  go_wp2_with fail
  refine (unmix_any (mixN 9) (mixN_lt _) _).mono ?_
  rintro e w1 ⟨rfl, n3, rfl⟩
  rw [unmix_mix (by omega)]
  go_wp2_with fail
  go_ret
  exact R1.mk rfl ⟨_, rfl⟩

set_option maxRecDepth 1000000 in
set_option maxHeartbeats 400000 in
theorem hashBack_true (w : World) (u : Nat) (hu : u < 18446744073709551616) : Calls Try.prog 5 #[.int .u64 u] w (R1 (.bool true) (Below w.heap.size w)) := by
  go_enter Try.func5, Try.ntmps5
  go_wp2_with fail
  refine (mix_any u hu _).mono ?_
  rintro e w1 ⟨rfl, n1, rfl⟩
  go_wp2_with fail
  refine (unmix_any (mixN u) (mixN_lt _) _).mono ?_
  rintro e w1 ⟨rfl, n2, rfl⟩
  rw [unmix_mix hu]
  go_wp2_with fail
  refine (unmix_any u hu _).mono ?_
  rintro e w1 ⟨rfl, n3, rfl⟩
  go_wp2_with fail
  refine (mix_any (unmixN u) (unmixN_lt _) _).mono ?_
  rintro e w1 ⟨rfl, n4, rfl⟩
  rw [mix_unmix hu]
  go_wp2_with fail
  go_ret
  exact R1.mk rfl (below_drewN (Below.refl _ _) _)

set_option maxRecDepth 1000000 in
set_option maxHeartbeats 800000 in
theorem hashApart_true (w : World) (u : Nat) (hu : u < 18446744073709551616) (v : Nat) (hv : v < 18446744073709551616) (A : Option Addr) (c : Nat) (l : List Nat) (hb : Bytes l) (_ : l.length ≤ c) (hc : c ≤ maxLen) (_ : A = none → c = 0) (h : Has w w.heap.size A (u8s l)) (_ : l.length ≤ 140737488351232) :
    Calls Try.prog 8 #[.int .u64 u, .int .u64 v, .slice A l.length c] w (R1 (.bool true) (Below w.heap.size w)) := by
  have hl : l.length ≤ maxLen := by omega
  by_cases e : u = v
  · subst e
    go_enter Try.func8, Try.ntmps8
    go_wp2_with fail
    refine (hashes_true _).mono ?_
    rintro e w1 ⟨rfl, n1, rfl⟩
    go_wp2_with fail
    refine (mix_any u hu _).mono ?_
    rintro e w1 ⟨rfl, n2, rfl⟩
    go_wp2_with fail
    refine (mix_any u hu _).mono ?_
    rintro e w1 ⟨rfl, n3, rfl⟩
    go_wp2_with fail
    refine (of_any u hu A c l hl hb _ (by exact h)).mono ?_
    rintro e w1 ⟨rfl, n4, rfl⟩
    go_wp2_with fail
    refine (of_any u hu A c l hl hb _ (by exact h)).mono ?_
    rintro e w1 ⟨rfl, n5, rfl⟩
    go_wp2_with fail
    go_ret
    exact R1.mk rfl (below_drewN (Below.refl _ _) _)
  · have f1 : ((u : Int) == (v : Int)) = false := by rw [beq_eq_false_iff_ne]; omega
    have f2 : ((mixN u : Int) == (mixN v : Int)) = false := by rw [beq_eq_false_iff_ne]; intro h2; exact e (mix_inj hu hv (by omega))
    have f3 : ((ofN u l : Int) == (ofN v l : Int)) = false := by rw [beq_eq_false_iff_ne]; intro h2; exact e (ofUp_inj hu hv l l.length (by unfold ofN at h2; omega))
    go_enter Try.func8, Try.ntmps8
    go_wp2_with fail
    refine (hashes_true _).mono ?_
    rintro e w1 ⟨rfl, n1, rfl⟩
    go_wp2_with fail
    refine (mix_any u hu _).mono ?_
    rintro e w1 ⟨rfl, n2, rfl⟩
    go_wp2_with fail
    refine (mix_any v hv _).mono ?_
    rintro e w1 ⟨rfl, n3, rfl⟩
    go_wp2_with fail
    refine (of_any u hu A c l hl hb _ (by exact h)).mono ?_
    rintro e w1 ⟨rfl, n4, rfl⟩
    go_wp2_with fail
    refine (of_any v hv A c l hl hb _ (by exact h)).mono ?_
    rintro e w1 ⟨rfl, n5, rfl⟩
    go_wp2_with fail
    go_ret
    exact R1.mk rfl (below_drewN (Below.refl _ _) _)
end Go.Proofs.Ytdoinkflhjnflaa
