/- The walks of the laws HashBack and HashApart: each returns true. Conditions: the arguments fit their kinds. -/
import Derived.Test.YtdoinkflhjnflaaOf
namespace Go.Proofs.Ytdoinkflhjnflaa
open Go.RowKit

set_option maxRecDepth 1000000 in
set_option maxHeartbeats 400000 in
theorem hashes_true (w : World) : Calls Try.prog 24 #[] w (R1 (.bool true) (Drawn w)) := by
  have e0 : mixN 0 = 0 := by decide +kernel
  go_enter Try.func24, Try.ntmps24
  go_wp2_with fail
  refine (mix_any 0 (by omega) _).mono ?_
  rintro e w1 ⟨rfl, n1, rfl⟩
  rw [e0]
  go_wp2_with fail
  refine (mix_any 9 (by omega) _).mono ?_
  rintro e w1 ⟨rfl, n2, rfl⟩
  go_wp2_with fail
  refine (unmix_any (mixN 9) (mixN_lt _) _).mono ?_
  rintro e w1 ⟨rfl, n3, rfl⟩
  rw [unmix_mix (by omega)]
  go_wp2_with fail
  go_ret
  exact R1.mk rfl ⟨_, rfl⟩

set_option maxRecDepth 1000000 in
set_option maxHeartbeats 400000 in
theorem hashBack_true (u : Nat) (hu : u < 18446744073709551616) (w : World) : Calls Try.prog 5 #[.int .u64 u] w (R1 (.bool true) (Below w.heap.size w)) := by
  go_enter Try.func5, Try.ntmps5
  go_wp2_with fail
  refine (mix_any u hu _).mono ?_
  rintro e w1 ⟨rfl, n1, rfl⟩
  go_wp2_with fail
  refine (unmix_any (mixN u) (mixN_lt _) _).mono ?_
  rintro e w1 ⟨rfl, n2, rfl⟩
  rw [unmix_mix hu]
  go_wp2_with fail
  refine (unmix_any u hu _).mono ?_
  rintro e w1 ⟨rfl, n3, rfl⟩
  go_wp2_with fail
  refine (mix_any (unmixN u) (unmixN_lt _) _).mono ?_
  rintro e w1 ⟨rfl, n4, rfl⟩
  rw [mix_unmix hu]
  go_wp2_with fail
  go_ret
  exact R1.mk rfl (below_drewN (Below.refl _ _) _)
end Go.Proofs.Ytdoinkflhjnflaa
