/- The law IndexMore: whatever the input, the call returns true and each argument reads behind the call as it read before. No condition beyond the given row's own. -/
import Derived.Test.YtmfndpkhcejffaaLawIxM
import Derived.Test.YtmfndpkhcejffaaOpen
import Derived.Test.YtmfndpkhcejffaaOpenL
import Derived.Shelf.Vars
import Derived.HandedShaped
namespace Go.Proofs.Ytmfndpkhcejffaa
open Go.ChangeShapes Go.WideShapes Go.ChangeAt Go.RowKit
namespace LawIndexMore

theorem own : ownKnob Try.prog.godebug = none := by kernel_rfl
theorem laid : laidOutB Try.prog = true := by kernel_rfl
theorem reads : (Try.f3.params.toList.all fun t => Try.prog.readableRec t && decide (t < Try.prog.types.size)) = true := by kernel_rfl
theorem reads' : ∀ t ∈ Try.f3.params.toList, Try.prog.readableRec t = true ∧ t < Try.prog.types.size := fun t ht => by
  have := List.all_eq_true.1 reads t ht
  simp only [Bool.and_eq_true, decide_eq_true_eq] at this
  exact this

set_option maxRecDepth 100000 in
theorem lifted (os : Os) (started : os.Started) (H : Type) (enc : TypeId × Value → H) :
    ReturnsInHanded {} Try.checked os 3 .any (Rows.indexMoreSpec.pre6 enc Try.prog Try.f3 Rows.indexMoreRow.domain false) (Rows.indexMoreSpec.post enc Try.prog Try.f3 false true false false) := by
  refine returnsInHanded_of_change_shaped (C := Try.checked) own started (by kernel_rfl) Try.func3
    (ChangeSpec.witness6 (enc := enc) (C := Try.checked) false ⟨#[], #[.slice none 0 0, .slice none 0 0, .slice none 0 0, .agg #[.int .i64 0, .string ⟨#[]⟩, .string ⟨#[]⟩]], []⟩ 8 (by kernel_rfl) (by kernel_rfl) (by kernel_rfl) (by kernel_rfl)) ?_
  intro W base args ds gs before hval0 hW _ hsz0 hsh _
  have hval : ∀ (j : Nat) t v, Try.f3.params[j]? = some t → args[j]? = some v → Value.okWide Try.prog W .any base t v := hval0
  have hsz : (DataW.weightsEach Try.prog (Try.f3.params.toList ++ Rows.indexMoreSpec.plain.varTypes Try.prog) (ds ++ gs)).all (· ≤ reachBytes) = true := hsz0
  have hW0 : DataW.Whole enc Try.prog Try.f3.params.toList Rows.indexMoreSpec.vars false W args.toList ds gs before := hW
  obtain ⟨p, q, hA0, hV, _, _, _⟩ := hW
  have hA : DataW.TrodAll enc Try.prog W 0 (fun _ => true) true Try.f3.params.toList args.toList ds p := hA0
  obtain ⟨rfl, rfl⟩ := trodVars_none hV
  clear hA0 hval0 hsz0
  rw [Try.params3] at hA hval hsz
  obtain ⟨v0, vs0, d0, ds0, p0, q0, hargs, rfl, rfl, h0, r0⟩ := trodAll_cons hA
  obtain ⟨v1, vs1, d1, ds1, p1, q1, rfl, rfl, rfl, h1, r1⟩ := trodAll_cons r0
  obtain ⟨v2, vs2, d2, ds2, p2, q2, rfl, rfl, rfl, h2, r2⟩ := trodAll_cons r1
  obtain ⟨v3, vs3, d3, ds3, p3, q3, rfl, rfl, rfl, h3, r3⟩ := trodAll_cons r2
  obtain ⟨rfl, rfl, rfl⟩ := trodAll_nil r3
  obtain rfl : args = #[v0, v1, v2, v3] := by cases args; simp_all
  obtain ⟨A0, c0, l, rfl, ok0, lc0, cm0, nil0, has0, reach0⟩ := open_labss Try.underlying22 Try.underlying43 Try.underlying55 Try.underlying9 Try.underlying9 (by kernel_rfl) (by kernel_rfl) (by kernel_rfl) (by kernel_rfl) (hval 0 _ _ rfl rfl) h0 (weights_of (j := 0) hsz rfl rfl)
  obtain ⟨A1, c1, m, rfl, ok1, lc1, cm1, nil1, has1, reach1⟩ := open_mts Try.underlying23 Try.underlying25 Try.underlying3 Try.underlying9 Try.underlying9 (by kernel_rfl) (by kernel_rfl) (by kernel_rfl) (hval 1 _ _ rfl rfl) h1 (weights_of (j := 1) hsz rfl rfl)
  obtain ⟨A2, c2, n, rfl, ok2, lc2, cm2, nil2, has2, reach2⟩ := open_mts Try.underlying23 Try.underlying25 Try.underlying3 Try.underlying9 Try.underlying9 (by kernel_rfl) (by kernel_rfl) (by kernel_rfl) (hval 2 _ _ rfl rfl) h2 (weights_of (j := 2) hsz rfl rfl)
  obtain ⟨x, rfl, g3⟩ := open_mt Try.underlying25 Try.underlying3 Try.underlying9 Try.underlying9 (by kernel_rfl) (by kernel_rfl) (hval 3 _ _ rfl rfl) h3
  have tM := cell_of_shapedOpen_int (P := Try.prog) (g := 0) (t := 3) (zero := #[.int .i64 0]) hsh (of_decide_eq_true (by kernel_rfl)) (by kernel_rfl) rfl (by kernel_rfl) (by kernel_rfl) Try.underlying3
  refine (indexMore_any W A0 c0 l ok0 lc0 cm0 nil0 has0 reach0 A1 c1 m ok1 lc1 cm1 nil1 has1 reach1 A2 c2 n ok2 lc2 cm2 nil2 has2 reach2 x g3 tM).mono fun e W' h => ?_
  obtain ⟨rfl, hbel⟩ := h
  exact ⟨_, rfl, post_true laid reads' (by kernel_rfl) Try.underlying4 rfl ⟨rfl, rfl, rfl⟩ hW0 hbel⟩

theorem holds : Rows.IndexMoreSaid :=
  OpenClaim.holds_of_wide 3 Try.f3 rfl rfl rfl rfl rfl rfl rfl ⟨rfl, rfl, rfl, rfl, rfl⟩ rfl rfl rfl rfl rfl (by kernel_rfl) Try.func3 (by kernel_rfl)
    (of_decide_eq_true (by kernel_rfl)) (by unfold Func.isWrapper; first | (rw [if_pos (by decide +kernel)]; kernel_rfl) | (rw [if_neg (by decide +kernel)]; exact ⟨rfl, rfl⟩))
    (fun os started H enc _ => lifted os started H enc)
end LawIndexMore
end Go.Proofs.Ytmfndpkhcejffaa
