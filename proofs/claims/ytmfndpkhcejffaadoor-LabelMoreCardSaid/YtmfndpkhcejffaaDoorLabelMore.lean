/- The law LabelMore: whatever the input, the call returns true and each argument reads behind the call as it read before; the tables that the row lists start as the program's text lays them, and the card ties that. -/
import Derived.Test.YtmfndpkhcejffaaDoorLbMore

import Derived.Shelf.Vars
import Derived.Test.YtmfndpkhcejffaaDoorOpen
import Derived.Test.YtmfndpkhcejffaaDoorOpenL
import Derived.Test.YtmfndpkhcejffaaDoorCards
import Derived.Test.YtmfndpkhcejffaaDoorTie
import Derived.Deep.DeepHandedRow
import Derived.SevenTiedAt
namespace Go.Proofs.YtmfndpkhcejffaaDoor
open Go.ChangeShapes Go.WideShapes Go.ChangeAt Go.RowKit
namespace LawLabelMore

theorem own : ownKnob Tryd.prog.godebug = none := by kernel_rfl
theorem laid : laidOutB Tryd.prog = true := by kernel_rfl
theorem reads : (Tryd.f5.params.toList.all fun t => Tryd.prog.readableRec t && decide (t < Tryd.prog.types.size)) = true := by kernel_rfl
theorem reads' : ∀ t ∈ Tryd.f5.params.toList, Tryd.prog.readableRec t = true ∧ t < Tryd.prog.types.size := fun t ht => by
  have := List.all_eq_true.1 reads t ht
  simp only [Bool.and_eq_true, decide_eq_true_eq] at this
  exact this
theorem plainT : (Tryd.f5.params.toList.all fun t => !Tryd.prog.wantsStandIn t) = true := by kernel_rfl

set_option maxRecDepth 100000 in
theorem contract (H : Type) (enc : TypeId × Value → H) (W : World) (args : Array Value) (ds gs : List (DataW H)) (before : List MemPlace)
    (hval : ∀ (j : Nat) t v, Tryd.f5.params[j]? = some t → args[j]? = some v → Value.okWide Tryd.prog W .any 0 t v)
    (hW0 : DataW.Whole enc Tryd.prog Tryd.f5.params.toList Rows.labelMoreSpec.vars false W args.toList ds gs before)
    (hsz : (DataW.weightsEach Tryd.prog (Tryd.f5.params.toList ++ Rows.labelMoreSpec.plain.varTypes Tryd.prog) (ds ++ gs)).all (· ≤ reachBytes) = true) (_hL : laidMetH Tryd.prog Rows.labelMoreRow.laid W) (hsh : W.ShapedOpen Tryd.prog) :
    Calls Tryd.prog 5 args W fun e W' => ∃ v, e = .returned v ∧ Rows.labelMoreSpec.post enc Tryd.prog Tryd.f5 false true false false W args v W' := by
  have hW := hW0
  obtain ⟨p, q, hA0, hV, _, _, _⟩ := hW
  have hA : DataW.TrodAll enc Tryd.prog W 0 (fun _ => true) true Tryd.f5.params.toList args.toList ds p := hA0
  obtain ⟨rfl, rfl⟩ := trodVars_none hV
  clear hA0
  rw [Tryd.params5] at hA hval hsz
  obtain ⟨v0, vs0, d0, ds0, p0, q0, hargs, rfl, rfl, h0, r0⟩ := trodAll_cons hA
  obtain ⟨v1, vs1, d1, ds1, p1, q1, rfl, rfl, rfl, h1, r1⟩ := trodAll_cons r0
  obtain ⟨v2, vs2, d2, ds2, p2, q2, rfl, rfl, rfl, h2, r2⟩ := trodAll_cons r1
  obtain ⟨rfl, rfl, rfl⟩ := trodAll_nil r2
  obtain rfl : args = #[v0, v1, v2] := by cases args; simp_all
  obtain ⟨A0, c0, L, rfl, ok0, lc0, cm0, nil0, has0, reach0⟩ := open_labs Tryd.underlying22 Tryd.underlying50 Tryd.underlying9 Tryd.underlying9 (by kernel_rfl) (by kernel_rfl) (by kernel_rfl) (hval 0 _ _ rfl rfl) h0 (weights_of (j := 0) hsz rfl rfl)
  obtain ⟨A1, c1, m, rfl, ok1, lc1, cm1, nil1, has1, reach1⟩ := open_mts Tryd.underlying29 Tryd.underlying24 Tryd.underlying3 Tryd.underlying9 Tryd.underlying9 (by kernel_rfl) (by kernel_rfl) (by kernel_rfl) (hval 1 _ _ rfl rfl) h1 (weights_of (j := 1) hsz rfl rfl)
  obtain ⟨x, rfl, g2⟩ := open_mt Tryd.underlying24 Tryd.underlying3 Tryd.underlying9 Tryd.underlying9 (by kernel_rfl) (by kernel_rfl) (hval 2 _ _ rfl rfl) h2
  have tM := cell_of_shapedOpen_int (P := Tryd.prog) (g := 1) (t := 3) (zero := #[.int .i64 0]) hsh (of_decide_eq_true (by kernel_rfl)) (by kernel_rfl) rfl (by kernel_rfl) (by kernel_rfl) Tryd.underlying3
  refine (labelMore_any W A0 c0 L ok0 lc0 cm0 nil0 has0 reach0 A1 c1 m ok1 lc1 cm1 nil1 has1 reach1 x g2 tM).mono fun e W' h => ?_
  obtain ⟨rfl, hbel⟩ := h
  exact ⟨_, rfl, post_true laid reads' (by kernel_rfl) Tryd.underlying4 rfl ⟨rfl, rfl, rfl⟩ hW0 hbel⟩

/-- a world for the witness: the tables hold what their initialisers lay -/
noncomputable def laidWorld (os : Os) : World :=
  { World.holding Tryd.prog os ⟨#[], #[], []⟩ with heap := ((World.holding Tryd.prog os ⟨#[], #[], []⟩).heap.modify 0 fun
      | .cells _ t frozen => .cells #[.string ⟨#[]⟩, .string ⟨#[61]⟩, .string ⟨#[33, 61]⟩, .string ⟨#[61, 94]⟩, .string ⟨#[61, 126]⟩] t frozen
      | o => o) }
theorem laid_met (os : Os) : laidMet Tryd.prog Rows.labelMoreRow.laid ((laidWorld os).forCall (fun _ _ => 0) ⟨#[], #[.slice none 0 0, .slice none 0 0, .agg #[.int .i64 0, .string ⟨#[]⟩, .string ⟨#[]⟩]], []⟩).memory :=
  laidMet_of_run' 8 (by kernel_rfl) (by kernel_rfl)
theorem readsW (os : Os) {H : Type} (enc : TypeId × Value → H) : ∃ x, DataW.whole enc Tryd.prog ((laidWorld os).forCall (fun _ _ => 0) ⟨#[], #[.slice none 0 0, .slice none 0 0, .agg #[.int .i64 0, .string ⟨#[]⟩, .string ⟨#[]⟩]], []⟩).memory Tryd.f5.params.toList Rows.labelMoreSpec.vars false (#[.slice none 0 0, .slice none 0 0, .agg #[.int .i64 0, .string ⟨#[]⟩, .string ⟨#[]⟩]] : Array Value).toList 8 = some x :=
  Option.isSome_iff_exists.1 (by kernel_rfl)

set_option maxRecDepth 100000 in
theorem lifted (os : Os) (started : os.Started) (H : Type) (enc : TypeId × Value → H) (F : Stop.Interp) :
    ReturnsInHanded {} Tryd.checked os 5 .any ((OpenSpec.ofChange Rows.labelMoreSpec).preRow enc Tryd.prog Tryd.f5 Rows.labelMoreRow.domain false Rows.labelMoreRow.laid) (((OpenSpec.ofChange Rows.labelMoreSpec).at F).post enc Tryd.prog Tryd.f5 false true false false) := by
  obtain ⟨x, hx⟩ := readsW os enc
  refine returnsInHanded_of_row (C := Tryd.checked) (s := OpenSpec.ofChange Rows.labelMoreSpec) own started (by kernel_rfl) Tryd.func5
    (witness_row_at (enc := enc) (C := Tryd.checked) false (laidWorld os) #[.slice none 0 0, .slice none 0 0, .agg #[.int .i64 0, .string ⟨#[]⟩, .string ⟨#[]⟩]] rfl (by kernel_rfl) (by kernel_rfl) (by kernel_rfl)
      (OpenSpec.preRow_of_cond 8 hx (by kernel_rfl) (fun k hk => by cases hk) (by kernel_rfl) (laid_met os))) ?_
  intro W base args ds gs before hval hW _ _ hsz hL hsh _
  exact contract H enc W args ds gs before hval hW hsz hL hsh

theorem said : Rows.LabelMoreSaid :=
  OpenClaim.holds_of_cond 5 Tryd.f5 rfl rfl rfl rfl rfl rfl rfl ⟨rfl, rfl, rfl, rfl, rfl⟩ rfl rfl rfl rfl rfl (by kernel_rfl) Tryd.func5 (by kernel_rfl)
    (of_decide_eq_true (by kernel_rfl)) (by unfold Func.isWrapper; first | (rw [if_pos (by decide +kernel)]; kernel_rfl) | (rw [if_neg (by decide +kernel)]; exact ⟨rfl, rfl⟩))
    (fun os started H enc _ F => by rw [OpenClaim.pre_eq_preRow]; exact lifted os started H enc F)

theorem plain (f : FuncId) (fn : Func) (hf : Tryd.pinned.checked.prog.funcNamed "gaugehouse/gaugehousekeep.LabelMore" = some f) (hfn : Tryd.pinned.checked.prog.funcs[f]? = some fn) :
    true = Tryd.pinned.checked.prog.looks [] ∧ ∀ (j : Nat) t, fn.params[j]? = some t → Tryd.pinned.checked.prog.wantsStandIn t = false := by
  obtain rfl : f = 5 := Option.some.inj ((show Tryd.prog.funcNamed "gaugehouse/gaugehousekeep.LabelMore" = some 5 by kernel_rfl).symm.trans hf) |>.symm
  obtain rfl : fn = Tryd.f5 := (Option.some.inj (Tryd.func5.symm.trans hfn)).symm
  refine ⟨by kernel_rfl, fun j t ht => ?_⟩
  have := List.all_eq_true.1 plainT t (Array.mem_toList_iff.2 (Array.mem_of_getElem? ht))
  exact (by simpa using this : Tryd.prog.wantsStandIn t = false)

theorem holds : Rows.LabelMoreCardSaid :=
  Claim7.holds_tied_plain_at .later [] _ _ _ _ said (fun _ h => by cases h) (by kernel_rfl) (fun _ h => by cases h) labelMore_row_tie rfl ⟨rfl, rfl⟩ (by kernel_rfl) rfl plain (by kernel_rfl)
end LawLabelMore
end Go.Proofs.YtmfndpkhcejffaaDoor
