/- The law LabelOne: whatever the input, the call returns true and each argument reads behind the call as it read before; the tables that the row lists start as the program's text lays them, and the card ties that. -/
import Derived.Test.YtmfndpkhcejffaaDoorLbOneW
import Derived.Test.YtmfndpkhcejffaaDoorTabS
import Derived.Test.YtmfndpkhcejffaaDoorOpen
import Derived.Test.YtmfndpkhcejffaaDoorOpenL
import Derived.Test.YtmfndpkhcejffaaDoorCards
import Derived.Test.YtmfndpkhcejffaaDoorTie
import Derived.Deep.DeepHandedRow
import Derived.SevenTiedAt
import Derived.Test.YtmfndpkhcejffaaDoorBulkS
namespace Go.Proofs.YtmfndpkhcejffaaDoor
open Go.ChangeShapes Go.WideShapes Go.ChangeAt Go.RowKit
namespace LawLabelOne

theorem own : ownKnob Tryd.prog.godebug = none := by kernel_rfl
theorem laid : laidOutB Tryd.prog = true := by kernel_rfl
theorem reads : (Tryd.f6.params.toList.all fun t => Tryd.prog.readableRec t && decide (t < Tryd.prog.types.size)) = true := by kernel_rfl
theorem reads' : ∀ t ∈ Tryd.f6.params.toList, Tryd.prog.readableRec t = true ∧ t < Tryd.prog.types.size := fun t ht => by
  have := List.all_eq_true.1 reads t ht
  simp only [Bool.and_eq_true, decide_eq_true_eq] at this
  exact this
theorem plainT : (Tryd.f6.params.toList.all fun t => !Tryd.prog.wantsStandIn t) = true := by kernel_rfl

set_option maxRecDepth 100000 in
theorem contract (H : Type) (enc : TypeId × Value → H) (W : World) (args : Array Value) (ds gs : List (DataW H)) (before : List MemPlace)
    (hval : ∀ (j : Nat) t v, Tryd.f6.params[j]? = some t → args[j]? = some v → Value.okWide Tryd.prog W .any 0 t v)
    (hW0 : DataW.Whole enc Tryd.prog Tryd.f6.params.toList Rows.labelOneSpec.vars false W args.toList ds gs before)
    (hsz : (DataW.weightsEach Tryd.prog (Tryd.f6.params.toList ++ Rows.labelOneSpec.plain.varTypes Tryd.prog) (ds ++ gs)).all (· ≤ reachBytes) = true) (hL : laidMetH Tryd.prog Rows.labelOneUptoRow.laid W) (hsh : W.ShapedOpen Tryd.prog) (hk : Rows.uptoSmall H (ds ++ gs) = true) :
    Calls Tryd.prog 6 args W fun e W' => ∃ v, e = .returned v ∧ Rows.labelOneSpec.post enc Tryd.prog Tryd.f6 false true false false W args v W' := by
  have hW := hW0
  obtain ⟨p, q, hA0, hV, _, _, _⟩ := hW
  have hA : DataW.TrodAll enc Tryd.prog W 0 (fun _ => true) true Tryd.f6.params.toList args.toList ds p := hA0
  obtain ⟨rfl, rfl⟩ := trodVars_none hV
  clear hA0
  rw [Tryd.params6] at hA hval hsz
  obtain ⟨v0, vs0, d0, ds0, p0, q0, hargs, rfl, rfl, h0, r0⟩ := trodAll_cons hA
  obtain ⟨rfl, rfl, rfl⟩ := trodAll_nil r0
  obtain rfl : args = #[v0] := by cases args; simp_all
  obtain ⟨s, rfl, sz0⟩ := bulk_stringL Tryd.underlying9 (hval 0 _ _ rfl rfl) h0 (bulk_small hk (by simp))
  have tS := signs_at hL
  refine (labelOne_any W s (by omega) tS).mono fun e W' h => ?_
  obtain ⟨rfl, hbel⟩ := h
  exact ⟨_, rfl, post_true laid reads' (by kernel_rfl) Tryd.underlying4 rfl ⟨rfl, rfl, rfl⟩ hW0 hbel⟩

/-- a world for the witness: the tables hold what their initialisers lay -/
noncomputable def laidWorld (os : Os) : World :=
  { World.holding Tryd.prog os ⟨#[], #[], []⟩ with heap := ((World.holding Tryd.prog os ⟨#[], #[], []⟩).heap.modify 0 fun
      | .cells _ t frozen => .cells #[.string ⟨#[]⟩, .string ⟨#[61]⟩, .string ⟨#[33, 61]⟩, .string ⟨#[61, 94]⟩, .string ⟨#[61, 126]⟩] t frozen
      | o => o) }
theorem laid_met (os : Os) : laidMet Tryd.prog Rows.labelOneUptoRow.laid ((laidWorld os).forCall (fun _ _ => 0) ⟨#[], #[.string ⟨#[]⟩], []⟩).memory :=
  laidMet_of_run' 8 (by kernel_rfl) (by kernel_rfl)
theorem readsW (os : Os) {H : Type} (enc : TypeId × Value → H) : ∃ x, DataW.whole enc Tryd.prog ((laidWorld os).forCall (fun _ _ => 0) ⟨#[], #[.string ⟨#[]⟩], []⟩).memory Tryd.f6.params.toList Rows.labelOneSpec.vars false (#[.string ⟨#[]⟩] : Array Value).toList 8 = some x ∧ Rows.uptoSmall H (x.1 ++ x.2.1) = true :=
  ⟨([.lit (.string [])], [], []), by kernel_rfl, by kernel_rfl⟩

set_option maxRecDepth 100000 in
theorem lifted (os : Os) (started : os.Started) (H : Type) (enc : TypeId × Value → H) (F : Stop.Interp) :
    ReturnsInHanded {} Tryd.checked os 6 .any ((Rows.OpenSpec.upto Rows.labelOneSpec).preRow enc Tryd.prog Tryd.f6 Rows.labelOneUptoRow.domain false Rows.labelOneUptoRow.laid) (((Rows.OpenSpec.upto Rows.labelOneSpec).at F).post enc Tryd.prog Tryd.f6 false true false false) := by
  obtain ⟨x, hx, hxk⟩ := readsW os enc
  refine returnsInHanded_of_row (C := Tryd.checked) (s := Rows.OpenSpec.upto Rows.labelOneSpec) own started (by kernel_rfl) Tryd.func6
    (witness_row_at (enc := enc) (C := Tryd.checked) false (laidWorld os) #[.string ⟨#[]⟩] rfl (by kernel_rfl) (by kernel_rfl) (by kernel_rfl)
      (OpenSpec.preRow_of_cond 8 hx (by kernel_rfl) (fun k hk => by cases hk; exact hxk) (by kernel_rfl) (laid_met os))) ?_
  intro W base args ds gs before hval hW _ hk hsz hL hsh _
  exact contract H enc W args ds gs before hval hW hsz hL hsh (hk _ rfl)

theorem said : Rows.LabelOneUptoSaid :=
  OpenClaim.holds_of_cond 6 Tryd.f6 rfl rfl rfl rfl rfl rfl rfl ⟨rfl, rfl, rfl, rfl, rfl⟩ rfl rfl rfl rfl rfl (by kernel_rfl) Tryd.func6 (by kernel_rfl)
    (of_decide_eq_true (by kernel_rfl)) (by unfold Func.isWrapper; first | (rw [if_pos (by decide +kernel)]; kernel_rfl) | (rw [if_neg (by decide +kernel)]; exact ⟨rfl, rfl⟩))
    (fun os started H enc _ F => by rw [OpenClaim.pre_eq_preRow]; exact lifted os started H enc F)

theorem plain (f : FuncId) (fn : Func) (hf : Tryd.pinned.checked.prog.funcNamed "gaugehouse/gaugehousekeep.LabelOne" = some f) (hfn : Tryd.pinned.checked.prog.funcs[f]? = some fn) :
    true = Tryd.pinned.checked.prog.looks [] ∧ ∀ (j : Nat) t, fn.params[j]? = some t → Tryd.pinned.checked.prog.wantsStandIn t = false := by
  obtain rfl : f = 6 := Option.some.inj ((show Tryd.prog.funcNamed "gaugehouse/gaugehousekeep.LabelOne" = some 6 by kernel_rfl).symm.trans hf) |>.symm
  obtain rfl : fn = Tryd.f6 := (Option.some.inj (Tryd.func6.symm.trans hfn)).symm
  refine ⟨by kernel_rfl, fun j t ht => ?_⟩
  have := List.all_eq_true.1 plainT t (Array.mem_toList_iff.2 (Array.mem_of_getElem? ht))
  exact (by simpa using this : Tryd.prog.wantsStandIn t = false)

theorem holds : Rows.LabelOneUptoCardSaid :=
  Claim7.holds_tied_plain_at .later [] _ _ _ _ said (fun _ h => by cases h) (by kernel_rfl) (fun _ h => by cases h) labelOneUpto_row_tie rfl ⟨rfl, rfl⟩ (by kernel_rfl) rfl plain (by kernel_rfl)
end LawLabelOne
end Go.Proofs.YtmfndpkhcejffaaDoor
