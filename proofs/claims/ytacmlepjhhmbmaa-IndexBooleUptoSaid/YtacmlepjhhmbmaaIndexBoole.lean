/- The law IndexBoole in its second form: whatever the input of bulk at most 1048576, the call returns true and each argument reads behind the call as it read before. -/
import Derived.Test.YtacmlepjhhmbmaaLawIxB
import Derived.Test.YtacmlepjhhmbmaaOpen
import Derived.Test.YtacmlepjhhmbmaaBulk
import Derived.JoinedCond
namespace Go.Proofs.Ytacmlepjhhmbmaa
open Go.ChangeShapes Go.WideShapes Go.ChangeAt Go.RowKit
namespace LawIndexBoole

theorem own : ownKnob Try.prog.godebug = none := by kernel_rfl
theorem laid : laidOutB Try.prog = true := by kernel_rfl
theorem reads : (Try.f3.params.toList.all fun t => Try.prog.readableRec t && decide (t < Try.prog.types.size)) = true := by kernel_rfl
theorem reads' : ∀ t ∈ Try.f3.params.toList, Try.prog.readableRec t = true ∧ t < Try.prog.types.size := fun t ht => by
  have := List.all_eq_true.1 reads t ht
  simp only [Bool.and_eq_true, decide_eq_true_eq] at this
  exact this

set_option maxRecDepth 100000 in
theorem contract (H : Type) (enc : TypeId × Value → H) (W : World) (args : Array Value) (ds gs : List (DataW H)) (before : List MemPlace)
    (hval : ∀ (j : Nat) t v, Try.f3.params[j]? = some t → args[j]? = some v → Value.okWide Try.prog W .any 0 t v)
    (hW0 : DataW.Whole enc Try.prog Try.f3.params.toList Rows.indexBooleSpec.vars false W args.toList ds gs before)
    (hk : Rows.uptoSmall H (ds ++ gs) = true) :
    Calls Try.prog 3 args W fun e W' => ∃ v, e = .returned v ∧ Rows.indexBooleSpec.post enc Try.prog Try.f3 false true false false W args v W' := by
  have hW := hW0
  obtain ⟨p, q, hA0, hV, _, _, _⟩ := hW
  have hA : DataW.TrodAll enc Try.prog W 0 (fun _ => true) true Try.f3.params.toList args.toList ds p := hA0
  obtain ⟨rfl, rfl⟩ := trodVars_none hV
  clear hA0
  rw [Try.params3] at hA hval
  obtain ⟨v0, vs0, d0, ds0, p0, q0, hargs, rfl, rfl, h0, r0⟩ := trodAll_cons hA
  obtain ⟨v1, vs1, d1, ds1, p1, q1, rfl, rfl, rfl, h1, r1⟩ := trodAll_cons r0
  obtain ⟨v2, vs2, d2, ds2, p2, q2, rfl, rfl, rfl, h2, r2⟩ := trodAll_cons r1
  obtain ⟨rfl, rfl, rfl⟩ := trodAll_nil r2
  obtain rfl : args = #[v0, v1, v2] := by cases args; simp_all
  obtain ⟨A0, c0, a, rfl, ok0, lc0, cm0, nil0, has0, small0⟩ := bulk_i64s Try.underlying22 Try.underlying3 (by kernel_rfl) (hval 0 _ _ rfl rfl) h0 (bulk_small hk (by simp))
  obtain ⟨A1, c1, b, rfl, ok1, lc1, cm1, nil1, has1, small1⟩ := bulk_i64s Try.underlying22 Try.underlying3 (by kernel_rfl) (hval 1 _ _ rfl rfl) h1 (bulk_small hk (by simp))
  obtain ⟨A2, c2, c, rfl, ok2, lc2, cm2, nil2, has2, small2⟩ := bulk_i64s Try.underlying22 Try.underlying3 (by kernel_rfl) (hval 2 _ _ rfl rfl) h2 (bulk_small hk (by simp))
  refine (indexBoole_true W A0 c0 a ok0 lc0 cm0 nil0 has0 (by omega) A1 c1 b ok1 lc1 cm1 nil1 has1 (by omega) A2 c2 c ok2 lc2 cm2 nil2 has2 (by omega)).mono fun e W' h => ?_
  obtain ⟨rfl, hbel⟩ := h
  exact ⟨_, rfl, post_true laid reads' (by kernel_rfl) Try.underlying4 rfl ⟨rfl, rfl, rfl⟩ hW0 hbel⟩

set_option maxRecDepth 100000 in
theorem lifted (os : Os) (started : os.Started) (H : Type) (enc : TypeId × Value → H) (F : Stop.Interp) :
    ReturnsInHanded {} Try.checked os 3 .any ((Rows.OpenSpec.upto Rows.indexBooleSpec).pre6 enc Try.prog Try.f3 Rows.indexBooleUptoRow.domain false) (((Rows.OpenSpec.upto Rows.indexBooleSpec).at F).post enc Try.prog Try.f3 false true false false) := by
  refine returnsInHanded_of_cond (C := Try.checked) (s := Rows.OpenSpec.upto Rows.indexBooleSpec) (k := Rows.uptoSmall) rfl own started (by kernel_rfl) Try.func3
    (OpenSpec.witness (enc := enc) (C := Try.checked) (s := Rows.OpenSpec.upto Rows.indexBooleSpec) (k := Rows.uptoSmall) rfl false ⟨#[], #[.slice none 0 0, .slice none 0 0, .slice none 0 0], []⟩ 8 (by kernel_rfl) (by kernel_rfl) (by kernel_rfl)
      (x := ([.nil, .nil, .nil], [], [])) (by kernel_rfl) rfl (by kernel_rfl)) ?_
  intro W base args ds gs before hval hW _ hk _
  exact contract H enc W args ds gs before hval hW hk

theorem holds : Rows.IndexBooleUptoSaid :=
  OpenClaim.holds_of_cond 3 Try.f3 rfl rfl rfl rfl rfl rfl rfl ⟨rfl, rfl, rfl, rfl, rfl⟩ rfl rfl rfl rfl rfl (by kernel_rfl) Try.func3 (by kernel_rfl)
    (of_decide_eq_true (by kernel_rfl)) (by unfold Func.isWrapper; first | (rw [if_pos (by decide +kernel)]; kernel_rfl) | (rw [if_neg (by decide +kernel)]; exact ⟨rfl, rfl⟩))
    (fun os started H enc _ F => lifted os started H enc F)
end LawIndexBoole
end Go.Proofs.Ytacmlepjhhmbmaa
