/- The law LogBack in its second form: whatever the input of bulk at most 1048576, the call returns true and each argument reads behind the call as it read before. -/
import Derived.Test.YtkcfhfplppdnnaaLawLogB
import Derived.Test.YtkcfhfplppdnnaaOpen
import Derived.Test.YtkcfhfplppdnnaaBulkR
import Derived.JoinedCond
namespace Go.Proofs.Ytkcfhfplppdnnaa
open Go.ChangeShapes Go.WideShapes Go.ChangeAt Go.RowKit
namespace LawLogBack

theorem own : ownKnob Try.prog.godebug = none := by kernel_rfl
theorem laid : laidOutB Try.prog = true := by kernel_rfl
theorem reads : (Try.f11.params.toList.all fun t => Try.prog.readableRec t && decide (t < Try.prog.types.size)) = true := by kernel_rfl
theorem reads' : ∀ t ∈ Try.f11.params.toList, Try.prog.readableRec t = true ∧ t < Try.prog.types.size := fun t ht => by
  have := List.all_eq_true.1 reads t ht
  simp only [Bool.and_eq_true, decide_eq_true_eq] at this
  exact this

set_option maxRecDepth 100000 in
theorem contract (H : Type) (enc : TypeId × Value → H) (W : World) (args : Array Value) (ds gs : List (DataW H)) (before : List MemPlace)
    (hval : ∀ (j : Nat) t v, Try.f11.params[j]? = some t → args[j]? = some v → Value.okWide Try.prog W .any 0 t v)
    (hW0 : DataW.Whole enc Try.prog Try.f11.params.toList Rows.logBackSpec.vars false W args.toList ds gs before)
    (hk : Rows.uptoSmall H (ds ++ gs) = true) :
    Calls Try.prog 11 args W fun e W' => ∃ v, e = .returned v ∧ Rows.logBackSpec.post enc Try.prog Try.f11 false true false false W args v W' := by
  have hW := hW0
  obtain ⟨p, q, hA0, hV, _, _, _⟩ := hW
  have hA : DataW.TrodAll enc Try.prog W 0 (fun _ => true) true Try.f11.params.toList args.toList ds p := hA0
  obtain ⟨rfl, rfl⟩ := trodVars_none hV
  clear hA0
  rw [Try.params11] at hA hval
  obtain ⟨v0, vs0, d0, ds0, p0, q0, hargs, rfl, rfl, h0, r0⟩ := trodAll_cons hA
  obtain ⟨v1, vs1, d1, ds1, p1, q1, rfl, rfl, rfl, h1, r1⟩ := trodAll_cons r0
  obtain ⟨rfl, rfl, rfl⟩ := trodAll_nil r1
  obtain rfl : args = #[v0, v1] := by cases args; simp_all
  obtain ⟨A0, c0, l, vs0_, rfl, rb0, lc0, cm0, nil0, has0, rec0, small0⟩ := bulk_bytess Try.underlying33 Try.underlying36 Try.underlying5 (by kernel_rfl) (by kernel_rfl) (hval 0 _ _ rfl rfl) h0 (bulk_small hk (by simp))
  obtain ⟨keep, rfl, rfl, rfl, wz1⟩ := open_int Try.underlying3 (hval 1 _ _ rfl rfl) h1
  have bz1 := bounds_i64 wz1
  refine (logBack_true W A0 c0 l vs0_ rb0 lc0 cm0 nil0 has0 rec0 (by omega) keep bz1).mono fun e W' h => ?_
  obtain ⟨rfl, hbel⟩ := h
  exact ⟨_, rfl, post_true laid reads' (by kernel_rfl) Try.underlying4 rfl ⟨rfl, rfl, rfl⟩ hW0 hbel⟩

set_option maxRecDepth 100000 in
theorem lifted (os : Os) (started : os.Started) (H : Type) (enc : TypeId × Value → H) (F : Stop.Interp) :
    ReturnsInHanded {} Try.checked os 11 .any ((Rows.OpenSpec.upto Rows.logBackSpec).pre6 enc Try.prog Try.f11 Rows.logBackUptoRow.domain false) (((Rows.OpenSpec.upto Rows.logBackSpec).at F).post enc Try.prog Try.f11 false true false false) := by
  refine returnsInHanded_of_cond (C := Try.checked) (s := Rows.OpenSpec.upto Rows.logBackSpec) (k := Rows.uptoSmall) rfl own started (by kernel_rfl) Try.func11
    (OpenSpec.witness (enc := enc) (C := Try.checked) (s := Rows.OpenSpec.upto Rows.logBackSpec) (k := Rows.uptoSmall) rfl false ⟨#[], #[.slice none 0 0, .int .i64 0], []⟩ 8 (by kernel_rfl) (by kernel_rfl) (by kernel_rfl)
      (x := ([.nil, .lit (.int .i64 0)], [], [])) (by kernel_rfl) rfl (by kernel_rfl)) ?_
  intro W base args ds gs before hval hW _ hk _
  exact contract H enc W args ds gs before hval hW hk

theorem holds : Rows.LogBackUptoSaid :=
  OpenClaim.holds_of_cond 11 Try.f11 rfl rfl rfl rfl rfl rfl rfl ⟨rfl, rfl, rfl, rfl, rfl⟩ rfl rfl rfl rfl rfl (by kernel_rfl) Try.func11 (by kernel_rfl)
    (of_decide_eq_true (by kernel_rfl)) (by unfold Func.isWrapper; first | (rw [if_pos (by decide +kernel)]; kernel_rfl) | (rw [if_neg (by decide +kernel)]; exact ⟨rfl, rfl⟩))
    (fun os started H enc _ F => lifted os started H enc F)
end LawLogBack
end Go.Proofs.Ytkcfhfplppdnnaa
