/- Texts of the proof of ExprBack, joined (by merge.py). Conditions: each theorem's own hypotheses. -/
import Derived.Test.YtnicbhmeigpjkaaGreatDoorExprBackP0
import Derived.Test.YtnicbhmeigpjkaaGreatDoorExprOneP12
namespace Go.Proofs.YtnicbhmeigpjkaaGreatDoor
open Go.RowKit Go.ChangeShapes Go.WideShapes Go.Deep
section
variable {H : Type} {enc : TypeId × Value → H} {P : Program} {w : World} {base : Nat} {spare : Nat → Bool} {held : Bool}
theorem bulk_stringL {r : Reach} {b0 : Nat} {t : TypeId} {v : Value} {d : DataW H} {ps : List MemPlace} (ht : P.underlying t = some .string) (hval : Value.okWide P w r b0 t v) (hd : DataW.Trod enc P w base spare held t v d ps) (hk : Rows.uptoBulk d ≤ 1048576) :
    ∃ s, v = .string s ∧ s.size ≤ 1048576 := by
  obtain ⟨s, rfl⟩ := okWide_string ht hval
  obtain ⟨fuel, hf⟩ := hd
  obtain ⟨s', h, e, hw⟩ := DataW.trod_string ht hf
  simp [Value.cells] at h
  subst h
  refine ⟨s, rfl, ?_⟩
  have e1 : d = .lit (.string s.data.toList) := by
    have := congrArg Prod.fst e
    exact this
  rw [e1, Rows.uptoBulk, Array.length_toList] at hk
  have h2 : s.data.size = s.size := rfl
  omega
end
end Go.Proofs.YtnicbhmeigpjkaaGreatDoor
