/- The second form's bound for a slice of slices of bytes. Conditions: none beyond each theorem's own hypotheses. -/
import Derived.Test.YtkcfhfplppdnnaaBulk
import Derived.Test.YtkcfhfplppdnnaaOpenR
namespace Go.Proofs.Ytkcfhfplppdnnaa
open Go.RowKit Go.ChangeShapes Go.WideShapes Go.Deep

section
variable {H : Type} {enc : TypeId × Value → H} {P : Program} {w : World} {base : Nat} {spare : Nat → Bool} {held : Bool}
/-- [][]byte, with its bulk -/
theorem bulk_bytess {t e e2 : TypeId} (ht : P.underlying t = some (.slice e)) (he : P.underlying e = some (.slice e2)) (he2 : P.underlying e2 = some (.int .u8)) (hC : P.cellsOf e = 1) (hC2 : P.cellsOf e2 = 1)
    {r : Reach} {b0 : Nat} {v : Value} {d : DataW H} {p : List MemPlace} (hval : Value.okWide P w r b0 t v) (h : DataW.Trod enc P w base spare held t v d p) (hbk : Rows.uptoBulk d ≤ 1048576) :
    ∃ (A : Option Addr) (c : Nat) (rs : List (List Nat)) (vs : List Value), v = .slice A rs.length c ∧ (∀ r ∈ rs, Bytes r) ∧ rs.length ≤ c ∧ c ≤ maxLen ∧ (A = none → c = 0) ∧ Has w w.heap.size A vs ∧ RecsAt w vs rs ∧ rs.length ≤ 1048576 := by
  obtain ⟨A, c, L, h1, h2, h3, h4, h5, h6, h7⟩ := bulk_list (fun x => [rowV x]) (rowOk w) ht hC (by omega) (fun _ => rfl) (elem_row he he2 hC2) hval h
  obtain ⟨i1, i2⟩ := recs_of h2
  rw [flat_rows] at h6
  exact ⟨A, c, L.map (·.2.2), L.map rowV, by rw [List.length_map]; exact h1, i2, by rw [List.length_map]; exact h3, h4, h5, h6, i1, by rw [List.length_map]; omega⟩
end
end Go.Proofs.Ytkcfhfplppdnnaa
