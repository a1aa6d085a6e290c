/- What comes in, opened: a slice of slices of bytes. Conditions: none beyond each theorem's own hypotheses. -/
import Derived.Test.YtkcfhfplppdnnaaOpen
import Derived.Test.YtkcfhfplppdnnaaRecs
namespace Go.Proofs.Ytkcfhfplppdnnaa
open Go.RowKit Go.ChangeShapes Go.WideShapes Go.Deep

abbrev RowE := Option Addr × Nat × List Nat
def rowV (x : RowE) : Value := .slice x.1 x.2.2.length x.2.1
def rowOk (w : World) (x : RowE) : Prop := Bytes x.2.2 ∧ x.2.2.length ≤ x.2.1 ∧ x.2.1 ≤ maxLen ∧ (x.1 = none → x.2.1 = 0) ∧ Has w w.heap.size x.1 (u8s x.2.2)
theorem recs_of {w : World} : ∀ {L : List RowE}, (∀ y ∈ L, rowOk w y) → RecsAt w (L.map rowV) (L.map (·.2.2)) ∧ (∀ r ∈ L.map (·.2.2), Bytes r)
  | [], _ => ⟨.nil, by simp⟩
  | x :: L, h => by
    obtain ⟨h1, h2, h3, h4, h5⟩ := h x (by simp)
    obtain ⟨i1, i2⟩ := recs_of (L := L) (fun y hy => h y (by simp [hy]))
    refine ⟨.cons ⟨x.1, x.2.1, rfl, h2, h3, h4, h5⟩ i1, ?_⟩
    intro r hr
    rcases List.mem_cons.1 hr with rfl | hr
    · exact h1
    · exact i2 r hr
theorem flat_rows (L : List RowE) : L.flatMap (fun x => [rowV x]) = L.map rowV := by
  induction L with
  | nil => rfl
  | cons x L ih => rw [List.flatMap_cons, ih]; rfl
section
variable {H : Type} {enc : TypeId × Value → H} {P : Program} {w : World} {base : Nat} {spare : Nat → Bool} {held : Bool}
theorem elem_row {t e : TypeId} (ht : P.underlying t = some (.slice e)) (he : P.underlying e = some (.int .u8)) (hC : P.cellsOf e = 1) :
    ∀ n cs x, cs.length = 1 → DataW.trod enc P w base spare held n t cs = some x → ∃ el : RowE, cs = [rowV el] ∧ rowOk w el := by
  intro n cs x _ h
  obtain ⟨A, c, l, h1, h2, h3, h4, h5, h6, _⟩ := open_cells (fun b => [u8v b]) (fun b : Nat => b < 256) ht hC (by omega) (fun _ => rfl) (elem_u8 he) h
  exact ⟨(A, c, l), h1, h2, h3, h4, h5, by rw [← flat_u8]; exact h6⟩
/-- [][]byte -/
theorem open_bytess {t e e2 : TypeId} (ht : P.underlying t = some (.slice e)) (he : P.underlying e = some (.slice e2)) (he2 : P.underlying e2 = some (.int .u8)) (hC : P.cellsOf e = 1) (hB : P.bytesOf e = 24) (hC2 : P.cellsOf e2 = 1)
    {r : Reach} {b0 : Nat} {v : Value} {d : DataW H} {p : List MemPlace} (hval : Value.okWide P w r b0 t v) (h : DataW.Trod enc P w base spare held t v d p) (hsz : ∀ n ∈ d.weights P t, n ≤ reachBytes) :
    ∃ (A : Option Addr) (c : Nat) (rs : List (List Nat)) (vs : List Value), v = .slice A rs.length c ∧ (∀ r ∈ rs, Bytes r) ∧ rs.length ≤ c ∧ c ≤ maxLen ∧ (A = none → c = 0) ∧ Has w w.heap.size A vs ∧ RecsAt w vs rs ∧ rs.length ≤ 5864062014634 := by
  obtain ⟨A, c, L, h1, h2, h3, h4, h5, h6, h7⟩ := open_list (fun x => [rowV x]) (rowOk w) ht hC hB (by omega) (fun _ => rfl) (elem_row he he2 hC2) hval h hsz
  obtain ⟨i1, i2⟩ := recs_of h2
  rw [flat_rows] at h6
  exact ⟨A, c, L.map (·.2.2), L.map rowV, by rw [List.length_map]; exact h1, i2, by rw [List.length_map]; exact h3, h4, h5, h6, i1, by rw [List.length_map]; omega⟩
end
end Go.Proofs.Ytkcfhfplppdnnaa
