/- Rows of rows of bytes. Conditions: none beyond each theorem's own hypotheses. -/
import Derived.Test.YtkcfhfplppdnnaaKit
namespace Go.Proofs.Ytkcfhfplppdnnaa
open Go.RowKit

/-- rows of bytes, each in cells of its own -/
def RecAt (w : World) (v : Value) (r : List Nat) : Prop := ∃ A c, v = .slice A r.length c ∧ r.length ≤ c ∧ c ≤ maxLen ∧ (A = none → c = 0) ∧ Has w w.heap.size A (u8s r)
inductive RecsAt (w : World) : List Value → List (List Nat) → Prop
  | nil : RecsAt w [] []
  | cons {v : Value} {r : List Nat} {vs : List Value} {rs : List (List Nat)} : RecAt w v r → RecsAt w vs rs → RecsAt w (v :: vs) (r :: rs)
theorem RecAt.next {w w' : World} {v : Value} {r : List Nat} (h : RecAt w v r) (hb : Below w.heap.size w w') : RecAt w' v r := by
  obtain ⟨A, c, e, h1, h2, h3, h4⟩ := h
  exact ⟨A, c, e, h1, h2, h3, h4.next hb⟩
theorem RecsAt.next {w w' : World} {vs : List Value} {rs : List (List Nat)} (h : RecsAt w vs rs) (hb : Below w.heap.size w w') : RecsAt w' vs rs := by
  induction h with
  | nil => exact .nil
  | cons h1 _ ih => exact .cons (h1.next hb) ih
theorem RecsAt.len {w : World} {vs : List Value} {rs : List (List Nat)} (h : RecsAt w vs rs) : vs.length = rs.length := by
  induction h with
  | nil => rfl
  | cons _ _ ih => rw [List.length_cons, List.length_cons, ih]
theorem RecsAt.snoc {w : World} {vs : List Value} {rs : List (List Nat)} {v : Value} {r : List Nat} (h : RecsAt w vs rs) (h' : RecAt w v r) : RecsAt w (vs ++ [v]) (rs ++ [r]) := by
  induction h with
  | nil => exact .cons h' .nil
  | cons h1 _ ih => exact .cons h1 ih
theorem RecsAt.one {w : World} {vs : List Value} {rs : List (List Nat)} (h : RecsAt w vs rs) : ∀ u ∈ vs, u.oneCell' = true := by
  induction h with
  | nil => simp
  | cons h1 _ ih =>
    obtain ⟨A, c, rfl, _⟩ := h1
    intro u hu
    rcases List.mem_cons.1 hu with rfl | hu
    · rfl
    · exact ih u hu
theorem RecsAt.get {w : World} {vs : List Value} {rs : List (List Nat)} (h : RecsAt w vs rs) : ∀ {k : Nat}, k < rs.length → ∃ v, vs[k]? = some v ∧ RecAt w v (at_ rs k) := by
  induction h with
  | nil => intro k hk; simp at hk
  | @cons v r vs rs h1 _ ih =>
    intro k hk
    cases k with
    | zero => exact ⟨v, rfl, h1⟩
    | succ k =>
      obtain ⟨u, e, h2⟩ := ih (k := k) (by simpa using hk)
      exact ⟨u, by simpa using e, by rw [at_eq (by simpa using hk)] at h2; rw [at_eq hk]; exact h2⟩
end Go.Proofs.Ytkcfhfplppdnnaa
