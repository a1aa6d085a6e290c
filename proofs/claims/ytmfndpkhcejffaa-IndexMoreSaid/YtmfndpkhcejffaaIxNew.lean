/- index.New. Conditions: the rows lie in their cells. (NOT YET BUILT WHOLE.) -/
import Derived.Test.YtmfndpkhcejffaaIxClone
import Derived.Test.YtmfndpkhcejffaaOpenL
import Derived.Deep.RegionHeldLaw
namespace Go.Proofs.Ytmfndpkhcejffaa
open Go.RowKit Go.ChangeMaps

/-- the first error of some series' labels -/
def newE : List (List Lab) → Int
  | [] => 0
  | l :: L => if chkL l ≠ 0 then chkL l else newE L
/-- what New tells -/
def newN (L : List (List Lab)) : Int := if 200 < L.length then 2 else newE L
/-- the numbers of all labels of series, from the number i on -/
def ixD : List (List Lab) → Int → List (Lab × List Int) → List (Lab × List Int)
  | [], _, D => D
  | l :: L, i, D => ixD L (i + 1) (addDs D l i)
theorem addD_len (D : List (Lab × List Int)) (y : Lab) (i : Int) : (addD D y i).length ≤ D.length + 1 := by
  induction D with
  | nil => exact Nat.le_refl _
  | cons p D ih =>
    obtain ⟨k, l⟩ := p
    rw [addD]
    split
    · simp
    · simp only [List.length_cons]; omega
theorem addDs_len (s : List Lab) (i : Int) : ∀ D : List (Lab × List Int), (addDs D s i).length ≤ D.length + s.length := by
  unfold addDs
  induction s with
  | nil => intro D; simp
  | cons y s ih =>
    intro D
    have h1 := ih (addD D y i)
    have h2 := addD_len D y i
    simp only [List.foldl_cons, List.length_cons]
    omega
theorem newE_take {L : List (List Lab)} : ∀ {k : Nat} {e : Int}, (∀ j (h : j < L.length), j < k → chkL (L[j]'h) = 0) → (hk : k < L.length) → chkL (L[k]'hk) = e → e ≠ 0 → newE L = e := by
  induction L with
  | nil => intro k e _ hk; cases hk
  | cons l L ih =>
    intro k e h hk he hne
    rw [newE]
    cases k with
    | zero =>
      have : chkL l = e := he
      rw [if_pos (by rw [this]; exact hne), this]
    | succ k =>
      have h0 := h 0 (by simp) (by omega)
      have : chkL l = 0 := h0
      rw [if_neg (by rw [this]; simp)]
      have hk' : k < L.length := by simp only [List.length_cons] at hk; omega
      refine ih (k := k) (e := e) (fun j hj hjk => ?_) hk' (by simpa using he) hne
      ·
        have h2 : j + 1 < (l :: L).length := by simp only [List.length_cons]; omega
        have h3 := h (j + 1) h2 (by omega)
        simpa using h3
theorem newE_zero {L : List (List Lab)} (h : ∀ l ∈ L, chkL l = 0) : newE L = 0 := by
  induction L with
  | nil => rfl
  | cons l L ih =>
    rw [newE, if_neg (by rw [h l (by simp)]; simp)]
    exact ih (fun x hx => h x (by simp [hx]))
end Go.Proofs.Ytmfndpkhcejffaa
