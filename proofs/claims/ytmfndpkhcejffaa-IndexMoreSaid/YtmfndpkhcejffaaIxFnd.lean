/- What Find of an index tells: plain. Conditions: none beyond each theorem's own hypotheses. -/
import Derived.Test.YtmfndpkhcejffaaIxNew
import Derived.Test.YtmfndpkhcejffaaIxLaw
namespace Go.Proofs.Ytmfndpkhcejffaa
open Go.RowKit

/-- the numbers of those that fit all -/
def fndI (L : List (List Lab)) (M : List Mt) : List Int := (upTo L.length).filter fun i => M.all (fitL (at_ L i.toNat))
/-- what Find tells -/
def findN (L : List (List Lab)) (M : List Mt) : List Int × Int := if chkM M ≠ 0 then ([], chkM M) else (fndI L M, 0)
theorem fndI_nil (L : List (List Lab)) : fndI L [] = noneI L.length (setI []) := by
  unfold fndI noneI
  refine List.filter_congr fun x _ => ?_
  have : x ∉ setI [] := fun h => by rw [setI_mem] at h; cases h
  simp [this]
theorem fndI_snoc (L : List (List Lab)) (M : List Mt) (y : Mt) : fndI L (M ++ [y]) = (fndI L M).filter fun i => fitL (at_ L i.toNat) y := by
  unfold fndI
  rw [List.filter_filter]
  refine List.filter_congr fun x _ => ?_
  rw [List.all_append, Bool.and_comm]
  simp
theorem fndI_up (L : List (List Lab)) (M : List Mt) : UpI (fndI L M) := List.Pairwise.filter _ (upTo_up _)
theorem fndI_mem {L : List (List Lab)} {M : List Mt} {x : Int} : x ∈ fndI L M ↔ (0 ≤ x ∧ x < L.length) ∧ ∀ y ∈ M, fitL (at_ L x.toNat) y = true := by
  unfold fndI
  rw [List.mem_filter, upTo_mem, List.all_eq_true]
theorem fndI_len (L : List (List Lab)) (M : List Mt) : (fndI L M).length ≤ L.length := by
  unfold fndI
  have h1 := List.length_filter_le (fun i : Int => M.all (fitL (at_ L i.toNat))) (upTo L.length)
  have h2 : (upTo L.length).length = L.length := by unfold upTo; simp
  omega
theorem addDs_at (s : List Lab) (i : Int) (z : Lab) (x : Int) : ∀ D : List (Lab × List Int), x ∈ atD (addDs D s i) z ↔ x ∈ atD D z ∨ (z ∈ s ∧ x = i) := by
  unfold addDs
  induction s with
  | nil => intro D; simp
  | cons y s ih =>
    intro D
    rw [List.foldl_cons, ih, atD_addD]
    by_cases h : y = z
    · subst h
      rw [if_pos rfl, List.mem_append, List.mem_singleton, List.mem_cons]
      constructor
      · rintro ((h1 | h1) | ⟨h1, h2⟩)
        · exact .inl h1
        · exact .inr ⟨.inl rfl, h1⟩
        · exact .inr ⟨.inr h1, h2⟩
      · rintro (h1 | ⟨_, h2⟩)
        · exact .inl (.inl h1)
        · exact .inl (.inr h2)
    · rw [if_neg h, List.mem_cons]
      constructor
      · rintro (h1 | ⟨h1, h2⟩)
        · exact .inl h1
        · exact .inr ⟨.inr h1, h2⟩
      · rintro (h1 | ⟨h1 | h1, h2⟩)
        · exact .inl h1
        · exact absurd h1.symm h
        · exact .inr ⟨h1, h2⟩
theorem ixD_at (z : Lab) (x : Int) : ∀ (L : List (List Lab)) (i : Nat) (D : List (Lab × List Int)), x ∈ atD (ixD L i D) z ↔ x ∈ atD D z ∨ ∃ k, k < L.length ∧ z ∈ at_ L k ∧ x = ((i + k : Nat) : Int)
  | [], i, D => by simp [ixD]
  | l :: L, i, D => by
    rw [ixD, show (i : Int) + 1 = ((i + 1 : Nat) : Int) by omega, ixD_at z x L (i + 1), addDs_at]
    constructor
    · rintro ((h | ⟨h1, h2⟩) | ⟨k, h1, h2, h3⟩)
      · exact .inl h
      · exact .inr ⟨0, by simp, h1, by simpa using h2⟩
      · exact .inr ⟨k + 1, by simpa using h1, h2, by rw [h3]; omega⟩
    · rintro (h | ⟨k, h1, h2, h3⟩)
      · exact .inl (.inl h)
      · cases k with
        | zero => exact .inl (.inr ⟨h2, by simpa using h3⟩)
        | succ k => exact .inr ⟨k, by simpa using h1, h2, by rw [h3]; omega⟩
theorem val_mem {l : List Lab} {a v : ByteArray} (h : chkL l = 0) (hv : v ≠ noS) : ⟨a, v⟩ ∈ l ↔ valL l a = v := by
  have hp : l.Pairwise (fun x y => nlt x.nm y.nm) := List.pairwise_map.1 (chkL_iff.1 h).2.2
  clear h
  induction l with
  | nil => simp [valL]; exact fun e => hv e.symm
  | cons x l ih =>
    rw [List.pairwise_cons] at hp
    rw [valL, List.mem_cons]
    by_cases hx : x.nm = a
    · rw [if_pos hx]
      constructor
      · rintro (h | h)
        · rw [← h]
        · have := hp.1 _ h
          rw [hx] at this
          exact absurd this (nlt_irrefl _)
      · intro h
        refine .inl ?_
        rw [← hx, ← h]
    · rw [if_neg hx]
      have h2 := ih hp.2
      constructor
      · rintro (h | h)
        · rw [← h] at hx; exact absurd rfl hx
        · exact h2.1 h
      · exact fun h => .inr (h2.2 h)
/-- a look-up in the map, and And -/
theorem fndI_and {L : List (List Lab)} (hL : ∀ l ∈ L, chkL l = 0) (M : List Mt) (y : Mt) (hk : y.k = 1) (hv : y.v ≠ noS) : andI (fndI L M) (atD (ixD L 0 []) ⟨y.nm, y.v⟩) = fndI L (M ++ [y]) := by
  refine up_ext (andI_up _ _) (fndI_up _ _) fun x => ?_
  rw [andI_mem, fndI_snoc, List.mem_filter, show (0 : Int) = ((0 : Nat) : Int) from rfl, ixD_at, fndI_mem]
  have hfit : ∀ l : List Lab, fitL l y = true ↔ valL l y.nm = y.v := fun l => by unfold fitL; rw [if_pos hk, decide_eq_true_iff]
  rw [hfit]
  constructor
  · rintro ⟨h1, h2 | ⟨k, h2, h3, h4⟩⟩
    · simp [atD] at h2
    · refine ⟨h1, ?_⟩
      have : x.toNat = k := by omega
      rw [this]
      exact (val_mem (hL _ (at_mem h2)) hv).1 h3
  · rintro ⟨h1, h2⟩
    have hlt : x.toNat < L.length := by omega
    exact ⟨h1, .inr ⟨x.toNat, hlt, (val_mem (hL _ (at_mem hlt)) hv).2 h2, by omega⟩⟩
end Go.Proofs.Ytmfndpkhcejffaa
