/- What stands at a rank: plain laws. No program in sight. -/
import Derived.Test.YthofijhjbaaokaaWeight
import Derived.Test.YthofijhjbaaokaaSrtLaw
namespace Go.Proofs.Ythofijhjbaaokaa
open Go.RowKit

theorem at_beyond {α : Type} [Inhabited α] {l : List α} {k : Nat} (h : l.length ≤ k) : at_ l k = default := by simp [at_, List.getD, List.getElem?_eq_none h]
/-- all that a rank keeps -/
def allR (T : List Int) (L : List (List Int)) : List Int := L.flatten ++ T
def topI : List Int → Int
  | [] => 0
  | [a] => a
  | a :: l => max a (topI l)
theorem topI_ge {l : List Int} {a : Int} (h : a ∈ l) : a ≤ topI l := by
  induction l with
  | nil => simp at h
  | cons b l ih =>
    cases l with
    | nil => simp at h; subst h; exact Int.le_refl _
    | cons c l =>
      rw [topI]
      rcases List.mem_cons.1 h with rfl | h
      · omega
      · have := ih h; omega
      · simp
theorem mem_allR_lv {T : List Int} {L : List (List Int)} {k : Nat} (hk : k < L.length) {a : Int} (h : a ∈ at_ L k) : a ∈ allR T L := by
  unfold allR
  exact List.mem_append_left _ (List.mem_flatten.2 ⟨_, at_mem hk, h⟩)
theorem mem_allR_t {T : List Int} {L : List (List Int)} {a : Int} (h : a ∈ T) : a ∈ allR T L := List.mem_append_right _ h

structure RkF (K : Int) (T : List Int) (L : List (List Int)) (N : Int) : Prop where
  k2 : 2 ≤ K
  k64 : K ≤ 64
  tk : (T.length : Int) < K
  l20 : L.length ≤ 20
  lv : ∀ k, k < L.length → ((at_ L k).length : Int) = K ∨ (at_ L k).length = 0
  n : rkN K L T.length L.length = N
theorem RkF.of {K : Int} {T : List Int} {L : List (List Int)} {N S : Int} (h : chkK K T L N S = 0) : RkF K T L N := by
  have h1 : rkOk K L (ok0 K T L S) L.length = true ∧ rkN K L T.length L.length = N := by
    unfold chkK at h
    split at h
    · assumption
    · simp at h
  obtain ⟨h2, h3⟩ := rkOk_all h1.1
  obtain ⟨k1, k2, k3, k4⟩ := ok0_facts h2
  exact ⟨k1, k2, k3, by omega, fun k hk => lvOk_len (h3 k hk), h1.2⟩
section
variable {K : Int} {T : List Int} {L : List (List Int)} {N : Int}
theorem RkF.t64 (h : RkF K T L N) : T.length ≤ 64 := by have := h.k64; have := h.tk; omega
theorem RkF.l64 (h : RkF K T L N) (k : Nat) : (at_ L k).length ≤ 64 := by
  have := h.k64; have := h.k2
  rcases Nat.lt_or_ge k L.length with hk | hk
  · have := h.lv k hk; omega
  · rw [at_beyond hk]; exact Nat.zero_le 64
theorem RkF.w (h : RkF K T L N) (x : Int) : wsum T L x L.length = (wN T L x L.length : Nat) := wsum_eq h.t64 h.l64 h.l20
theorem RkF.top (h : RkF K T L N) {x : Int} (hx : ∀ a ∈ allR T L, a ≤ x) : wsum T L x L.length = N := by
  rw [← h.n]
  exact (rkN_eq (by have := h.k2; omega) h.t64 (fun a ha => hx a (mem_allR_t ha)) (fun k hk a ha => hx a (mem_allR_lv hk ha)) h.lv (Nat.le_refl _)).symm
theorem RkF.le (h : RkF K T L N) (x : Int) : wsum T L x L.length ≤ N := by
  rw [← h.top (x := max x (topI (allR T L))) (fun a ha => by have := topI_ge ha; omega), h.w, h.w]
  exact Int.ofNat_le.2 (wN_mono (by omega) _)
theorem RkF.mono (h : RkF K T L N) {x y : Int} (hxy : x ≤ y) : wsum T L x L.length ≤ wsum T L y L.length := by
  rw [h.w, h.w]
  exact Int.ofNat_le.2 (wN_mono hxy _)
end
/-- the least that is kept of a weight that reaches r -/
def AtRank (T : List Int) (L : List (List Int)) (r a : Int) : Prop := r ≤ wsum T L a L.length ∧ ∀ b ∈ allR T L, r ≤ wsum T L b L.length → a ≤ b
/-- what Query answers -/
def QueryR (K : Int) (T : List Int) (L : List (List Int)) (N S r a E : Int) : Prop :=
  (E = 0 ∧ chkK K T L N S = 0 ∧ 1 ≤ r ∧ r ≤ N ∧ a ∈ allR T L ∧ AtRank T L r a) ∨ (E ≠ 0 ∧ -9223372036854775808 ≤ E ∧ E ≤ 9223372036854775807 ∧ a = 0 ∧ ¬ (chkK K T L N S = 0 ∧ 1 ≤ r ∧ r ≤ N))
/-- where the search ends -/
theorem rank_found {K : Int} {T : List Int} {L : List (List Int)} {N r : Int} (h : RkF K T L N) (h1 : 1 ≤ r) (h2 : r ≤ N) {U : List Int} (hU : U = sortI (allR T L)) {i : Nat} (hi : ∀ q, q < i → wsum T L (at_ U q) L.length < r) (hle : i ≤ U.length)
    (hend : ∀ q, i ≤ q → q < U.length → r ≤ wsum T L (at_ U q) L.length) : i < U.length ∧ at_ U i ∈ allR T L ∧ AtRank T L r (at_ U i) := by
  have hm : ∀ a, a ∈ U ↔ a ∈ allR T L := fun a => by rw [hU]; exact (sortI_perm _).mem_iff
  have hs : U.Pairwise (· ≤ ·) := by rw [hU]; exact sortI_le _
  have hlt : i < U.length := by
    rcases Nat.lt_or_ge i U.length with g | g
    · exact g
    · exfalso
      have all : ∀ a ∈ allR T L, wsum T L a L.length < r := fun a ha => by
        obtain ⟨q, hq, rfl⟩ := List.getElem_of_mem ((hm a).2 ha)
        rw [← at_eq hq]
        exact hi q (by omega)
      have h3 := h.top (x := topI (allR T L)) (fun a ha => topI_ge ha)
      by_cases h0 : allR T L = []
      · have hT : T = [] := (List.append_eq_nil_iff.1 h0).2
        have hL : ∀ k, k < L.length → at_ L k = [] := fun k hk => by
          have := (List.append_eq_nil_iff.1 h0).1
          rw [List.flatten_eq_nil_iff] at this
          exact this _ (at_mem hk)
        have hz : ∀ k, k ≤ L.length → wN T L (topI (allR T L)) k = 0 := by
          intro k
          induction k with
          | zero => intro _; rw [wN, hT]; rfl
          | succ k ih => intro hk; rw [wN, ih (by omega), hL k (by omega)]; simp [lead]
        rw [h.w, hz _ (Nat.le_refl _)] at h3
        omega
      · have hin : ∀ l : List Int, l ≠ [] → topI l ∈ l := fun l => by
          induction l with
          | nil => intro h; exact absurd rfl h
          | cons b l ih =>
            intro _
            cases l with
            | nil => simp [topI]
            | cons c l =>
              rw [topI]
              · rcases (show max b (topI (c :: l)) = b ∨ max b (topI (c :: l)) = topI (c :: l) by omega) with e | e
                · rw [e]; simp
                · rw [e]; exact List.mem_cons_of_mem _ (ih (by simp))
              · simp
        have := all _ (hin _ h0)
        omega
  refine ⟨hlt, (hm _).1 (at_mem hlt), hend i (Nat.le_refl _) hlt, fun b hb hw => ?_⟩
  obtain ⟨q, hq, rfl⟩ := List.getElem_of_mem ((hm b).2 hb)
  rw [← at_eq hq] at hw ⊢
  rcases Nat.lt_trichotomy q i with g | g | g
  · have := hi q g; omega
  · subst g; exact Int.le_refl _
  · rw [at_eq hlt, at_eq hq]
    exact List.pairwise_iff_getElem.1 hs i q hlt hq g
/-- the law -/
theorem rank_order {K : Int} {T : List Int} {L : List (List Int)} {N S r q a b c : Int} (h : chkK K T L N S = 0) (ha : a ∈ allR T L ∧ AtRank T L r a) (hb : b ∈ allR T L ∧ AtRank T L q b) (hc : c ∈ allR T L ∧ AtRank T L N c) (hr : r ≤ N) :
    wsum T L c L.length = N ∧ (r ≤ q → a ≤ b) ∧ a ≤ c := by
  have hf := RkF.of h
  obtain ⟨_, ha1, ha2⟩ := ha
  obtain ⟨hb0, hb1, _⟩ := hb
  obtain ⟨hc0, hc1, _⟩ := hc
  have := hf.le c
  exact ⟨by omega, fun hrq => ha2 b hb0 (by omega), ha2 c hc0 (by omega)⟩
end Go.Proofs.Ythofijhjbaaokaa
