/- Ranks that were added to, one by one: plain laws. No program in sight. -/
import Derived.Test.YthofijhjbaaokaaRkInv
namespace Go.Proofs.Ythofijhjbaaokaa
open Go.RowKit

structure RkG (K : Int) (T : List Int) (L : List (List Int)) (N S : Int) (l : List Int) : Prop where
  k2 : 2 ≤ K
  k64 : K ≤ 64
  tk : (T.length : Int) < K
  st : T.Pairwise (· ≤ ·)
  row : ∀ i, (at_ L i).length = K.toNat ∨ at_ L i = []
  srt : ∀ i, (at_ L i).Pairwise (· ≤ ·)
  ln : L.length ≤ 25
  nN : N = l.length
  n : l.length = T.length + sumU φN L 64
  s : 2 * S = (sumU φS L 64 : Nat)
  w1 : ∀ x, cnt T x + sumU (φW x) L 64 ≤ cnt l x
  w2 : ∀ x, (cnt l x : Int) ≤ (cnt T x + sumU (φW x) L 64 : Nat) + S
  memT : ∀ a ∈ T, a ∈ l
  memL : ∀ i a, a ∈ at_ L i → a ∈ l
  last : ∀ i, i + 1 = L.length → at_ L i ≠ []
theorem sumU_zero {φ : Nat → List Int → Nat} (h0 : ∀ k, φ k [] = 0) (M : Nat) : sumU φ [] M = 0 := by
  induction M with
  | zero => rfl
  | succ M ih => rw [sumU, ih]; show 0 + φ M [] = 0; rw [h0]
theorem rkG_nil {K : Int} (h2 : 2 ≤ K) (h64 : K ≤ 64) : RkG K [] [] 0 0 [] := by
  have e := fun x => sumU_zero (φW_nil x) 64
  have eN := sumU_zero φN_nil 64
  have eS := sumU_zero φS_nil 64
  have e0 : ∀ i, at_ ([] : List (List Int)) i = [] := fun i => at_beyond (Nat.zero_le i)
  refine ⟨h2, h64, by simp; omega, .nil, fun i => .inr (e0 i), fun i => by rw [e0]; exact .nil, Nat.zero_le _, rfl, by rw [eN]; rfl, by rw [eS]; rfl, fun x => by rw [e]; exact Nat.le_refl _, fun x => by rw [e]; simp [cnt], (fun a h => by cases h), (fun i a h => by rw [e0] at h; cases h), (fun i hi => by simp at hi)⟩
theorem addR_good {K : Int} {T : List Int} {L : List (List Int)} {N S v : Int} {l : List Int} (h : RkG K T L N S l) (hL : L.length ≤ 20) {T' : List Int} {L' : List (List Int)} {S' : Int} (ha : AddR K T L S v T' L' S') : RkG K T' L' (N + 1) S' (l ++ [v]) ∧ L'.length ≤ L.length + 1 := by
  have hcl : ∀ x, cnt (l ++ [v]) x = cnt l x + cnt [v] x := fun x => cnt_app _ _ _
  have hcs : ∀ x, cnt (sortI (v :: T)) x = cnt [v] x + cnt T x := fun x => by
    rw [cnt_perm (sortI_perm _), show v :: T = [v] ++ T from rfl, cnt_app]
  have hsl : (sortI (v :: T)).length = T.length + 1 := by rw [sortI_len]; rfl
  have hsm : ∀ a ∈ sortI (v :: T), a ∈ l ++ [v] := fun a ha => by
    rcases List.mem_cons.1 ((sortI_perm _).mem_iff.1 ha) with rfl | h1
    · simp
    · exact List.mem_append_left _ (h.memT a h1)
  have hk2 := h.k2
  have hk64 := h.k64
  have htk := h.tk
  rcases ha with ⟨h1, rfl, rfl, rfl⟩ | ⟨h1, rfl, hc⟩
  · refine ⟨⟨hk2, hk64, by rw [hsl]; omega, sortI_le _, h.row, h.srt, h.ln, by rw [h.nN]; simp, by have := h.n; simp only [List.length_append, List.length_cons, List.length_nil, hsl]; omega, h.s, fun x => ?_, fun x => ?_, hsm, fun i a ha => List.mem_append_left _ (h.memL i a ha), h.last⟩, by omega⟩
    · have := h.w1 x; rw [hcl, hcs]; omega
    · have := h.w2 x; rw [hcl, hcs]; omega
  · have F := carry_inv (Nat.le_refl 64) hc (kk := K.toNat) (by omega) (by rw [hsl]; omega) (sortI_le _) h.row h.srt (by omega) (by omega)
    have hf := F.len
    have fn := F.n
    have fs := F.s
    rw [Nat.pow_zero, Nat.mul_one] at fn
    rw [Nat.zero_mul] at fs
    have fw1 := F.w1
    have fw2 := F.w2
    simp only [Nat.pow_zero, Nat.mul_one, hcs] at fw1 fw2
    have e0 : ∀ x, cnt [] x = 0 := fun x => rfl
    refine ⟨⟨hk2, hk64, by simp; omega, .nil, F.row, F.srt, by omega, by rw [h.nN]; simp, by have := h.n; simp only [List.length_append, List.length_cons, List.length_nil]; omega, by have := h.s; omega, fun x => ?_, fun x => ?_, (fun a h => by cases h), fun i a ha => ?_, F.last (fun i hi _ => h.last i hi)⟩, by omega⟩
    · have := h.w1 x; have := fw1 x; rw [hcl, e0]; omega
    · have := h.w2 x; have := fw2 x; rw [hcl, e0]; omega
    · rcases F.mem i a ha with h2 | ⟨i', h2⟩
      · exact hsm a h2
      · exact List.mem_append_left _ (h.memL i' a h2)
theorem sumU_ge {φ : Nat → List Int → Nat} {L : List (List Int)} {i : Nat} : ∀ {M : Nat}, i < M → φ i (at_ L i) ≤ sumU φ L M
  | M + 1, h => by
    rw [sumU]
    rcases Nat.lt_or_ge i M with g | g
    · have := sumU_ge (φ := φ) (L := L) g; omega
    · obtain rfl : i = M := by omega
      omega
theorem RkG.many {K : Int} {T : List Int} {L : List (List Int)} {N S : Int} {l : List Int} (h : RkG K T L N S l) (hL : 20 < L.length) : 1000 < l.length := by
  have h1 := h.last (L.length - 1) (by omega)
  have h2 : (at_ L (L.length - 1)).length = K.toNat := by
    rcases h.row (L.length - 1) with h2 | h2
    · exact h2
    · exact absurd h2 h1
  have h3 := sumU_ge (φ := φN) (L := L) (i := L.length - 1) (M := 64) (by have := h.ln; omega)
  rw [φN_len h2] at h3
  have h4 : 2 ^ 20 ≤ 2 ^ (L.length - 1) := Nat.pow_le_pow_right (by decide) (by omega)
  have h5 : 1 * 2 ^ (L.length - 1) ≤ K.toNat * 2 ^ (L.length - 1) := Nat.mul_le_mul_right _ (by have := h.k2; omega)
  have h6 : 2 ^ 20 = 1048576 := by decide
  have := h.n
  omega
theorem sumS_le (L : List (List Int)) {M : Nat} (hM : M ≤ 64) : ∀ {k : Nat}, k ≤ M → sumU φS L k ≤ 64 * 2 ^ k
  | 0, _ => by rw [sumU]; omega
  | k + 1, h => by
    have h1 := sumS_le L hM (k := k) (by omega)
    have h2 : φS k (at_ L k) ≤ 64 * 2 ^ k := by
      unfold φS
      split
      · omega
      · exact Nat.mul_le_mul_right _ (by omega)
    rw [sumU, Nat.pow_succ]
    omega
theorem RkG.slack {K : Int} {T : List Int} {L : List (List Int)} {N S : Int} {l : List Int} (h : RkG K T L N S l) : 0 ≤ S ∧ S ≤ 1152921504606846976 := by
  have h1 := h.s
  have h2 := sumU_more φS_nil (L := L) (M := 64) (by have := h.ln; omega)
  have h3 := sumS_le L (Nat.le_refl 64) (k := L.length) (by have := h.ln; omega)
  have h4 : 2 ^ L.length ≤ 2 ^ 25 := Nat.pow_le_pow_right (by decide) h.ln
  have h5 : 2 ^ 25 = 33554432 := by decide
  omega
theorem RkG.nle {K : Int} {T : List Int} {L : List (List Int)} {N S : Int} {l : List Int} (h : RkG K T L N S l) : 0 ≤ N ∧ N ≤ 1000000000 * 1000 := by
  have hs : ∀ k, k ≤ 25 → sumU φN L k ≤ 64 * 2 ^ k := by
    intro k
    induction k with
    | zero => intro _; rw [sumU]; omega
    | succ k ih =>
      intro hk
      have h1 := ih (by omega)
      have h2 : φN k (at_ L k) ≤ 64 * 2 ^ k := by
        unfold φN
        refine Nat.mul_le_mul_right _ ?_
        have := h.k64
        rcases h.row k with h3 | h3
        · omega
        · rw [h3]; simp
      rw [sumU, Nat.pow_succ]; omega
  have h2 := sumU_more φN_nil (L := L) (M := 64) (by have := h.ln; omega)
  have h3 := hs L.length h.ln
  have h4 : 2 ^ L.length ≤ 2 ^ 25 := Nat.pow_le_pow_right (by decide) h.ln
  have h5 : 2 ^ 25 = 33554432 := by decide
  have := h.n
  have := h.nN
  have := h.tk
  have := h.k64
  omega
theorem srt_of {l : List Int} (h : l.Pairwise (· ≤ ·)) : srt l = true := srt_true.2 (fun q hq => by
  rw [at_eq hq, at_eq (show q < l.length by omega)]
  exact List.pairwise_iff_getElem.1 h q (q + 1) (by omega) hq (by omega))
theorem RkG.chk {K : Int} {T : List Int} {L : List (List Int)} {N S : Int} {l : List Int} (h : RkG K T L N S l) (hL : L.length ≤ 20) : chkK K T L N S = 0 := by
  obtain ⟨hs0, hs1⟩ := h.slack
  have h0 : ok0 K T L S = true := by
    unfold ok0
    simp only [Bool.and_eq_true, decide_eq_true_eq]
    exact ⟨h.k2, h.k64, h.tk, by omega, srt_of h.st, hs0, hs1⟩
  have hrow : ∀ k, k < L.length → lvOk K L.length k (at_ L k) = true := fun k hk => by
    unfold lvOk
    simp only [Bool.and_eq_true, Bool.or_eq_true, decide_eq_true_eq]
    refine ⟨?_, srt_of (h.srt k)⟩
    have := h.k2
    rcases h.row k with h1 | h1
    · exact .inl (by omega)
    · right
      refine ⟨by rw [h1]; rfl, ?_⟩
      rcases Nat.lt_or_ge (k + 1) L.length with g | g
      · omega
      · exact absurd h1 (h.last k (by omega))
  have hall : ∀ m, m ≤ L.length → rkOk K L true m = true := by
    intro m
    induction m with
    | zero => intro _; rfl
    | succ m ih => intro hm; rw [rkOk, ih (by omega), hrow m (by omega)]; rfl
  have hrl : ∀ k, k < L.length → ((at_ L k).length : Int) = K ∨ (at_ L k).length = 0 := fun k hk => by
    have := h.k2
    rcases h.row k with h1 | h1
    · exact .inl (by omega)
    · exact .inr (by rw [h1]; rfl)
  have h64 : ∀ k, (at_ L k).length ≤ 64 := fun k => by
    have := h.k64
    rcases h.row k with h1 | h1
    · omega
    · rw [h1]; simp
  have hT64 : T.length ≤ 64 := by have := h.tk; have := h.k64; omega
  have hn : rkN K L T.length L.length = N := by
    rw [rkN_eq (x := topI (allR T L)) (by have := h.k2; omega) hT64 (fun a ha => topI_ge (mem_allR_t ha)) (fun k hk a ha => topI_ge (mem_allR_lv hk ha)) hrl (Nat.le_refl _), wsum_eq hT64 h64 hL]
    have hw : ∀ k, k ≤ L.length → wN T L (topI (allR T L)) k = T.length + sumU φN L k := by
      intro k
      induction k with
      | zero => intro _; rw [wN, sumU, lead_all (fun a ha => topI_ge (mem_allR_t ha))]; omega
      | succ k ih =>
        intro hk
        rw [wN, sumU, ih (by omega), lead_all (fun a ha => topI_ge (mem_allR_lv (show k < L.length by omega) ha))]
        show _ = T.length + (sumU φN L k + (at_ L k).length * 2 ^ k)
        omega
    rw [hw _ (Nat.le_refl _), h.nN, h.n, ← sumU_more φN_nil (L := L) (M := 64) (by omega)]
  unfold chkK
  rw [h0, hall _ (Nat.le_refl _), if_pos ⟨rfl, hn⟩]
/-- what Weight tells -/
theorem RkG.weight {K : Int} {T : List Int} {L : List (List Int)} {N S : Int} {l : List Int} (h : RkG K T L N S l) (hL : L.length ≤ 20) (x : Int) : wsum T L x L.length ≤ (cnt l x : Nat) ∧ ((cnt l x : Nat) : Int) ≤ wsum T L x L.length + S := by
  have h64 : ∀ k, (at_ L k).length ≤ 64 := fun k => by
    have := h.k64
    rcases h.row k with h1 | h1
    · omega
    · rw [h1]; simp
  have hT64 : T.length ≤ 64 := by have := h.tk; have := h.k64; omega
  have hw : ∀ k, wN T L x k = cnt T x + sumU (φW x) L k := by
    intro k
    induction k with
    | zero => rw [wN, sumU, lead_cnt h.st]; omega
    | succ k ih => rw [wN, sumU, ih, lead_cnt (h.srt k), φW_eq]; omega
  rw [wsum_eq hT64 h64 hL, hw, ← sumU_more (φW_nil x) (L := L) (M := 64) (by omega)]
  have h1 := h.w1 x
  have h2 := h.w2 x
  omega
theorem RkG.levels {K : Int} {T : List Int} {L : List (List Int)} {N S : Int} {l : List Int} (h : RkG K T L N S l) : 2 * K * S ≤ N * ((L.length - 1 : Nat) : Int) := by
  have hk2 := h.k2
  have hs : ∀ k, k ≤ L.length → K.toNat * sumU φS L k ≤ sumU φN L k * (L.length - 1) := by
    intro k
    induction k with
    | zero => intro _; rw [sumU, sumU]; omega
    | succ k ih =>
      intro hk
      have h1 := ih (by omega)
      rw [sumU, sumU, Nat.mul_add, Nat.add_mul]
      refine Nat.add_le_add h1 ?_
      rcases h.row k with h3 | h3
      · rw [φN_len h3, φS_len h3 (by omega), Nat.mul_comm k, ← Nat.mul_assoc]
        exact Nat.mul_le_mul_left _ (by omega)
      · rw [h3, φN_nil, φS_nil]; simp
  have h1 := hs _ (Nat.le_refl _)
  rw [← sumU_more φN_nil (L := L) (M := 64) (by have := h.ln; omega), ← sumU_more φS_nil (L := L) (M := 64) (by have := h.ln; omega)] at h1
  have h2 : sumU φN L 64 * (L.length - 1) ≤ l.length * (L.length - 1) := Nat.mul_le_mul_right _ (by have := h.n; omega)
  have e1 : 2 * K * S = ((K.toNat * sumU φS L 64 : Nat) : Int) := by
    rw [Int.natCast_mul, ← h.s, Int.toNat_of_nonneg (by omega), Int.mul_comm 2 K, Int.mul_assoc]
  rw [e1, h.nN, ← Int.natCast_mul]
  omega
theorem RkG.few {K : Int} {T : List Int} {L : List (List Int)} {N S : Int} {l : List Int} (h : RkG K T L N S l) (hl : (l.length : Int) < K) : S = 0 ∧ L.length = 0 := by
  have h0 : L.length = 0 := by
    rcases Nat.eq_zero_or_pos L.length with g | g
    · exact g
    · exfalso
      have h1 := h.last (L.length - 1) (by omega)
      have h2 : (at_ L (L.length - 1)).length = K.toNat := by
        rcases h.row (L.length - 1) with h2 | h2
        · exact h2
        · exact absurd h2 h1
      have h3 := sumU_ge (φ := φN) (L := L) (i := L.length - 1) (M := 64) (by have := h.ln; omega)
      rw [φN_len h2] at h3
      have h5 : K.toNat * 1 ≤ K.toNat * 2 ^ (L.length - 1) := Nat.mul_le_mul_left _ (Nat.pow_pos (by decide))
      have := h.n
      have := h.k2
      omega
  refine ⟨?_, h0⟩
  have := h.s
  have h2 := sumU_more φS_nil (L := L) (M := 64) (by have := h.ln; omega)
  rw [h0, sumU] at h2
  omega
/-- the law of Query -/
theorem RkG.query {K : Int} {T : List Int} {L : List (List Int)} {N S : Int} {l : List Int} (h : RkG K T L N S l) (hL : L.length ≤ 20) {r a : Int} (h1 : 1 ≤ r) (hq : a ∈ allR T L ∧ AtRank T L r a) : a ∈ l ∧ r ≤ (cnt l a : Nat) ∧ ((cnt l (a - 1) : Nat) : Int) < r + S := by
  have hall : ∀ b ∈ allR T L, b ∈ l := fun b hb => by
    unfold allR at hb
    rcases List.mem_append.1 hb with hb | hb
    · obtain ⟨row, hr, hb⟩ := List.mem_flatten.1 hb
      obtain ⟨i, hi, rfl⟩ := List.getElem_of_mem hr
      rw [← at_eq hi] at hb
      exact h.memL i b hb
    · exact h.memT b hb
  obtain ⟨ha, ha1, ha2⟩ := hq
  refine ⟨hall a ha, by have := (h.weight hL a).1; omega, ?_⟩
  have hw := (h.weight hL (a - 1)).2
  have hlt : wsum T L (a - 1) L.length < r := by
    rcases Int.lt_or_le (wsum T L (a - 1) L.length) r with g | g
    · exact g
    · exfalso
      have hf := RkF.of (h.chk hL)
      -- those that are less than a
      obtain ⟨M, hM⟩ : ∃ M, (allR T L).filter (fun b => decide (b ≤ a - 1)) = M := ⟨_, rfl⟩
      have hMm : ∀ b, b ∈ M ↔ b ∈ allR T L ∧ b ≤ a - 1 := fun b => by rw [← hM, List.mem_filter]; simp
      have same : ∀ (row : List Int) (y : Int), y ≤ a - 1 → (∀ b ∈ row, b ∈ allR T L) → (∀ b ∈ M, b ≤ y) → lead row y = lead row (a - 1) := by
        intro row y hy hrow hMy
        induction row with
        | nil => rfl
        | cons b row ih =>
          rw [lead, lead, ih (fun b hb => hrow b (by simp [hb]))]
          by_cases hb : b ≤ a - 1
          · have := hMy b ((hMm b).2 ⟨hrow b (by simp), hb⟩)
            rw [if_pos hb, if_pos this]
          · rw [if_neg hb, if_neg (by omega)]
      have samew : ∀ y, y ≤ a - 1 → (∀ b ∈ M, b ≤ y) → wsum T L y L.length = wsum T L (a - 1) L.length := fun y hy hMy => by
        rw [hf.w, hf.w]
        have : ∀ k, k ≤ L.length → wN T L y k = wN T L (a - 1) k := by
          intro k
          induction k with
          | zero => intro _; rw [wN, wN, same T y hy (fun b hb => mem_allR_t hb) hMy]
          | succ k ih => intro hk; rw [wN, wN, ih (by omega), same (at_ L k) y hy (fun b hb => mem_allR_lv (by omega) hb) hMy]
        rw [this _ (Nat.le_refl _)]
      by_cases h0 : M = []
      · have hz : wsum T L (a - 1) L.length = 0 := by
          rw [hf.w]
          have nz : ∀ row : List Int, (∀ b ∈ row, b ∈ allR T L) → lead row (a - 1) = 0 := fun row hrow => by
            cases row with
            | nil => rfl
            | cons b row =>
              rw [lead, if_neg (fun hb => by have := (hMm b).2 ⟨hrow b (by simp), hb⟩; rw [h0] at this; cases this)]
          have : ∀ k, k ≤ L.length → wN T L (a - 1) k = 0 := by
            intro k
            induction k with
            | zero => intro _; rw [wN, nz T (fun b hb => mem_allR_t hb)]
            | succ k ih => intro hk; rw [wN, ih (by omega), nz (at_ L k) (fun b hb => mem_allR_lv (by omega) hb)]; simp
          rw [this _ (Nat.le_refl _)]; rfl
        omega
      · have hin : ∀ l : List Int, l ≠ [] → topI l ∈ l := fun l => by
          induction l with
          | nil => intro h; exact absurd rfl h
          | cons b l ih =>
            intro _
            cases l with
            | nil => simp [topI]
            | cons c l =>
              rw [topI]
              · rcases (show max b (topI (c :: l)) = b ∨ max b (topI (c :: l)) = topI (c :: l) by omega) with e | e
                · rw [e]; simp
                · rw [e]; exact List.mem_cons_of_mem _ (ih (by simp))
              · simp
        have ht := (hMm _).1 (hin M h0)
        have := samew (topI M) ht.2 (fun b hb => topI_ge hb)
        have := ha2 _ ht.1 (by omega)
        omega
  omega
end Go.Proofs.Ythofijhjbaaokaa
