/- Ranks that are merged: plain laws. No program in sight. -/
import Derived.Test.YthofijhjbaaokaaRkGood
namespace Go.Proofs.Ythofijhjbaaokaa
open Go.RowKit

/-- a rank while another one is taken into it: pS and pW are still to come -/
structure RkP (K : Int) (T : List Int) (L : List (List Int)) (N S : Int) (pS : Nat) (pW : Int → Nat) (l : List Int) : Prop where
  k2 : 2 ≤ K
  k64 : K ≤ 64
  tk : (T.length : Int) < K
  st : T.Pairwise (· ≤ ·)
  row : ∀ i, (at_ L i).length = K.toNat ∨ at_ L i = []
  srt : ∀ i, (at_ L i).Pairwise (· ≤ ·)
  ln : L.length ≤ 40
  n : N = (T.length + sumU φN L 64 : Nat)
  s : 2 * S = (sumU φS L 64 + pS : Nat)
  w1 : ∀ x, cnt T x + sumU (φW x) L 64 + pW x ≤ cnt l x
  w2 : ∀ x, (cnt l x : Int) ≤ (cnt T x + sumU (φW x) L 64 + pW x : Nat) + S
  memT : ∀ a ∈ T, a ∈ l
  memL : ∀ i a, a ∈ at_ L i → a ∈ l
  last : ∀ i, i + 1 = L.length → at_ L i ≠ []
/-- the levels are few where the numbers are -/
theorem RkP.few {K : Int} {T : List Int} {L : List (List Int)} {N S : Int} {pS : Nat} {pW : Int → Nat} {l : List Int} (h : RkP K T L N S pS pW l) (hN : N ≤ K * 2097152) : L.length ≤ 22 := by
  rcases Nat.lt_or_ge L.length 23 with g | g
  · omega
  · exfalso
    have h1 := h.last (L.length - 1) (by omega)
    have h2 : (at_ L (L.length - 1)).length = K.toNat := by
      rcases h.row (L.length - 1) with h2 | h2
      · exact h2
      · exact absurd h2 h1
    have h3 := sumU_ge (φ := φN) (L := L) (i := L.length - 1) (M := 64) (by have := h.ln; omega)
    rw [φN_len h2] at h3
    have h4 : K.toNat * 2 ^ 22 ≤ K.toNat * 2 ^ (L.length - 1) := Nat.mul_le_mul_left _ (Nat.pow_le_pow_right (by decide) (by omega))
    have h5 : (2 : Nat) ^ 22 = 4194304 := by decide
    rw [h5] at h4
    have := h.n
    have := h.k2
    omega
theorem RkP.carry {K : Int} {T : List Int} {L : List (List Int)} {N S : Int} {pS pS' : Nat} {pW pW' : Int → Nat} {l : List Int} (h : RkP K T L N S pS pW l) (hL : L.length ≤ 24) {r : List Int} {i : Nat} (hi : i ≤ 24) (hr : r.length = K.toNat) (hs : r.Pairwise (· ≤ ·)) (hm : ∀ a ∈ r, a ∈ l)
    (hpS : pS' + i * 2 ^ i = pS) (hpW : ∀ x, pW' x + cnt r x * 2 ^ i = pW x) {L' : List (List Int)} {S' : Int} (hc : CarryR L S r i L' S') : RkP K T L' (N + (K.toNat * 2 ^ i : Nat)) S' pS' pW' l := by
  have hk2 := h.k2
  have F := carry_inv (Nat.le_refl 64) hc (kk := K.toNat) (by omega) hr hs h.row h.srt (by omega) (by omega)
  have fl := F.len
  have fn := F.n
  have fs := F.s
  refine ⟨hk2, h.k64, h.tk, h.st, F.row, F.srt, by omega, by have := h.n; omega, by have := h.s; omega, fun x => ?_, fun x => ?_, h.memT, fun j a ha => ?_, F.last (fun j hj _ => h.last j hj)⟩
  · have := h.w1 x; have := F.w1 x; have := hpW x; omega
  · have := h.w2 x; have := F.w2 x; have := hpW x; omega
  · rcases F.mem j a ha with h2 | ⟨i', h2⟩
    · exact hm a h2
    · exact h.memL i' a h2
theorem RkP.add {K : Int} {T : List Int} {L : List (List Int)} {N S : Int} {pS : Nat} {pW pW' : Int → Nat} {l : List Int} (h : RkP K T L N S pS pW l) (hL : L.length ≤ 24) {v : Int} (hv : v ∈ l) (hpW : ∀ x, pW' x + cnt [v] x = pW x)
    {T' : List Int} {L' : List (List Int)} {S' : Int} (ha : AddR K T L S v T' L' S') : RkP K T' L' (N + 1) S' pS pW' l := by
  have hcs : ∀ x, cnt (sortI (v :: T)) x = cnt [v] x + cnt T x := fun x => by
    rw [cnt_perm (sortI_perm _), show v :: T = [v] ++ T from rfl, cnt_app]
  have hsl : (sortI (v :: T)).length = T.length + 1 := by rw [sortI_len]; rfl
  have hsm : ∀ a ∈ sortI (v :: T), a ∈ l := fun a ha => by
    rcases List.mem_cons.1 ((sortI_perm _).mem_iff.1 ha) with rfl | h1
    · exact hv
    · exact h.memT a h1
  have hk2 := h.k2
  have htk := h.tk
  rcases ha with ⟨h1, rfl, rfl, rfl⟩ | ⟨h1, rfl, hc⟩
  · refine ⟨hk2, h.k64, by rw [hsl]; omega, sortI_le _, h.row, h.srt, h.ln, by have := h.n; rw [hsl]; omega, h.s, fun x => ?_, fun x => ?_, hsm, h.memL, h.last⟩
    · have := h.w1 x; have := hpW x; rw [hcs]; omega
    · have := h.w2 x; have := hpW x; rw [hcs]; omega
  · have F := carry_inv (Nat.le_refl 64) hc (kk := K.toNat) (by omega) (by rw [hsl]; omega) (sortI_le _) h.row h.srt (by omega) (by omega)
    have fl := F.len
    have fn := F.n
    have fs := F.s
    rw [Nat.pow_zero, Nat.mul_one] at fn
    rw [Nat.zero_mul] at fs
    have fw1 := F.w1
    have fw2 := F.w2
    simp only [Nat.pow_zero, Nat.mul_one, hcs] at fw1 fw2
    have e0 : ∀ x, cnt [] x = 0 := fun x => rfl
    refine ⟨hk2, h.k64, by simp; omega, .nil, F.row, F.srt, by omega, by have := h.n; simp only [List.length_nil]; omega, by have := h.s; omega, fun x => ?_, fun x => ?_, (fun a h => by cases h), fun i a ha => ?_, F.last (fun i hi _ => h.last i hi)⟩
    · have := h.w1 x; have := fw1 x; have := hpW x; rw [e0]; omega
    · have := h.w2 x; have := fw2 x; have := hpW x; rw [e0]; omega
    · rcases F.mem i a ha with h2 | ⟨i', h2⟩
      · exact hsm a h2
      · exact h.memL i' a h2
/-- where nothing is to come any more -/
theorem RkP.done {K : Int} {T : List Int} {L : List (List Int)} {N S : Int} {pW : Int → Nat} {l : List Int} (h : RkP K T L N S 0 pW l) (hp : ∀ x, pW x = 0) (hN : N = l.length) (hL : L.length ≤ 25) : RkG K T L N S l :=
  ⟨h.k2, h.k64, h.tk, h.st, h.row, h.srt, hL, hN, by have := h.n; omega, by have := h.s; omega, fun x => by have := h.w1 x; have := hp x; omega, fun x => by have := h.w2 x; have := hp x; omega, h.memT, h.memL, h.last⟩
/-- where all of the other is to come -/
theorem RkG.start {K : Int} {T U : List Int} {L M : List (List Int)} {N S N' S' : Int} {l m : List Int} (h : RkG K T L N S l) (h' : RkG K U M N' S' m) : RkP K T L N (S + S') (sumU φS M 64) (fun x => cnt U x + sumU (φW x) M 64) (l ++ m) := by
  refine ⟨h.k2, h.k64, h.tk, h.st, h.row, h.srt, by have := h.ln; omega, by rw [h.nN, h.n], by have := h.s; have := h'.s; omega, fun x => ?_, fun x => ?_, fun a ha => List.mem_append_left _ (h.memT a ha), fun i a ha => List.mem_append_left _ (h.memL i a ha), h.last⟩
  · have := h.w1 x; have := h'.w1 x; rw [cnt_app]; omega
  · have := h.w2 x; have := h'.w2 x; rw [cnt_app]; omega
theorem RkG.total {K : Int} {T : List Int} {L : List (List Int)} {N S : Int} {l : List Int} (h : RkG K T L N S l) (hL : L.length ≤ 20) : (l.length : Int) ≤ K * 1048576 := by
  have hk2 := h.k2
  have hs : ∀ k, k ≤ 20 → sumU φN L k + K.toNat ≤ K.toNat * 2 ^ k := by
    intro k
    induction k with
    | zero => intro _; rw [sumU]; omega
    | succ k ih =>
      intro hk
      have h1 := ih (by omega)
      have h2 : φN k (at_ L k) ≤ K.toNat * 2 ^ k := by
        unfold φN
        refine Nat.mul_le_mul_right _ ?_
        rcases h.row k with h3 | h3
        · omega
        · rw [h3]; simp
      rw [sumU, Nat.pow_succ, ← Nat.mul_assoc]; omega
  have h2 := sumU_more φN_nil (L := L) (M := 64) (by omega)
  have h3 := hs L.length hL
  have h4 : K.toNat * 2 ^ L.length ≤ K.toNat * 2 ^ 20 := Nat.mul_le_mul_left _ (Nat.pow_le_pow_right (by decide) hL)
  have h5 : (2 : Nat) ^ 20 = 1048576 := by decide
  rw [h5] at h4
  have := h.n
  have := h.tk
  omega
theorem RkP.slack {K : Int} {T : List Int} {L : List (List Int)} {N S : Int} {pS : Nat} {pW : Int → Nat} {l : List Int} (h : RkP K T L N S pS pW l) (hL : L.length ≤ 22) (hp : pS ≤ 67108864) : 0 ≤ S ∧ S ≤ 1073741824 := by
  have h1 := h.s
  have h2 := sumU_more φS_nil (L := L) (M := 64) (by omega)
  have h3 := sumS_le L (Nat.le_refl 64) (k := L.length) (by omega)
  have h4 : 2 ^ L.length ≤ 2 ^ 22 := Nat.pow_le_pow_right (by decide) hL
  have h5 : 2 ^ 22 = 4194304 := by decide
  omega
theorem RkP.h64 {K : Int} {T : List Int} {L : List (List Int)} {N S : Int} {pS : Nat} {pW : Int → Nat} {l : List Int} (h : RkP K T L N S pS pW l) : ∀ k, k < L.length → (at_ L k).length ≤ 64 := fun k _ => by
  have := h.k64
  rcases h.row k with h1 | h1
  · omega
  · rw [h1]; simp

/-- while the levels of the other are taken: i of them are -/
structure RkM (K : Int) (U : List Int) (M : List (List Int)) (i : Nat) (T : List Int) (L : List (List Int)) (N S : Int) (l : List Int) : Prop where
  p : ∃ pS pW, RkP K T L N S pS pW l ∧ pS + sumU φS M i = sumU φS M 64 ∧ (∀ x, pW x + sumU (φW x) M i = cnt U x + sumU (φW x) M 64)
  k : ∀ i, (at_ M i).length = K.toNat ∨ at_ M i = []
  s : ∀ i, (at_ M i).Pairwise (· ≤ ·)
  t : N + U.length + (sumU φN M 64 : Nat) = l.length + (sumU φN M i : Nat)
  m : M.length ≤ 20
  a : (l.length : Int) ≤ K * 2097152
  e : ∀ i a, a ∈ at_ M i → a ∈ l
  u : ∀ a ∈ U, a ∈ l
  k2 : 2 ≤ K
  k64 : K ≤ 64
theorem sumU_le {φ : Nat → List Int → Nat} {L : List (List Int)} {i M : Nat} (h : i ≤ M) : sumU φ L i ≤ sumU φ L M := by
  induction M with
  | zero => obtain rfl : i = 0 := by omega
            exact Nat.le_refl _
  | succ M ih =>
    rcases Nat.lt_or_ge i (M + 1) with g | g
    · have := ih (by omega)
      rw [sumU]; omega
    · obtain rfl : i = M + 1 := by omega
      exact Nat.le_refl _
theorem RkM.b {K : Int} {U : List Int} {M : List (List Int)} {i : Nat} {T : List Int} {L : List (List Int)} {N S : Int} {l : List Int} (h : RkM K U M i T L N S l) (hi : i ≤ M.length) :
    L.length ≤ 22 ∧ 0 ≤ N ∧ N ≤ 134217728 ∧ 0 ≤ S ∧ S ≤ 1073741824 ∧ ∀ k, k < L.length → (at_ L k).length ≤ 64 := by
  obtain ⟨pS, pW, hp, h1, h2⟩ := h.p
  have hm := h.m
  have h3 := sumU_le (φ := φN) (L := M) (show i ≤ 64 by omega)
  have h4 := h.t
  have h5 := h.a
  have hk2 := h.k2
  have hk64 := h.k64
  have hL := hp.few (by omega)
  have h6 := sumU_more φS_nil (L := M) (M := 64) (by omega)
  have h7 := sumS_le M (Nat.le_refl 64) (k := M.length) (by omega)
  have h8 : 2 ^ M.length ≤ 2 ^ 20 := Nat.pow_le_pow_right (by decide) hm
  have h9 : 2 ^ 20 = 1048576 := by decide
  obtain ⟨s1, s2⟩ := hp.slack hL (by omega)
  exact ⟨hL, by have := hp.n; omega, by omega, s1, s2, hp.h64⟩
theorem RkG.m {K : Int} {T U : List Int} {L M : List (List Int)} {N S N' S' : Int} {l m : List Int} (h : RkG K T L N S l) (h' : RkG K U M N' S' m) (hL : L.length ≤ 20) (hM : M.length ≤ 20) : RkM K U M 0 T L N (S + S') (l ++ m) := by
  refine ⟨⟨_, _, h.start h', by rw [sumU]; omega, fun x => by show _ + sumU (φW x) M 0 = _; rw [sumU]; omega⟩, h'.row, h'.srt, ?_, hM, ?_, fun i a ha => List.mem_append_right _ (h'.memL i a ha), fun a ha => List.mem_append_right _ (h'.memT a ha), h.k2, h.k64⟩
  · have := h.nN; have := h'.n; rw [List.length_append, sumU]; omega
  · have := h.total hL; have := h'.total hM; rw [List.length_append]; omega
theorem RkM.skip {K : Int} {U : List Int} {M : List (List Int)} {i : Nat} {T : List Int} {L : List (List Int)} {N S : Int} {l : List Int} (h : RkM K U M i T L N S l) (hi : (at_ M i).length = 0) : RkM K U M (i + 1) T L N S l := by
  have h0 : at_ M i = [] := List.eq_nil_of_length_eq_zero hi
  obtain ⟨pS, pW, hp, h1, h2⟩ := h.p
  refine ⟨⟨pS, pW, hp, by rw [sumU, h0, φS_nil]; omega, fun x => by rw [sumU, h0, φW_nil]; exact h2 x⟩, h.k, h.s, by rw [show sumU φN M (i + 1) = sumU φN M i + φN i (at_ M i) from rfl, h0, φN_nil]; have := h.t; omega, h.m, h.a, h.e, h.u, h.k2, h.k64⟩
theorem RkM.len {K : Int} {U : List Int} {M : List (List Int)} {i : Nat} {T : List Int} {L : List (List Int)} {N S : Int} {l : List Int} (h : RkM K U M i T L N S l) (hi : 0 < (at_ M i).length) : ((at_ M i).length : Int) = K := by
  have := h.k2
  rcases h.k i with h1 | h1
  · omega
  · rw [h1] at hi; simp at hi
theorem RkM.step {K : Int} {U : List Int} {M : List (List Int)} {i : Nat} {T : List Int} {L : List (List Int)} {N S : Int} {l : List Int} (h : RkM K U M i T L N S l) (hi : i < M.length) (h0 : 0 < (at_ M i).length) {L' : List (List Int)} {S' : Int} (hc : CarryR L S (at_ M i) i L' S') :
    RkM K U M (i + 1) T L' (N + K * 2 ^ i) S' l ∧ 0 ≤ K * 2 ^ i ∧ K * 2 ^ i ≤ 67108864 := by
  have hl := h.len h0
  have hb := h.b (by omega)
  have hm := h.m
  have hk2 := h.k2
  have hk64 := h.k64
  have hle : (at_ M i).length = K.toNat := by omega
  obtain ⟨pS, pW, hp, h1, h2⟩ := h.p
  have e1 := φN_len hle i
  have e2 := φS_len hle (by omega) i
  have e3 := fun x => φW_eq x i (at_ M i)
  have eK : K * 2 ^ i = ((K.toNat * 2 ^ i : Nat) : Int) := by rw [Int.natCast_mul, Int.natCast_pow, Int.toNat_of_nonneg (by omega)]; rfl
  have hs : sumU φS M i + i * 2 ^ i ≤ sumU φS M 64 := by
    have := sumU_le (φ := φS) (L := M) (show i + 1 ≤ 64 by omega)
    rw [sumU, e2] at this
    exact this
  have hw : ∀ x, sumU (φW x) M i + cnt (at_ M i) x * 2 ^ i ≤ sumU (φW x) M 64 := fun x => by
    have := sumU_le (φ := φW x) (L := M) (show i + 1 ≤ 64 by omega)
    rw [sumU, e3] at this
    exact this
  have p20 : 2 ^ i ≤ 2 ^ 20 := Nat.pow_le_pow_right (by decide) (by omega)
  have e20 : (2 : Nat) ^ 20 = 1048576 := by decide
  have q20 : K.toNat * 2 ^ i ≤ 64 * 2 ^ 20 := Nat.mul_le_mul (by omega) p20
  have hr := hp.carry (by omega) (pS' := pS - i * 2 ^ i) (pW' := fun x => pW x - cnt (at_ M i) x * 2 ^ i) (by omega) hle (h.s i) (fun a ha => h.e i a ha) (by omega) (fun x => by have := h2 x; have := hw x; omega) hc
  rw [eK]
  refine ⟨⟨⟨_, _, hr, by rw [sumU, e2]; omega, fun x => by have := h2 x; have := hw x; show pW x - _ + _ = _; rw [sumU, e3]; omega⟩, h.k, h.s, by have := h.t; rw [show sumU φN M (i + 1) = sumU φN M i + φN i (at_ M i) from rfl, e1]; omega, h.m, h.a, h.e, h.u, h.k2, h.k64⟩, by omega, by omega⟩
/-- while the tail of the other is taken: k of it are -/
structure RkQ (K : Int) (U : List Int) (k : Nat) (T : List Int) (L : List (List Int)) (N S : Int) (l : List Int) : Prop where
  p : RkP K T L N S 0 (fun x => cnt (U.drop k) x) l
  t : N + (U.length : Int) = l.length + (k : Int)
  a : (l.length : Int) ≤ K * 2097152
  u : ∀ a ∈ U, a ∈ l
theorem RkM.q {K : Int} {U : List Int} {M : List (List Int)} {T : List Int} {L : List (List Int)} {N S : Int} {l : List Int} (h : RkM K U M M.length T L N S l) : RkQ K U 0 T L N S l := by
  obtain ⟨pS, pW, hp, h1, h2⟩ := h.p
  have hm := h.m
  rw [← sumU_more φS_nil (L := M) (M := 64) (by omega)] at h1
  obtain rfl : pS = 0 := by omega
  have e : pW = fun x => cnt (U.drop 0) x := by
    funext x
    have := h2 x
    rw [← sumU_more (φW_nil x) (L := M) (M := 64) (by omega)] at this
    rw [List.drop_zero]
    omega
  refine ⟨e ▸ hp, ?_, h.a, h.u⟩
  have := h.t
  rw [← sumU_more φN_nil (L := M) (M := 64) (by omega)] at this
  omega
theorem RkQ.b {K : Int} {U : List Int} {k : Nat} {T : List Int} {L : List (List Int)} {N S : Int} {l : List Int} (h : RkQ K U k T L N S l) (hk : k ≤ U.length) :
    L.length ≤ 22 ∧ 0 ≤ N ∧ N ≤ 134217728 ∧ 0 ≤ S ∧ S ≤ 1073741824 ∧ ∀ k, k < L.length → (at_ L k).length ≤ 64 := by
  have h4 := h.t
  have h5 := h.a
  have hk2 := h.p.k2
  have hk64 := h.p.k64
  have hL := h.p.few (by omega)
  obtain ⟨s1, s2⟩ := h.p.slack hL (by omega)
  exact ⟨hL, by have := h.p.n; omega, by omega, s1, s2, h.p.h64⟩
theorem RkQ.add {K : Int} {U : List Int} {k : Nat} {T : List Int} {L : List (List Int)} {N S : Int} {l : List Int} (h : RkQ K U k T L N S l) (hk : k < U.length) {T' : List Int} {L' : List (List Int)} {S' : Int} (ha : AddR K T L S (at_ U k) T' L' S') : RkQ K U (k + 1) T' L' (N + 1) S' l := by
  have hb := h.b (by omega)
  have ed : U.drop k = [at_ U k] ++ U.drop (k + 1) := by rw [at_eq hk]; exact List.drop_eq_getElem_cons hk
  refine ⟨h.p.add (by omega) (h.u _ (at_mem hk)) (fun x => ?_) ha, by have := h.t; omega, h.a, h.u⟩
  show cnt (U.drop (k + 1)) x + _ = cnt (U.drop k) x
  rw [ed, cnt_app]; omega
theorem RkQ.done {K : Int} {U : List Int} {T : List Int} {L : List (List Int)} {N S : Int} {l : List Int} (h : RkQ K U U.length T L N S l) : RkG K T L N S l ∧ L.length ≤ 22 := by
  have hb := h.b (Nat.le_refl _)
  exact ⟨h.p.done (fun x => by rw [List.drop_of_length_le (Nat.le_refl _)]; rfl) (by have := h.t; omega) (by omega), hb.1⟩
end Go.Proofs.Ythofijhjbaaokaa
