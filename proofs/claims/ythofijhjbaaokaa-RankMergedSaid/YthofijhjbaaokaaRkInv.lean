/- What adding to a rank keeps: plain laws. No program in sight. -/
import Derived.Test.YthofijhjbaaokaaRkAdd
import Derived.Test.YthofijhjbaaokaaRkOrd
namespace Go.Proofs.Ythofijhjbaaokaa
open Go.RowKit

def cnt (l : List Int) (x : Int) : Nat := l.countP fun a => decide (a ≤ x)
theorem cnt_app (l m : List Int) (x : Int) : cnt (l ++ m) x = cnt l x + cnt m x := List.countP_append
theorem cnt_perm {l m : List Int} (h : l.Perm m) (x : Int) : cnt l x = cnt m x := h.countP_eq _
theorem cnt_cons (a : Int) (l : List Int) (x : Int) : cnt (a :: l) x = cnt l x + if a ≤ x then 1 else 0 := by
  unfold cnt; rw [List.countP_cons]; simp
theorem cnt_le (l : List Int) (x : Int) : cnt l x ≤ l.length := List.countP_le_length
theorem lead_cnt {l : List Int} (h : l.Pairwise (· ≤ ·)) (x : Int) : lead l x = cnt l x := by
  induction l with
  | nil => rfl
  | cons a l ih =>
    have h1 := List.pairwise_cons.1 h
    rw [lead, cnt_cons]
    split
    · rw [ih h1.2]
    · rename_i hax
      symm
      unfold cnt
      rw [List.countP_eq_zero.2 (fun b hb => by have := h1.1 b hb; simp; omega)]
theorem lead_lt {l : List Int} {x : Int} : ∀ {i : Nat}, i < lead l x → at_ l i ≤ x := by
  induction l with
  | nil => intro i h; simp [lead] at h
  | cons a l ih =>
    intro i h
    rw [lead] at h
    split at h
    · rename_i ha
      cases i with
      | zero => exact ha
      | succ i => have := ih (i := i) (by omega); simpa [at_, List.getD] using this
    · omega
theorem lead_stop {l : List Int} {x : Int} (h : lead l x < l.length) : x < at_ l (lead l x) := by
  induction l with
  | nil => simp at h
  | cons a l ih =>
    rw [lead] at h ⊢
    split
    · rename_i ha
      rw [if_pos ha] at h
      have := ih (by simpa using h)
      simpa [at_, List.getD] using this
    · rename_i ha; simp [at_, List.getD]; omega
theorem at_odds {l : List Int} {q i : Nat} (h : i < q) : at_ (oddsN l q) i = at_ l (2 * i + 1) := by
  rw [at_eq (by rw [oddsN_len]; exact h)]
  simp [oddsN]
theorem odds_lead {U : List Int} (hU : U.Pairwise (· ≤ ·)) {q : Nat} (hq : U.length = 2 * q) (x : Int) : lead (oddsN U q) x = lead U x / 2 := by
  have hle := lead_le U x
  refine lead_eq (fun i h1 h2 => ?_) (by rw [oddsN_len]; omega) (fun h => ?_)
  · rw [oddsN_len] at h2
    rw [at_odds h2]
    exact lead_lt (by omega)
  · rw [oddsN_len] at h
    rw [at_odds h]
    have h1 : lead U x < U.length := by omega
    have h2 := lead_stop h1
    rcases Nat.lt_or_ge (lead U x) (2 * (lead U x / 2) + 1) with g | g
    · have := at_UpL hU g (by omega); omega
    · have : lead U x = 2 * (lead U x / 2) + 1 := by omega
      rw [← this]; exact h2
theorem odds_sorted {U : List Int} (hU : U.Pairwise (· ≤ ·)) {q : Nat} (hq : U.length = 2 * q) : (oddsN U q).Pairwise (· ≤ ·) := by
  refine List.pairwise_iff_getElem.2 (fun i j hi hj hij => ?_)
  have h1 := hi
  have h2 := hj
  rw [oddsN_len] at h1 h2
  rw [← at_eq hi, ← at_eq hj, at_odds h1, at_odds h2]
  exact at_UpL hU (by omega) (by omega)
theorem odds_mem {U : List Int} {q : Nat} (hq : U.length = 2 * q) {a : Int} (h : a ∈ oddsN U q) : a ∈ U := by
  obtain ⟨i, hi, rfl⟩ := List.mem_map.1 h
  have := List.mem_range.1 hi
  exact at_mem (by omega)
/-- two rows of one length, carried -/
theorem carry_row {r l : List Int} {kk : Nat} (hr : r.length = kk) (hl : l.length = kk) : (odds (sortI (r ++ l))).length = kk ∧ (odds (sortI (r ++ l))).Pairwise (· ≤ ·) ∧ (∀ a ∈ odds (sortI (r ++ l)), a ∈ r ∨ a ∈ l) ∧
    ∀ x, cnt (odds (sortI (r ++ l))) x = (cnt r x + cnt l x) / 2 := by
  have hU := sortI_le (r ++ l)
  have hn : (sortI (r ++ l)).length = 2 * kk := by rw [sortI_len, List.length_append]; omega
  have ho : odds (sortI (r ++ l)) = oddsN (sortI (r ++ l)) kk := by unfold odds; rw [hn]; congr 1; omega
  rw [ho]
  refine ⟨oddsN_len _ _, odds_sorted hU hn, fun a ha => ?_, fun x => ?_⟩
  · have := (sortI_perm (r ++ l)).mem_iff.1 (odds_mem hn ha)
    exact List.mem_append.1 this
  · rw [← lead_cnt (odds_sorted hU hn), odds_lead hU hn, lead_cnt hU, cnt_perm (sortI_perm _), cnt_app]

/-- a sum over all levels -/
def sumU (φ : Nat → List Int → Nat) (L : List (List Int)) : Nat → Nat
  | 0 => 0
  | k + 1 => sumU φ L k + φ k (at_ L k)
theorem sumU_set {φ : Nat → List Int → Nat} {L L' : List (List Int)} {j : Nat} (h : ∀ k, k ≠ j → at_ L' k = at_ L k) : ∀ {M : Nat}, j < M → sumU φ L' M + φ j (at_ L j) = sumU φ L M + φ j (at_ L' j) := by
  intro M hM
  induction M with
  | zero => omega
  | succ M ih =>
    rw [sumU, sumU]
    rcases Nat.lt_or_ge j M with hj | hj
    · have := ih hj
      rw [h M (by omega)]
      omega
    · obtain rfl : j = M := by omega
      have e : sumU φ L' j = sumU φ L j := by
        have : ∀ m, m ≤ j → sumU φ L' m = sumU φ L m := by
          intro m
          induction m with
          | zero => intro _; rfl
          | succ m ih2 => intro hm; rw [sumU, sumU, ih2 (by omega), h m (by omega)]
        exact this j (Nat.le_refl _)
      rw [e]; omega
theorem sumU_more {φ : Nat → List Int → Nat} (h0 : ∀ k, φ k [] = 0) {L : List (List Int)} : ∀ {M : Nat}, L.length ≤ M → sumU φ L M = sumU φ L L.length := by
  intro M hM
  induction M with
  | zero => obtain h : L.length = 0 := by omega
            rw [h]
  | succ M ih =>
    rcases Nat.lt_or_ge M L.length with g | g
    · have : M + 1 = L.length := by omega
      rw [this]
    · rw [sumU, ih g, at_beyond g]
      show _ + φ M [] = _
      rw [h0]; rfl
def φN : Nat → List Int → Nat := fun i r => r.length * 2 ^ i
def φS : Nat → List Int → Nat := fun i r => if r.length = 0 then 0 else i * 2 ^ i
def φW (x : Int) : Nat → List Int → Nat := fun i r => cnt r x * 2 ^ i
theorem φN_nil (i : Nat) : φN i [] = 0 := by simp [φN]
theorem φS_nil (i : Nat) : φS i [] = 0 := by simp [φS]
theorem φW_nil (x : Int) (i : Nat) : φW x i [] = 0 := by simp [φW, cnt]
theorem φN_len {r : List Int} {kk : Nat} (h : r.length = kk) (i : Nat) : φN i r = kk * 2 ^ i := by rw [← h]; rfl
theorem φS_len {r : List Int} {kk : Nat} (h : r.length = kk) (hk : 0 < kk) (i : Nat) : φS i r = i * 2 ^ i := by unfold φS; rw [if_neg (by omega)]
theorem φW_eq (x : Int) (i : Nat) (r : List Int) : φW x i r = cnt r x * 2 ^ i := rfl
theorem at_set_self {L : List (List Int)} {j : Nat} {r : List Int} (h : j < L.length) : at_ (L.set j r) j = r := by simp [at_, List.getD, h]
theorem at_set_ne {L : List (List Int)} {j k : Nat} {r : List Int} (h : k ≠ j) : at_ (L.set j r) k = at_ L k := by simp [at_, List.getD, List.getElem?_set_ne (fun e : j = k => h e.symm)]
theorem at_pad (L : List (List Int)) (q k : Nat) : at_ (L ++ List.replicate q []) k = at_ L k := by
  rcases Nat.lt_or_ge k L.length with h | h
  · simp [at_, List.getD, List.getElem?_append_left h]
  · rw [at_beyond h]
    simp only [at_, List.getD, List.getElem?_append_right h, List.getElem?_replicate]
    split <;> rfl
structure CarryF (M kk : Nat) (L : List (List Int)) (S : Int) (l : List Int) (j : Nat) (L' : List (List Int)) (S' : Int) : Prop where
  row : ∀ i, (at_ L' i).length = kk ∨ at_ L' i = []
  srt : ∀ i, (at_ L' i).Pairwise (· ≤ ·)
  len : L'.length ≤ max L.length j + 1
  n : sumU φN L' M = sumU φN L M + kk * 2 ^ j
  s : 2 * S' + (sumU φS L M : Nat) + (j * 2 ^ j : Nat) = 2 * S + (sumU φS L' M : Nat)
  w1 : ∀ x, sumU (φW x) L' M ≤ sumU (φW x) L M + cnt l x * 2 ^ j
  w2 : ∀ x, ((sumU (φW x) L M + cnt l x * 2 ^ j : Nat) : Int) ≤ (sumU (φW x) L' M : Nat) + (S' - S)
  mem : ∀ i a, a ∈ at_ L' i → a ∈ l ∨ ∃ i', a ∈ at_ L i'
  last : (∀ i, i + 1 = L.length → j ≤ i → at_ L i ≠ []) → ∀ i, i + 1 = L'.length → at_ L' i ≠ []
  up : S ≤ S'
theorem carry_inv {L : List (List Int)} {S : Int} {l : List Int} {j : Nat} {L' : List (List Int)} {S' : Int} {M : Nat} (hM : 64 ≤ M) (h : CarryR L S l j L' S') : ∀ {kk : Nat}, 0 < kk → l.length = kk → l.Pairwise (· ≤ ·) → (∀ i, (at_ L i).length = kk ∨ at_ L i = []) → (∀ i, (at_ L i).Pairwise (· ≤ ·)) → L.length ≤ 40 → j ≤ 40 → CarryF M kk L S l j L' S' := by
  induction h with
  | @stop L S l j hst =>
    intro kk hk hl hs hL hsL hn hj
    obtain ⟨L', hL'⟩ : ∃ L', (L ++ List.replicate (j + 1 - L.length) []).set j l = L' := ⟨_, rfl⟩
    have hlen : L'.length = max L.length (j + 1) := by rw [← hL', List.length_set, List.length_append, List.length_replicate]; omega
    have e1 : at_ L' j = l := by rw [← hL']; exact at_set_self (by rw [List.length_append, List.length_replicate]; omega)
    have e2 : ∀ k, k ≠ j → at_ L' k = at_ L k := fun k hkj => by rw [← hL', at_set_ne hkj, at_pad]
    have e0 : at_ L j = [] := by
      rcases Nat.lt_or_ge j L.length with g | g
      · have h1 : ¬ 0 < (at_ L j).length := fun h2 => hst ⟨g, h2⟩
        exact List.eq_nil_of_length_eq_zero (by omega)
      · exact at_beyond g
    rw [hL']
    have sN := sumU_set (φ := φN) e2 (show j < M by omega)
    have sS := sumU_set (φ := φS) e2 (show j < M by omega)
    have sW := fun x => sumU_set (φ := φW x) e2 (show j < M by omega)
    rw [e0, e1] at sN sS
    simp only [e0, e1] at sW
    rw [φN_nil, φN_len hl, Nat.add_zero] at sN
    rw [φS_nil, φS_len hl hk, Nat.add_zero] at sS
    simp only [φW_nil, φW_eq _ j l, Nat.add_zero] at sW
    refine ⟨fun i => ?_, fun i => ?_, by omega, sN, by omega, fun x => by have := sW x; omega, fun x => by have := sW x; omega, fun i a ha => ?_, fun hla i hi => ?_, Int.le_refl _⟩
    · by_cases hij : i = j
      · subst hij; rw [e1]; exact .inl hl
      · rw [e2 i hij]; exact hL i
    · by_cases hij : i = j
      · subst hij; rw [e1]; exact hs
      · rw [e2 i hij]; exact hsL i
    · by_cases hij : i = j
      · subst hij; rw [e1] at ha; exact .inl ha
      · rw [e2 i hij] at ha; exact .inr ⟨i, ha⟩
    · by_cases hij : i = j
      · subst hij; rw [e1]; intro e; rw [e] at hl; simp at hl; omega
      · rw [e2 i hij]
        exact hla i (by omega) (by omega)
  | @step L S l j L' S' hlt hpos hr ih =>
    intro kk hk hl hs hL hsL hn hj
    have hrl : (at_ L j).length = kk := by
      rcases hL j with h1 | h1
      · exact h1
      · rw [h1] at hpos; simp at hpos
    obtain ⟨c1, c2, c3, c4⟩ := carry_row hrl hl
    obtain ⟨o, ho⟩ : ∃ o, odds (sortI (at_ L j ++ l)) = o := ⟨_, rfl⟩
    rw [ho] at c1 c2 c3 c4 ih
    have e1 : at_ (L.set j []) j = [] := at_set_self hlt
    have e2 : ∀ k, k ≠ j → at_ (L.set j []) k = at_ L k := fun k hkj => at_set_ne hkj
    have sN := sumU_set (φ := φN) e2 (show j < M by omega)
    have sS := sumU_set (φ := φS) e2 (show j < M by omega)
    have sW := fun x => sumU_set (φ := φW x) e2 (show j < M by omega)
    rw [e1] at sN sS
    simp only [e1] at sW
    obtain ⟨r, hrr⟩ : ∃ r, at_ L j = r := ⟨_, rfl⟩
    rw [hrr] at sN sS c3 hrl
    simp only [hrr] at sW c4
    have F := ih hk c1 c2 (fun i => by
      by_cases hij : i = j
      · subst hij; rw [e1]; exact .inr rfl
      · rw [e2 i hij]; exact hL i) (fun i => by
      by_cases hij : i = j
      · subst hij; rw [e1]; exact .nil
      · rw [e2 i hij]; exact hsL i) (by rw [List.length_set]; exact hn) (by omega)
    rw [φN_nil, φN_len hrl, Nat.add_zero] at sN
    rw [φS_nil, φS_len hrl hk, Nat.add_zero] at sS
    simp only [φW_nil, φW_eq _ j r, Nat.add_zero] at sW
    have p2 : 2 ^ (j + 1) = 2 * 2 ^ j := by rw [Nat.pow_succ]; omega
    have pI : (2 : Int) ^ j = ((2 ^ j : Nat) : Int) := by rw [Int.natCast_pow]; rfl
    obtain ⟨P, hP⟩ : ∃ P, 2 ^ j = P := ⟨_, rfl⟩
    have hlen := F.len
    have hfn := F.n
    have hfs := F.s
    have hf1 := F.w1
    have hf2 := F.w2
    rw [List.length_set] at hlen
    rw [p2, hP] at hfn hfs
    simp only [p2, hP] at hf1 hf2
    rw [pI, hP] at hfs
    simp only [pI, hP] at hf2
    have hup := F.up
    rw [pI, hP] at hup
    rw [hP] at sN sS
    simp only [hP] at sW
    refine ⟨F.row, F.srt, by omega, ?_, ?_, fun x => ?_, fun x => ?_, fun i a ha => ?_, fun hla i hi => F.last (fun i' h1 h2 => ?_) i hi, ?_⟩
    · rw [hP, hfn, ← sN]
      have : kk * (2 * P) = kk * P + kk * P := by rw [Nat.mul_left_comm, Nat.two_mul]
      omega
    · rw [hP]
      have m1 : (j + 1) * (2 * P) = j * P + j * P + 2 * P := by rw [Nat.mul_left_comm, Nat.add_mul, Nat.one_mul]; omega
      rw [m1] at hfs
      omega
    · have h1 := hf1 x
      have h2 := sW x
      have h3 := c4 x
      rw [hP]
      have h4 : cnt o x * (2 * P) ≤ cnt r x * P + cnt l x * P := by
        rw [← Nat.add_mul, Nat.mul_comm 2 P, ← Nat.mul_assoc, Nat.mul_right_comm]
        exact Nat.mul_le_mul_right _ (by omega)
      omega
    · have h1 := hf2 x
      have h2 := sW x
      have h3 := c4 x
      rw [hP]
      have h4 : cnt r x * P + cnt l x * P ≤ cnt o x * (2 * P) + P := by
        rw [← Nat.add_mul, Nat.mul_comm 2 P, ← Nat.mul_assoc, Nat.mul_right_comm]
        have : cnt o x * 2 * P + P = (cnt o x * 2 + 1) * P := by rw [Nat.add_mul, Nat.one_mul]
        rw [this]
        exact Nat.mul_le_mul_right _ (by omega)
      omega
    · rcases F.mem i a ha with h1 | ⟨i', h1⟩
      · rcases c3 a h1 with h2 | h2
        · exact .inr ⟨j, by rw [hrr]; exact h2⟩
        · exact .inl h2
      · by_cases hij : i' = j
        · subst hij; rw [e1] at h1; cases h1
        · rw [e2 i' hij] at h1; exact .inr ⟨i', h1⟩
    · rw [List.length_set] at h1
      rw [e2 i' (by omega)]
      exact hla i' h1 (by omega)
    · have : (0 : Int) ≤ (P : Int) := by omega
      omega
end Go.Proofs.Ythofijhjbaaokaa
