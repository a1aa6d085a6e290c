/- Frames with a torn end: plain laws. No program in sight. -/
import Derived.Test.YtkcfhfplppdnnaaLogLaw
namespace Go.Proofs.Ytkcfhfplppdnnaa
open Go.RowKit

theorem first_short {r : List Nat} (hr : r.length ≤ 2000) {k : Nat} (hk : k < (frameL r).length) : (firstN ((frameL r).take k)).2.2 = false := by
  rw [Bool.eq_false_iff]
  intro h
  obtain ⟨h1, h2, h3, h4⟩ := first_ok h
  obtain ⟨r', hr'⟩ : ∃ r', (firstN ((frameL r).take k)).1 = r' := ⟨_, rfl⟩
  obtain ⟨n, hn⟩ : ∃ n, (firstN ((frameL r).take k)).2.1 = n := ⟨_, rfl⟩
  rw [hr', hn, List.take_take] at h4
  rw [hr'] at h3
  rw [hn, List.length_take] at h2
  have h5 : frameL r = frameL r' ++ (frameL r).drop n := by
    rw [h4, show min n k = n by omega, List.take_append_drop]
  have h6 := first_frame h3 ((frameL r).drop n)
  rw [← h5] at h6
  have h7 := first_frame hr []
  rw [List.append_nil, h6] at h7
  injection h7 with _ h7
  injection h7 with h7 _
  have h8 := congrArg List.length h4
  rw [List.length_take] at h8
  omega
theorem cutGo_torn : ∀ (ts : List (List Nat)) (pre : List Nat) (f q : Nat), (∀ r ∈ ts, r.length ≤ 2000) → ts.length ≤ f → q ≤ (flatF ts).length →
    ∃ m, m ≤ ts.length ∧ (flatF (ts.take m)).length ≤ q ∧ (m < ts.length → q < (flatF (ts.take (m + 1))).length) ∧ cutGo (pre ++ (flatF ts).take q) f pre.length = (ts.take m, pre.length + (flatF (ts.take m)).length)
  | [], pre, f, q, _, _, hq => by
    have e : flatF [] = [] := rfl
    refine ⟨0, by simp, by simp [e], by simp, ?_⟩
    have hc : ¬ (firstN ((pre ++ (flatF []).take q).drop pre.length)).2.2 = true := by
      rw [e, List.take_nil, List.drop_left]
      decide
    cases f with
    | zero => simp [cutGo, e]
    | succ f => rw [cutGo, if_neg hc]; simp [e]
  | r :: rs, pre, f, q, h, hf, hq => by
    obtain ⟨f, rfl⟩ : ∃ f', f = f' + 1 := ⟨f - 1, by simp at hf; omega⟩
    have e : flatF (r :: rs) = frameL r ++ flatF rs := rfl
    have hr := h r (by simp)
    by_cases hq2 : q < (frameL r).length
    · refine ⟨0, by simp, by simp [flatF], ?_, ?_⟩
      · intro _
        rw [show (r :: rs).take (0 + 1) = [r] from rfl, show flatF [r] = frameL r ++ [] from rfl, List.append_nil]
        exact hq2
      · have e2 : (flatF (r :: rs)).take q = (frameL r).take q := by rw [e, List.take_append_of_le_length (by omega)]
        have hc : ¬ (firstN ((pre ++ (flatF (r :: rs)).take q).drop pre.length)).2.2 = true := by
          rw [List.drop_left, e2, first_short hr hq2]
          decide
        rw [cutGo, if_neg hc]
        rfl
    · have e2 : (flatF (r :: rs)).take q = frameL r ++ (flatF rs).take (q - (frameL r).length) := by
        rw [e, List.take_append, List.take_of_length_le (by omega)]
      have e1 : firstN ((pre ++ (flatF (r :: rs)).take q).drop pre.length) = (r, (frameL r).length, true) := by
        rw [List.drop_left, e2]
        exact first_frame hr _
      rw [e, List.length_append] at hq
      obtain ⟨m, h1, h2, h3, h4⟩ := cutGo_torn rs (pre ++ frameL r) f (q - (frameL r).length) (fun x hx => h x (by simp [hx])) (by simp at hf; omega) (by omega)
      have e5 : ∀ j, flatF ((r :: rs).take (j + 1)) = frameL r ++ flatF (rs.take j) := fun j => by rw [List.take_succ_cons]; rfl
      refine ⟨m + 1, by simp; omega, by rw [e5, List.length_append]; omega, ?_, ?_⟩
      · intro hm
        have := h3 (by simpa using hm)
        rw [e5, List.length_append]
        omega
      · rw [cutGo, e1, if_pos rfl]
        have e3 : pre.length + (frameL r).length = (pre ++ frameL r).length := by rw [List.length_append]
        simp only
        rw [e2, ← List.append_assoc, e3, h4, e5, List.length_append, List.length_append, List.take_succ_cons]
        simp [Nat.add_assoc]
theorem flatF_mono (ts : List (List Nat)) {a b : Nat} (h : a ≤ b) : (flatF (ts.take a)).length ≤ (flatF (ts.take b)).length := by
  have e : ts.take b = ts.take a ++ (ts.take b).drop a := by
    have := (List.take_append_drop a (ts.take b)).symm
    rwa [List.take_take, Nat.min_eq_left h] at this
  rw [e, flatF_app, List.length_append]
  omega
theorem cut_torn {ts : List (List Nat)} (h : ∀ r ∈ ts, r.length ≤ 2000) {q : Nat} (hq : q ≤ (flatF ts).length) :
    ∃ m, m ≤ ts.length ∧ (flatF (ts.take m)).length ≤ q ∧ (∀ k, k ≤ ts.length → (flatF (ts.take k)).length ≤ q → k ≤ m) ∧ cutN ((flatF ts).take q) = (ts.take m, (flatF (ts.take m)).length) ∧ (flatF ts).take (flatF (ts.take m)).length = flatF (ts.take m) := by
  have hfuel : ∀ f p, ((flatF ts).take q).length ≤ p + f → ∀ j, cutGo ((flatF ts).take q) (f + j) p = cutGo ((flatF ts).take q) f p := by
    intro f p hp j
    induction j with
    | zero => rfl
    | succ j ih => rw [← Nat.add_assoc, cutGo_more _ _ _ (by omega), ih]
  obtain ⟨m, h1, h2, h3, h4⟩ := cutGo_torn ts [] (((flatF ts).take q).length + ts.length) q h (by omega) hq
  rw [List.nil_append, List.length_nil, hfuel _ _ (by omega)] at h4
  refine ⟨m, h1, h2, ?_, by rw [show cutN ((flatF ts).take q) = cutGo ((flatF ts).take q) ((flatF ts).take q).length 0 from rfl, h4, Nat.zero_add], ?_⟩
  · intro k hk hkq
    rcases Nat.lt_or_ge m k with hmk | hmk
    · have h5 := h3 (by omega)
      have h6 := flatF_mono ts (show m + 1 ≤ k by omega)
      omega
    · exact hmk
  · have e : flatF ts = flatF (ts.take m) ++ flatF (ts.drop m) := by rw [← flatF_app, List.take_append_drop]
    rw [e, List.take_left]
end Go.Proofs.Ytkcfhfplppdnnaa
