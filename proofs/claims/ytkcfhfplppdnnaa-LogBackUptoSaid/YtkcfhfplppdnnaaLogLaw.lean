/- Frames one behind the other: plain laws. No program in sight. -/
import Derived.Test.YtkcfhfplppdnnaaCut
namespace Go.Proofs.Ytkcfhfplppdnnaa
open Go.RowKit

theorem first_frame {r : List Nat} (hr : r.length ≤ 2000) (rest : List Nat) : firstN (frameL r ++ rest) = (r, (frameL r).length, true) := by
  have ht : takeN (frameL r ++ rest) = (r.length, (putL r.length).length, 0) := by
    unfold frameL
    rw [List.append_assoc, List.append_assoc]
    exact takeN_put (by omega) _
  have hl : (frameL r).length = (putL r.length).length + r.length + 8 := by
    unfold frameL
    rw [List.length_append, List.length_append, be8_len]
  have h1 : ((frameL r ++ rest).drop (putL r.length).length).take r.length = r := by
    unfold frameL
    rw [List.append_assoc, List.append_assoc, List.drop_left, List.take_left]
  have h2 : (frameL r ++ rest).take ((putL r.length).length + r.length + 8) = frameL r := by
    rw [← hl, List.take_left]
  unfold firstN
  rw [ht]
  simp only
  rw [if_neg (by rw [List.length_append, hl]; omega), h1, h2, hl]
  simp
def flatF (rs : List (List Nat)) : List Nat := (rs.map frameL).flatten
theorem cutGo_flat : ∀ (rs : List (List Nat)) (pre : List Nat) (f : Nat), (∀ r ∈ rs, r.length ≤ 2000) → rs.length ≤ f → cutGo (pre ++ flatF rs) f pre.length = (rs, pre.length + (flatF rs).length)
  | [], pre, f, _, _ => by
    have e : flatF [] = [] := rfl
    have hc : ¬ (firstN ((pre ++ flatF []).drop pre.length)).2.2 = true := by
      rw [e, List.drop_left]
      decide
    cases f with
    | zero => simp [cutGo, e]
    | succ f => rw [cutGo, if_neg hc]; simp [e]
  | r :: rs, pre, f, h, hf => by
    obtain ⟨f, rfl⟩ : ∃ f', f = f' + 1 := ⟨f - 1, by simp at hf; omega⟩
    have e : flatF (r :: rs) = frameL r ++ flatF rs := rfl
    have e1 : firstN ((pre ++ flatF (r :: rs)).drop pre.length) = (r, (frameL r).length, true) := by
      rw [List.drop_left, e]
      exact first_frame (h r (by simp)) _
    rw [cutGo, e1, if_pos rfl]
    have e2 : pre ++ flatF (r :: rs) = (pre ++ frameL r) ++ flatF rs := by rw [e, List.append_assoc]
    have e3 : pre.length + (frameL r).length = (pre ++ frameL r).length := by rw [List.length_append]
    have ih := cutGo_flat rs (pre ++ frameL r) f (fun x hx => h x (by simp [hx])) (by simp at hf; omega)
    simp only
    rw [e2, e3, ih, e, List.length_append, List.length_append]
    simp [Nat.add_assoc]
theorem frameL_pos' (r : List Nat) : 9 ≤ (frameL r).length := by
  have := putL_pos r.length
  unfold frameL
  rw [List.length_append, List.length_append, be8_len]
  omega
theorem flatF_ge (rs : List (List Nat)) : rs.length ≤ (flatF rs).length := by
  induction rs with
  | nil => simp [flatF]
  | cons r rs ih =>
    have := frameL_pos' r
    unfold flatF at ih ⊢
    rw [List.map_cons, List.flatten_cons, List.length_append, List.length_cons]
    omega
theorem cut_flat {rs : List (List Nat)} (h : ∀ r ∈ rs, r.length ≤ 2000) : cutN (flatF rs) = (rs, (flatF rs).length) := by
  have := cutGo_flat rs [] (flatF rs).length h (flatF_ge rs)
  simpa [cutN] using this
theorem flatF_app (rs ks : List (List Nat)) : flatF (rs ++ ks) = flatF rs ++ flatF ks := by simp [flatF]
end Go.Proofs.Ytkcfhfplppdnnaa
