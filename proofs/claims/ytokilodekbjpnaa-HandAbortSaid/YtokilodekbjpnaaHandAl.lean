/- Two hands that hold the same: plain Lean, no program in sight. -/
import Derived.Test.YtokilodekbjpnaaHandLaw
namespace Go.Proofs.Ytokilodekbjpnaa
/-- s may be in a move, r is not; both hold the same -/
structure Alike (s r : Hnd) : Prop where
  ep : s.ep = r.ep
  ow : s.ow = r.ow
  has : s.has = r.has
  to : r.to = emptyS
  one : s.ep = 1
theorem alike_new (ow : ByteArray) : Alike (newH ow) (newH ow) := ⟨rfl, rfl, rfl, rfl, rfl⟩
theorem alike_wr {s r : Hnd} (h : Alike s r) (e i : Int) : Alike (wrH s e i).1 (wrH r e i).1 ∧ (wrH s e i).2 = (wrH r e i).2 ∧ (wrH s e i).1.to = s.to := by
  obtain ⟨h1, h2, h3, h4, h5⟩ := h
  unfold wrH
  rw [← h1, ← h3]
  split
  · exact ⟨⟨h1, h2, h3, h4, h5⟩, rfl, rfl⟩
  split
  · exact ⟨⟨h1, h2, h3, h4, h5⟩, rfl, rfl⟩
  split
  · exact ⟨⟨h1, h2, h3, h4, h5⟩, rfl, rfl⟩
  exact ⟨⟨rfl, h2, rfl, h4, h5⟩, rfl, rfl⟩
theorem alike_prep {s r : Hnd} (h : Alike s r) (to : ByteArray) : Alike (prepH s to).1 r := by
  obtain ⟨h1, h2, h3, h4, h5⟩ := h
  unfold prepH
  split
  · exact ⟨h1, h2, h3, h4, h5⟩
  split
  · exact ⟨h1, h2, h3, h4, h5⟩
  split
  · exact ⟨h1, h2, h3, h4, h5⟩
  exact ⟨h1, h2, h3, h4, h5⟩
theorem alike_copy {s r : Hnd} (h : Alike s r) (n : Int) : Alike (copyH s n).1 r ∧ (copyH s n).1.to = s.to := by
  obtain ⟨h1, h2, h3, h4, h5⟩ := h
  unfold copyH
  split
  · exact ⟨⟨h1, h2, h3, h4, h5⟩, rfl⟩
  split
  · exact ⟨⟨h1, h2, h3, h4, h5⟩, rfl⟩
  exact ⟨⟨h1, h2, h3, h4, h5⟩, rfl⟩
/-- a hand that is in no move prepares: it is in one, or it has not begun -/
theorem prep_to {s : Hnd} (h : s.to = emptyS) (to : ByteArray) : ((prepH s to).2 = 0 ∧ (prepH s to).1.to ≠ emptyS) ∨ ((prepH s to).2 ≠ 0 ∧ (prepH s to).2 ≠ 15 ∧ (prepH s to).1.to = emptyS) := by
  unfold prepH
  split
  · exact .inr ⟨by show (4 : Int) ≠ 0; decide, by show (4 : Int) ≠ 15; decide, h⟩
  rename_i hn
  rw [if_neg (by rw [h]; exact fun g => g rfl)]
  split
  · exact .inr ⟨by show (8 : Int) ≠ 0; decide, by show (8 : Int) ≠ 15; decide, h⟩
  refine .inl ⟨rfl, ?_⟩
  have hn : nameB to = true := by simpa using hn
  unfold nameB at hn
  exact (of_decide_eq_true hn).1
theorem abort_in {s : Hnd} (h : s.to ≠ emptyS) : abortH s = (crashH s, 0) := by unfold abortH; rw [if_neg h]
theorem abort_out {s : Hnd} (h : s.to = emptyS) : abortH s = (s, 15) := by unfold abortH; rw [if_pos h]
theorem alike_crash {s r : Hnd} (h : Alike s r) : Alike (crashH s) r := ⟨h.ep, h.ow, h.has, h.to, h.one⟩
/-- two hands alike, neither in a move: one view -/
theorem alike_left {s r : Hnd} (h : Alike s r) (hs : OkH s) (hr : OkH r) (ht : s.to = emptyS) : s.ep = r.ep ∧ s.ow = r.ow ∧ s.to = r.to ∧ s.left = r.left := ⟨h.ep, h.ow, by rw [ht, h.to], by rw [(hs.non ht).2, (hr.non h.to).2]⟩
end Go.Proofs.Ytokilodekbjpnaa
