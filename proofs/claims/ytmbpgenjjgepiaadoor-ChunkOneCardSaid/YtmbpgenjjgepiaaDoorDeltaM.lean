/- delta.Pack by a length of its own name, and small laws on times. Conditions: none beyond each theorem's own hypotheses. -/
import Derived.Test.YtmbpgenjjgepiaaDoorPackD
namespace Go.Proofs.YtmbpgenjjgepiaaDoor
open Go.RowKit

theorem moved_sub (a b by_ : Int) : wrap64 (wrap64 (a + by_) - wrap64 (b + by_)) = wrap64 (a - b) := by unfold wrap64; omega
theorem packR_moved (by_ last step : Int) (l : List Int) : packR (wrap64 (last + by_)) step (l.map fun t => wrap64 (t + by_)) = packR last step l := by
  induction l generalizing last step with
  | nil => rfl
  | cons t l ih => rw [List.map_cons, packR, packR, chgOf, chgOf, moved_sub, ih]
theorem packT_moved (by_ : Int) (l : List Int) : (packT (l.map fun t => wrap64 (t + by_))).length = (packT l).length := by
  unfold packT
  rw [List.length_append, List.length_append, List.length_map]
  cases l with
  | nil => rfl
  | cons t l => rw [List.map_cons, packF, packF, List.length_append, List.length_append, packR_moved, toB_len, toB_len, toB_len]
theorem packN_moved (by_ : Int) (l : List Int) : (packN (l.map fun t => wrap64 (t + by_))).2 = (packN l).2 ∧ (packN (l.map fun t => wrap64 (t + by_))).1.2 = (packN l).1.2 ∧ ((packN l).2 = 0 ∨ (packN l).1.2 = 0) := by
  unfold packN
  rw [List.length_map]
  split
  · exact ⟨rfl, rfl, .inr rfl⟩
  · exact ⟨rfl, by show ((packT _).length : Int) = _; rw [packT_moved], .inl rfl⟩

theorem elI64 : Elem Tryd.prog 37 2 1 8 := Elem.mk' (z := .int .i64 0) Tryd.underlying37 (by kernel_rfl) rfl (by decide)
theorem i64s_app1 (l : List Int) (x : Int) : i64s (l ++ [x]) = i64s l ++ (#[.int .i64 x] : Array Value).toList := by simp [i64s, i64v]
theorem take_map_step {l : List Int} (f : Int → Int) {k : Nat} (h : k < l.length) : (l.take (k + 1)).map f = (l.take k).map f ++ [f (at_ l k)] := by
  rw [List.take_add_one, List.getElem?_eq_getElem h, at_eq h, List.map_append]
  rfl

theorem dpack_any' (A : Option Addr) (n c : Nat) (l : List Int) (r : (List Nat × Int) × Int) (hr : packN l = r) (hn : l.length = n) (hl : l.length ≤ maxLen) (hi : I64s l) (w : World) (h : Has w w.heap.size A (i64s l)) (ht : TabAt w) (hw0 : 0 < w.heap.size) :
    Calls Tryd.prog 13 #[.slice A n c] w (RV (BitsP r w)) := by
  subst hr hn
  exact dpack_any A c l hl hi w h ht hw0

end Go.Proofs.YtmbpgenjjgepiaaDoor
