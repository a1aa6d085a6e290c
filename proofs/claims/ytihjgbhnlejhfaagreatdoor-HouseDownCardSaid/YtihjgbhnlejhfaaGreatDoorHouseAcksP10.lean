/- Texts of the proof of HouseAcks, joined (by merge.py). Conditions: each theorem's own hypotheses. -/
import Derived.Test.YtihjgbhnlejhfaaGreatDoorHouseAcksP5
import Derived.Maps.RangeRun
import Derived.RangeFuncStops
import Derived.Maps.Range
namespace Go.Proofs.YtihjgbhnlejhfaaGreatDoor
open Go.RowKit Go.ChangeMaps Go.MapKept

theorem perm_take {α : Type} {f : α → Nat} : ∀ {L : List α} {e : α}, (L.map f).Nodup → e ∈ L → L.Perm (e :: L.filter fun x => f x != f e)
  | [], _, _, h => by cases h
  | x :: L, e, hn, h => by
    rw [List.map_cons, List.nodup_cons] at hn
    rcases List.mem_cons.1 h with rfl | h
    · have : (e :: L).filter (fun x => f x != f e) = L := by
        rw [List.filter_cons]
        simp only [bne_self_eq_false, Bool.false_eq_true, if_false]
        rw [List.filter_eq_self]
        intro y hy
        rw [bne_iff_ne]
        intro e1
        exact hn.1 (List.mem_map.2 ⟨y, hy, e1⟩)
      rw [this]
    · have hne : (f x != f e) = true := by
        rw [bne_iff_ne]
        intro e1
        exact hn.1 (List.mem_map.2 ⟨e, h, e1.symm⟩)
      rw [List.filter_cons, if_pos hne]
      exact ((perm_take hn.2 h).cons x).trans (List.Perm.swap _ _ _)
/-- a map, and an iterator over it: what has come, what is to come -/
structure MpIt (P : Program) (w : World) (k : TypeId) (b r : Nat) (es : Array MapEntry) (clock : Nat) (kvs done todo : List (Value × Value)) : Prop where
  mp : w.heap[b]? = some (.map es clock)
  shape : MpS P k es clock kvs
  it : ∃ since seen c0, w.heap[r]? = some (.mapIter (some b) since seen c0) ∧ (∀ x ∈ es.toList, x.born < since) ∧ since ≤ c0 ∧ since ≤ clock ∧ (leftOf es seen).toList.map (fun e => (e.key, e.val)) = todo
  perm : (done ++ todo).Perm kvs
section
variable {P : Program} {w w' : World} {t k e : TypeId} {b r : Nat} {es : Array MapEntry} {clock : Nat} {kvs done todo : List (Value × Value)}
theorem MpIt.keep (h : MpIt P w k b r es clock kvs done todo) (hb : w'.heap[b]? = w.heap[b]?) (hr : w'.heap[r]? = w.heap[r]?) : MpIt P w' k b r es clock kvs done todo := by
  obtain ⟨h1, h2, ⟨since, seen, c0, h3, h4⟩, h5⟩ := h
  exact ⟨hb.trans h1, h2, ⟨since, seen, c0, hr.trans h3, h4⟩, h5⟩
theorem MpIt.lt (h : MpIt P w k b r es clock kvs done todo) : r < w.heap.size := by
  obtain ⟨_, _, ⟨since, seen, c0, h3, _⟩, _⟩ := h
  exact (Array.getElem?_eq_some_iff.1 h3).1
theorem MpIt.walk (h : MpIt P w k b r es clock kvs done todo) : ∃ o : Obj, w.heap[r]? = some o ∧ o.isWalk = true := by
  obtain ⟨_, _, ⟨since, seen, c0, h3, _⟩, _⟩ := h
  exact ⟨_, h3, rfl⟩
theorem MpIt.of_walks (h : MpIt P w k b r es clock kvs done todo) (hk : KeepsWalks w w') : MpIt P w' k b r es clock kvs done todo := by
  have h1 := h.mp
  obtain ⟨_, _, ⟨since, seen, c0, h3, _⟩, _⟩ := id h
  exact h.keep ((hk.same b _ h1 rfl).trans h1.symm) ((hk.same r _ h3 rfl).trans h3.symm)
theorem MpIt.left_eq (h : MpIt P w k b r es clock kvs done todo) : w.rangeLeft b r = todo.length := by
  obtain ⟨h1, _, ⟨since, seen, c0, h3, _, _, _, h4⟩, _⟩ := h
  simp only [World.rangeLeft, h1, h3]
  rw [← h4, List.length_map, Array.length_toList]
/-- 'range m' -/
theorem MpIt.range (ht : P.underlying t = some (.map k e)) (hb : w.heap[b]? = some (.map es clock)) (S : MpS P k es clock kvs) :
    ∃ w', (Instr.range t (.map (some b))).run P w = .ok (.pointer (some ⟨w.heap.size, 0, none⟩)) w' ∧ MpIt P w' k b w.heap.size es clock kvs [] kvs ∧ w.grownBy w' none ∧ w'.heap.size = w.heap.size + 1 := by
  have hlt := (Array.getElem?_eq_some_iff.1 hb).1
  refine ⟨_, run_range_map w t k e b es clock ht hb, ⟨((MapKept.heap_alloc w _).2 b hlt).trans hb, S, ⟨clock, #[], clock, (MapKept.heap_alloc w _).1, S.stamped.1, Nat.le_refl _, Nat.le_refl _, ?_⟩, List.Perm.refl _⟩, World.grownBy_alloc w _ none, by simp⟩
  rw [← S.pairs]
  have : (es.toList.filter fun _ => true) = es.toList := List.filter_eq_self.2 (fun _ _ => rfl)
  simp [leftOf, this]
theorem next_ty (it : Value) (ty : TypeId) : Instr.next it false ty = Instr.next it false 0 := by unfold Instr.next; rfl
/-- the step -/
theorem MpIt.next (h : MpIt P w k b r es clock kvs done todo) :
    (todo = [] ∧ ∀ ty, (Instr.next (.pointer (some ⟨r, 0, none⟩)) false ty).run P w = .ok (.tuple #[.bool false]) w) ∨
    ∃ key v todo' w', todo.Perm ((key, v) :: todo') ∧ (∀ ty, (Instr.next (.pointer (some ⟨r, 0, none⟩)) false ty).run P w = .ok (.tuple #[.bool true, key, v]) w') ∧ MpIt P w' k b r es clock kvs (done ++ [(key, v)]) todo' ∧
      w.grownBy w' (some r) ∧ w'.heap.size = w.heap.size ∧ (Instr.entry (.pointer (some ⟨r, 0, none⟩))).run P w' = .ok (.tuple #[key, v]) w' := by
  obtain ⟨hb, S, ⟨since, seen, c0, hr, hold, hsc, hsk, htodo⟩, hp⟩ := h
  have hne : r ≠ b := fun e => by rw [e, hb] at hr; cases hr
  rcases run_next_at (P := P) w 0 r b since c0 seen es clock hr hb hold hsc with ⟨h0, hrun⟩ | ⟨x, hx, w1, hal, hrun⟩
  · refine .inl ⟨?_, fun ty => by rw [next_ty]; exact hrun⟩
    rw [← htodo, Array.eq_empty_of_size_eq_zero h0]
    rfl
  · have hh : w1.heap = w.heap := by rcases hal with rfl | rfl <;> rfl
    have hlt := (Array.getElem?_eq_some_iff.1 hr).1
    have hxes : x ∈ es.toList := by unfold leftOf at hx; simp at hx ⊢; exact hx.1
    have hseen : (leftOf es (seen.push x.born)).toList = (leftOf es seen).toList.filter fun y => y.born != x.born := by
      unfold leftOf
      simp only [Array.toList_filter, List.filter_filter]
      refine List.filter_congr fun y _ => ?_
      simp only [Array.contains_push, Bool.not_or]
      rw [Bool.and_comm]
      rfl
    have hnod : ((leftOf es seen).toList.map (·.born)).Nodup := by
      unfold leftOf
      rw [Array.toList_filter]
      exact (List.filter_sublist.map _).nodup S.stamped.2.1
    have hperm := perm_take hnod hx
    rw [← hseen] at hperm
    have hp2 := hperm.map (fun e : MapEntry => (e.key, e.val))
    rw [htodo, List.map_cons] at hp2
    have hb' : (setBlock w1 r (.mapIter (some b) since (seen.push x.born) clock)).heap[b]? = some (.map es clock) := by
      unfold setBlock
      simp [hh, hne, hb]
    have hr' : (setBlock w1 r (.mapIter (some b) since (seen.push x.born) clock)).heap[r]? = some (.mapIter (some b) since (seen.push x.born) clock) := by
      unfold setBlock
      simp [hh, hlt]
    refine .inr ⟨x.key, x.val, _, _, hp2, fun ty => by rw [next_ty]; exact hrun, ⟨hb', S, ⟨since, _, clock, hr', hold, hsk, hsk, rfl⟩, ?_⟩, ?_, ?_, run_entry_at _ r b since seen es clock x hr' hb' hxes S.stamped.2.1⟩
    · refine List.Perm.trans ?_ hp
      rw [List.append_assoc]
      exact (hp2.symm).append_left done
    · have hd : w1.os = w.os ∧ w1.tape = w.tape ∧ w1.output = w.output := by rcases hal with rfl | rfl <;> exact ⟨rfl, rfl, rfl⟩
      refine ⟨hd.1, hd.2.1, hd.2.2, by unfold setBlock; simp [hh], fun i _ hi => ?_⟩
      unfold setBlock
      have : r ≠ i := fun e => hi (by rw [e])
      simp [hh, this]
    · unfold setBlock; simp [hh]
end
end Go.Proofs.YtihjgbhnlejhfaaGreatDoor
