/- A move that goes over, and compacted rows: plain laws. No program in sight. -/
import Derived.Test.YtnppgocedokioaaHandLaw
import Derived.Test.YtnppgocedokioaaCmpI
namespace Go.Proofs.Ytnppgocedokioaa
open Go.RowKit

theorem mem_compactUpToI (d : Array Int) (m : Nat) : ∀ j, j < m → d[j]! ∈ Lib.compactUpTo d m
  | 0, h => List.mem_map.2 ⟨0, List.mem_filter.2 ⟨List.mem_range.2 h, by unfold Lib.keeps; simp⟩, rfl⟩
  | j + 1, h => by
    by_cases hk : Lib.keeps d (j + 1) = true
    · exact List.mem_map.2 ⟨j + 1, List.mem_filter.2 ⟨List.mem_range.2 h, hk⟩, rfl⟩
    · have e : d[j + 1]! = d[j]! := by
        unfold Lib.keeps at hk
        rw [decide_eq_true_iff] at hk
        have h2 : ¬ (d[j + 1]! ≠ d[j + 1 - 1]!) := fun g => hk (.inr g)
        exact Decidable.not_not.1 h2
      rw [e]
      exact mem_compactUpToI d m j (by omega)
theorem mem_compactI {zs : List Int} {x : Int} : x ∈ Lib.compact zs ↔ x ∈ zs := by
  constructor
  · intro h
    obtain ⟨j, hj, rfl⟩ := List.mem_map.1 h
    have hj := List.mem_range.1 (List.mem_filter.1 hj).1
    rw [show zs.toArray[j]! = zs[j] by simp [hj]]
    exact List.getElem_mem hj
  · intro h
    obtain ⟨j, hj, rfl⟩ := List.getElem_of_mem h
    have := mem_compactUpToI zs.toArray zs.length j hj
    rw [show zs.toArray[j]! = zs[j] by simp [hj]] at this
    exact this
theorem compact_rise {zs : List Int} (h : zs.Pairwise (· ≤ ·)) : UpI (Lib.compact zs) := by
  unfold UpI Lib.compact Lib.compactUpTo
  rw [List.pairwise_map, List.pairwise_filter]
  refine List.Pairwise.imp_of_mem ?_ List.pairwise_lt_range
  intro i j hi hj hij ki kj
  have hi := List.mem_range.1 hi
  have hj := List.mem_range.1 hj
  unfold Lib.keeps at kj
  rw [decide_eq_true_iff] at kj
  have hne := kj.resolve_left (by omega)
  have g : ∀ a b : Nat, a ≤ b → b < zs.length → zs.toArray[a]! ≤ zs.toArray[b]! := by
    intro a b hab hb
    rw [show zs.toArray[a]! = zs[a] by simp [show a < zs.length by omega], show zs.toArray[b]! = zs[b] by simp [hb]]
    rcases Nat.lt_or_ge a b with h1 | h1
    · exact List.pairwise_iff_getElem.1 h a b (by omega) hb h1
    · have : a = b := by omega
      subst this; exact Int.le_refl _
  have g1 := g i (j - 1) (by omega) (by omega)
  have g2 := g (j - 1) j (by omega) hj
  omega
/-- ids that are written one behind the other -/
def wrAll (s : Hnd) (l : List Int) : Hnd := l.foldl (fun s id => (wrH s 1 id).1) s
theorem wr_one {s : Hnd} (hep : s.ep = 1) (hl : s.has.length < 1000) (id : Int) :
    (wrH s 1 id).1.ep = 1 ∧ (wrH s 1 id).1.ow = s.ow ∧ (wrH s 1 id).1.to = s.to ∧ (wrH s 1 id).1.left = s.left ∧ (∀ y, y ∈ (wrH s 1 id).1.has ↔ y = id ∨ y ∈ s.has) ∧ (wrH s 1 id).1.has.length ≤ s.has.length + 1 ∧ s.has.length ≤ (wrH s 1 id).1.has.length := by
  unfold wrH
  rw [if_neg (by rw [hep]; exact fun h => h rfl)]
  by_cases h1 : id ∈ s.has
  · rw [if_pos h1]
    refine ⟨hep, rfl, rfl, rfl, fun y => ⟨.inr, ?_⟩, Nat.le_succ _, Nat.le_refl _⟩
    rintro (rfl | h)
    · exact h1
    · exact h
  · rw [if_neg h1, if_neg (by omega)]
    exact ⟨hep, rfl, rfl, rfl, fun y => insI_mem _ _ _, by simp only [insI_len]; omega, by simp only [insI_len]; omega⟩
theorem wrAll_all {l : List Int} : ∀ {s : Hnd}, OkH s → s.ep = 1 → s.has.length + l.length < 1000 → OkH (wrAll s l) ∧ (wrAll s l).ep = 1 ∧ (wrAll s l).ow = s.ow ∧ (wrAll s l).to = s.to ∧ (wrAll s l).left = s.left ∧ (∀ y, y ∈ (wrAll s l).has ↔ y ∈ l ∨ y ∈ s.has) ∧ (wrAll s l).has.length ≤ s.has.length + l.length := by
  induction l with
  | nil => intro s h1 h2 _; exact ⟨h1, h2, rfl, rfl, rfl, fun y => by show y ∈ s.has ↔ _; simp, Nat.le_refl _⟩
  | cons x l ih =>
    intro s h1 h2 h3
    rw [List.length_cons] at h3
    obtain ⟨a1, a2, a3, a4, a5, a6, a7⟩ := wr_one h2 (by omega) x
    obtain ⟨b1, b2, b3, b4, b5, b6, b7⟩ := ih (okH_wr h1 1 x) a1 (by omega)
    refine ⟨b1, b2, b3.trans a2, b4.trans a3, b5.trans a4, fun y => ?_, by rw [List.length_cons]; show (wrAll (wrH s 1 x).1 l).has.length ≤ _; omega⟩
    show y ∈ (wrAll (wrH s 1 x).1 l).has ↔ _
    rw [b6, a5, List.mem_cons]
    constructor
    · rintro (h | h | h) <;> simp [h]
    · rintro ((h | h) | h) <;> simp [h]
theorem wrAll_step {s : Hnd} {l : List Int} {k : Nat} (h : k < l.length) : wrAll s (l.take (k + 1)) = (wrH (wrAll s (l.take k)) 1 (at_ l k)).1 := by
  unfold wrAll; rw [take_at h, List.foldl_append]; rfl
/-- after all are copied the cut hands over all that was written -/
theorem goes_law {ow to : ByteArray} {ids more : List Int} (hl : ids.length + more.length ≤ 60) {s1 s2 s3 s4 : Hnd} (h1 : s1 = wrAll (newH ow) ids) (h2 : prepH s1 to = (s2, 0)) (h3 : s3 = wrAll s2 more) (h4 : s4 = (copyH s3 ((ids.length + more.length : Nat) : Int)).1) :
    OkH s1 ∧ OkH s2 ∧ OkH s3 ∧ OkH s4 ∧ s1.to = emptyS ∧ s2.to ≠ emptyS ∧ s2.left = s1.has ∧ (copyH s3 ((ids.length + more.length : Nat) : Int)).2 = (0, 0) ∧ cutH s4 = (⟨2, to, emptyS, Lib.compact (sortI (ids ++ more)), [], []⟩, 0) := by
  have hn := okH_new ow
  obtain ⟨a1, a2, a3, a4, a5, a6, a7⟩ := wrAll_all (l := ids) (s := newH ow) hn rfl (by show 0 + _ < _; omega)
  rw [← h1] at a1 a2 a3 a4 a5 a6 a7
  have a7 : s1.has.length ≤ ids.length := by have : s1.has.length ≤ 0 + ids.length := a7; omega
  have e2 := okH_prep a1 to
  rw [h2] at e2
  unfold prepH at h2
  by_cases g1 : nameB to = false
  · rw [if_pos g1] at h2; injection h2 with _ h2; cases h2
  rw [if_neg g1] at h2
  by_cases g2 : s1.to ≠ emptyS
  · rw [if_pos g2] at h2; injection h2 with _ h2; cases h2
  rw [if_neg g2] at h2
  by_cases g3 : to = s1.ow
  · rw [if_pos g3] at h2; injection h2 with _ h2; cases h2
  rw [if_neg g3] at h2
  injection h2 with h2 _
  have hto : to ≠ emptyS := by
    have g1 : nameB to = true := by simpa using g1
    unfold nameB at g1
    exact (of_decide_eq_true g1).1
  have p1 : s2.ep = 1 := by rw [← h2]; exact a2
  have p2 : s2.to = to := by rw [← h2]
  have p3 : s2.has = s1.has := by rw [← h2]
  have p4 : s2.left = s1.has := by rw [← h2]
  obtain ⟨b1, b2, b3, b4, b5, b6, b7⟩ := wrAll_all (l := more) (s := s2) e2 p1 (by rw [p3]; omega)
  rw [← h3] at b1 b2 b3 b4 b5 b6 b7
  have e4 := okH_copy b1 ((ids.length + more.length : Nat) : Int)
  rw [← h4] at e4
  have c1 : s3.to ≠ emptyS := by rw [b4, p2]; exact hto
  have c2 : (min ((ids.length + more.length : Nat) : Int) (s3.left.length : Int)).toNat = s3.left.length := by
    rw [b5, p4]; omega
  have ec : copyH s3 ((ids.length + more.length : Nat) : Int) = (⟨s3.ep, s3.ow, s3.to, s3.has, (s3.left.take s3.left.length).foldl withI s3.next, s3.left.drop s3.left.length⟩, ((s3.left.drop s3.left.length).length, 0)) := by
    unfold copyH
    rw [if_neg (by omega), if_neg c1, c2]
  rw [ec] at h4
  have d1 : s4.to = to := by rw [h4]; exact b4.trans p2
  have d2 : s4.left = [] := by rw [h4]; exact List.drop_of_length_le (Nat.le_refl _)
  have d3 : s4.has = s3.has := by rw [h4]
  have d4 : s4.ep = 1 := by rw [h4]; exact b2
  have d5 : cutH s4 = (⟨wrap64 (s4.ep + 1), s4.to, emptyS, s4.next, [], []⟩, 0) := by
    unfold cutH
    rw [if_neg (by rw [d1]; exact hto), if_neg (by rw [d2]; exact Nat.lt_irrefl _)]
  have d6 := cut_has e4
  rw [d5] at d6
  simp only [] at d6
  have d7 : s4.next = Lib.compact (sortI (ids ++ more)) := by
    refine up_ext e4.upn (compact_rise (sortI_le _)) (fun x => ?_)
    rw [d6, d3, b6, p3, a6, mem_compactI, (sortI_perm _).mem_iff, List.mem_append]
    constructor
    · rintro (h | h | h)
      · exact .inr h
      · exact .inl h
      · cases h
    · rintro (h | h)
      · exact .inr (.inl h)
      · exact .inl h
  refine ⟨a1, e2, b1, e4, a4, by rw [p2]; exact hto, p4, ?_, ?_⟩
  · rw [ec]
    show ((s3.left.drop s3.left.length).length, (0 : Int)) = (0, 0)
    rw [List.drop_of_length_le (Nat.le_refl _)]; rfl
  · rw [d5, d7, d1, d4, show wrap64 (1 + 1) = 2 from by unfold wrap64; omega]
end Go.Proofs.Ytnppgocedokioaa
