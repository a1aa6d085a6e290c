/- Merging two ordered lists of samples, in plain Lean: mergeUp, its lookups, and the laws of the lattice. No conditions on memory. -/
import Derived.Test.YtkcfhfplppdnnaaSmp
namespace Go.Proofs.Ytkcfhfplppdnnaa
open Go.RowKit

def mergeUp : List Smp → List Smp → List Smp
  | [], b => b
  | x :: a, [] => x :: a
  | x :: a, y :: b =>
    if x.t < y.t then x :: mergeUp a (y :: b)
    else if y.t < x.t then y :: mergeUp (x :: a) b
    else ⟨x.t, max x.v y.v⟩ :: mergeUp a b
termination_by a b => a.length + b.length

def look : List Smp → Int → Option Int
  | [], _ => none
  | x :: l, t => if x.t = t then some x.v else look l t
def join : Option Int → Option Int → Option Int
  | none, y => y
  | some x, none => some x
  | some x, some y => some (max x y)
def Up (l : List Smp) : Prop := l.Pairwise (fun x y => x.t < y.t)

theorem join_comm (x y : Option Int) : join x y = join y x := by
  cases x <;> cases y <;> simp [join, Int.max_comm]
theorem join_assoc (x y z : Option Int) : join (join x y) z = join x (join y z) := by
  cases x <;> cases y <;> cases z <;> simp [join, Int.max_assoc]
theorem join_self (x y : Option Int) : join (join x y) y = join x y := by
  cases x <;> cases y <;> simp [join] <;> omega

theorem look_none {l : List Smp} {t : Int} (h : ∀ s ∈ l, t < s.t) : look l t = none := by
  induction l with
  | nil => rfl
  | cons x l ih =>
    have h1 := h x (by simp)
    rw [look, if_neg (by omega)]
    exact ih (fun s hs => h s (by simp [hs]))

theorem up_mem {x : Smp} {l : List Smp} (h : Up (x :: l)) : ∀ s ∈ l, x.t < s.t := (List.pairwise_cons.1 h).1
theorem up_tail {x : Smp} {l : List Smp} (h : Up (x :: l)) : Up l := (List.pairwise_cons.1 h).2

theorem look_merge (a b : List Smp) (ha : Up a) (hb : Up b) (t : Int) : look (mergeUp a b) t = join (look a t) (look b t) := by
  fun_induction mergeUp a b with
  | case1 b => simp [look, join]
  | case2 x a => cases h : look (x :: a) t <;> simp [look, join]
  | case3 x a y b h ih =>
    rw [look, ih (up_tail ha) hb]
    by_cases hx : x.t = t
    · rw [if_pos hx, look, if_pos hx, look_none (l := y :: b) (t := t)]
      · rfl
      · intro s hs
        rcases List.mem_cons.1 hs with rfl | hs
        · omega
        · have := up_mem hb s hs; omega
    · rw [if_neg hx, show look (x :: a) t = look a t by rw [look, if_neg hx]]
  | case4 x a y b h h2 ih =>
    rw [look, ih ha (up_tail hb)]
    by_cases hy : y.t = t
    · rw [if_pos hy, show look (y :: b) t = some y.v by rw [look, if_pos hy], look_none (l := x :: a) (t := t)]
      · rfl
      · intro s hs
        rcases List.mem_cons.1 hs with rfl | hs
        · omega
        · have := up_mem ha s hs; omega
    · rw [if_neg hy, show look (y :: b) t = look b t by rw [look, if_neg hy]]
  | case5 x a y b h h2 ih =>
    have hxy : x.t = y.t := by omega
    rw [look, ih (up_tail ha) (up_tail hb)]
    by_cases hx : x.t = t
    · simp only [if_pos hx]
      rw [look, if_pos hx, look, if_pos (by omega)]
      rfl
    · simp only [if_neg hx]
      rw [show look (x :: a) t = look a t by rw [look, if_neg hx], show look (y :: b) t = look b t by rw [look, if_neg (by omega)]]

theorem merge_mem (a b : List Smp) : ∀ s ∈ mergeUp a b, (∃ x ∈ a, x.t = s.t) ∨ (∃ y ∈ b, y.t = s.t) := by
  fun_induction mergeUp a b with
  | case1 b => exact fun s hs => .inr ⟨s, hs, rfl⟩
  | case2 x a => exact fun s hs => .inl ⟨s, hs, rfl⟩
  | case3 x a y b h ih =>
    intro s hs
    rcases List.mem_cons.1 hs with rfl | hs
    · exact .inl ⟨_, by simp, rfl⟩
    · rcases ih s hs with ⟨z, hz, e⟩ | ⟨z, hz, e⟩
      · exact .inl ⟨z, by simp [hz], e⟩
      · exact .inr ⟨z, hz, e⟩
  | case4 x a y b h h2 ih =>
    intro s hs
    rcases List.mem_cons.1 hs with rfl | hs
    · exact .inr ⟨_, by simp, rfl⟩
    · rcases ih s hs with ⟨z, hz, e⟩ | ⟨z, hz, e⟩
      · exact .inl ⟨z, hz, e⟩
      · exact .inr ⟨z, by simp [hz], e⟩
  | case5 x a y b h h2 ih =>
    intro s hs
    rcases List.mem_cons.1 hs with rfl | hs
    · exact .inl ⟨x, by simp, rfl⟩
    · rcases ih s hs with ⟨z, hz, e⟩ | ⟨z, hz, e⟩
      · exact .inl ⟨z, by simp [hz], e⟩
      · exact .inr ⟨z, by simp [hz], e⟩

theorem merge_up (a b : List Smp) (ha : Up a) (hb : Up b) : Up (mergeUp a b) := by
  fun_induction mergeUp a b with
  | case1 b => exact hb
  | case2 x a => exact ha
  | case3 x a y b h ih =>
    refine List.pairwise_cons.2 ⟨fun s hs => ?_, ih (up_tail ha) hb⟩
    rcases merge_mem _ _ s hs with ⟨z, hz, e⟩ | ⟨z, hz, e⟩
    · have := up_mem ha z hz; omega
    · rcases List.mem_cons.1 hz with rfl | hz
      · omega
      · have := up_mem hb z hz; omega
  | case4 x a y b h h2 ih =>
    refine List.pairwise_cons.2 ⟨fun s hs => ?_, ih ha (up_tail hb)⟩
    rcases merge_mem _ _ s hs with ⟨z, hz, e⟩ | ⟨z, hz, e⟩
    · rcases List.mem_cons.1 hz with rfl | hz
      · omega
      · have := up_mem ha z hz; omega
    · have := up_mem hb z hz; omega
  | case5 x a y b h h2 ih =>
    refine List.pairwise_cons.2 ⟨fun s hs => ?_, ih (up_tail ha) (up_tail hb)⟩
    simp only
    rcases merge_mem _ _ s hs with ⟨z, hz, e⟩ | ⟨z, hz, e⟩
    · have := up_mem ha z hz; omega
    · have := up_mem hb z hz; omega

theorem look_ext (a b : List Smp) (ha : Up a) (hb : Up b) (h : ∀ t, look a t = look b t) : a = b := by
  induction a generalizing b with
  | nil =>
    cases b with
    | nil => rfl
    | cons y b => have := h y.t; simp [look] at this
  | cons x a ih =>
    cases b with
    | nil => have := h x.t; simp [look] at this
    | cons y b =>
      have hx := h x.t
      have hy := h y.t
      have e : x.t = y.t := by
        rcases Int.lt_trichotomy x.t y.t with g | g | g
        · rw [look_none (l := y :: b) (t := x.t) (fun s hs => by
            rcases List.mem_cons.1 hs with rfl | hs
            · exact g
            · have := up_mem hb s hs; omega)] at hx
          simp [look] at hx
        · exact g
        · rw [look_none (l := x :: a) (t := y.t) (fun s hs => by
            rcases List.mem_cons.1 hs with rfl | hs
            · exact g
            · have := up_mem ha s hs; omega)] at hy
          simp [look] at hy
      have ev : x.v = y.v := by simpa [look, e] using hx
      obtain rfl : x = y := by cases x; cases y; simp_all
      rw [ih b (up_tail ha) (up_tail hb) (fun t => by
        by_cases ht : x.t = t
        · rw [look_none (fun s hs => by have := up_mem ha s hs; omega), look_none (fun s hs => by have := up_mem hb s hs; omega)]
        · have := h t
          rwa [look, if_neg ht, look, if_neg ht] at this)]

theorem merge_comm {a b : List Smp} (ha : Up a) (hb : Up b) : mergeUp a b = mergeUp b a :=
  look_ext _ _ (merge_up a b ha hb) (merge_up b a hb ha) (fun t => by rw [look_merge a b ha hb, look_merge b a hb ha, join_comm])
theorem merge_assoc {a b c : List Smp} (ha : Up a) (hb : Up b) (hc : Up c) : mergeUp (mergeUp a b) c = mergeUp a (mergeUp b c) :=
  look_ext _ _ (merge_up _ c (merge_up a b ha hb) hc) (merge_up a _ ha (merge_up b c hb hc)) (fun t => by
    rw [look_merge _ c (merge_up a b ha hb) hc, look_merge a b ha hb, look_merge a _ ha (merge_up b c hb hc), look_merge b c hb hc, join_assoc])
theorem merge_self {a b : List Smp} (ha : Up a) (hb : Up b) : mergeUp (mergeUp a b) b = mergeUp a b :=
  look_ext _ _ (merge_up _ b (merge_up a b ha hb) hb) (merge_up a b ha hb) (fun t => by
    rw [look_merge _ b (merge_up a b ha hb) hb, look_merge a b ha hb, join_self])
end Go.Proofs.Ytkcfhfplppdnnaa
