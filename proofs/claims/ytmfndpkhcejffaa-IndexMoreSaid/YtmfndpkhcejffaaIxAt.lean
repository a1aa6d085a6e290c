/- An index of labels as it lies in memory; what is laid into it: plain. Conditions: none. -/
import Derived.Test.YtmfndpkhcejffaaMpS
import Derived.Test.YtmfndpkhcejffaaLbChk
import Derived.Test.YtmfndpkhcejffaaI64s
import Derived.Deep.AppendLies
namespace Go.Proofs.Ytmfndpkhcejffaa
open Go.RowKit Go.ChangeMaps

/-- a row stays where its own block does -/
theorem own_keepB {w w' : World} {base size n : Nat} {e : TypeId} {v : Value} {xs : List Value} (h : w.ownsRow base e size v n xs) (hk : ∀ q, v.ownBlock = some q → w'.heap[q]? = w.heap[q]?) : w'.ownsRow base e size v n xs := by
  refine ⟨h.1, ?_⟩
  rcases h.2 with hn | ⟨g, cap, cur, rfl, hb, hg, h1, h2, h3, h4⟩
  · exact .inl hn
  · exact .inr ⟨g, cap, cur, rfl, hb, (hk g rfl).trans hg, h1, h2, h3, h4⟩
theorem own_kind {w : World} {base size n : Nat} {e : TypeId} {v : Value} {xs : List Value} (h : w.ownsRow base e size v n xs) : ∀ q, v.ownBlock = some q → ∃ cs, w.heap[q]? = some (.cells cs e (0, 0)) := by
  intro q hq
  rcases h.2 with ⟨rfl, _⟩ | ⟨g, cap, cur, rfl, hb, hg, _⟩
  · cases hq
  · injection hq with hq
    subst hq
    exact ⟨cur, hg⟩
/-- the numbers of a label -/
abbrev IxD := List (Lab × List Int)
def labV (x : Lab) : Value := .agg #[.string x.nm, .string x.v]
/-- a number laid at a label -/
def addD : IxD → Lab → Int → IxD
  | [], y, i => [(y, [i])]
  | (k, l) :: D, y, i => if k = y then (k, l ++ [i]) :: D else (k, l) :: addD D y i
/-- all labels of a series, with its number -/
def addDs (D : IxD) (s : List Lab) (i : Int) : IxD := s.foldl (fun D y => addD D y i) D
/-- the numbers at a label -/
def atD : IxD → Lab → List Int
  | [], _ => []
  | (k, l) :: D, y => if k = y then l else atD D y
theorem labV_inj {x y : Lab} (h : labV x = labV y) : x = y := by
  obtain ⟨a, b⟩ := x
  obtain ⟨c, d⟩ := y
  unfold labV at h
  injection h with h
  injection h with h
  injection h with h1 h
  injection h with h2 h
  injection h1 with h1
  injection h2 with h2
  simp only [] at h1 h2
  rw [h1, h2]
theorem atD_addD (D : IxD) (y z : Lab) (i : Int) : atD (addD D y i) z = if y = z then atD D z ++ [i] else atD D z := by
  induction D with
  | nil =>
    unfold addD atD
    by_cases h : y = z
    · rw [if_pos h, if_pos h]; rfl
    · rw [if_neg h, if_neg h]; rfl
  | cons p D ih =>
    obtain ⟨k, l⟩ := p
    rw [addD]
    by_cases hk : k = y
    · subst hk
      rw [if_pos rfl, atD, atD]
      by_cases h : k = z
      · rw [if_pos h, if_pos h, if_pos h]
      · rw [if_neg h, if_neg h, if_neg h]
    · rw [if_neg hk, atD, atD, ih]
      by_cases h : k = z
      · have : ¬ y = z := fun e => hk (h.trans e.symm)
        rw [if_pos h, if_pos h, if_neg this]
      · rw [if_neg h, if_neg h]
/-- the keys, the values of the map, and what they stand for -/
def IxRows (W : World) (B : Nat) : List (Value × Value) → List (Lab × List Int) → Prop
  | [], [] => True
  | p :: kvs, d :: D => (p.1 = labV d.1 ∧ W.ownsRow B 3 1 p.2 d.2.length (i64s d.2) ∧ p.2.ownBlock ≠ none) ∧ (∀ q ∈ kvs, q.2.ownBlock ≠ p.2.ownBlock) ∧ IxRows W B kvs D
  | _, _ => False
theorem IxRows.keep {W W' : World} {B : Nat} : ∀ {kvs : List (Value × Value)} {D : List (Lab × List Int)}, IxRows W B kvs D → (∀ p ∈ kvs, ∀ q, p.2.ownBlock = some q → W'.heap[q]? = W.heap[q]?) → IxRows W' B kvs D
  | [], [], _, _ => trivial
  | p :: kvs, d :: D, ⟨⟨h1, h2, h3⟩, h4, h5⟩, hk => ⟨⟨h1, own_keepB h2 (hk p (by simp)), h3⟩, h4, IxRows.keep h5 (fun q hq => hk q (by simp [hq]))⟩
  | [], _ :: _, h, _ => h.elim
  | _ :: _, [], h, _ => h.elim
theorem putV_cons {p : Value × Value} {kvs kvs' : List (Value × Value)} {key val : Value} (hn : ((p :: kvs).map (·.1)).Nodup) (h : PutV (p :: kvs) key val kvs') :
    (p.1 = key ∧ kvs' = (key, val) :: kvs) ∨ (p.1 ≠ key ∧ ∃ r, kvs' = p :: r ∧ PutV kvs key val r) := by
  rcases h with ⟨pre, v, post, h1, h2⟩ | ⟨h1, h2⟩
  · cases pre with
    | nil =>
      injection h1 with h3 h4
      subst h3 h4
      exact .inl ⟨rfl, h2⟩
    | cons a pre =>
      injection h1 with h3 h4
      subst h3
      refine .inr ⟨fun e => ?_, pre ++ (key, val) :: post, h2, .inl ⟨pre, v, post, h4, rfl⟩⟩
      rw [List.map_cons, List.nodup_cons] at hn
      exact hn.1 (by rw [h4, e]; simp)
  · exact .inr ⟨h1 p (by simp), kvs ++ [(key, val)], h2, .inr ⟨fun q hq => h1 q (by simp [hq]), rfl⟩⟩
/-- what an entry held -/
theorem IxRows.old {W : World} {B : Nat} {y : Lab} {v0 : Value} : ∀ {kvs : List (Value × Value)} {D : List (Lab × List Int)}, IxRows W B kvs D → (kvs.map (·.1)).Nodup → (labV y, v0) ∈ kvs → W.ownsRow B 3 1 v0 (atD D y).length (i64s (atD D y)) ∧ v0.ownBlock ≠ none
  | [], [], _, _, h => by cases h
  | p :: kvs, d :: D, ⟨⟨h1, h2, h3⟩, _, h5⟩, hn, hm => by
    obtain ⟨k, l⟩ := d
    rw [atD]
    rcases List.mem_cons.1 hm with e | e
    · rw [← e] at h1 h2 h3
      have := labV_inj h1
      rw [if_pos this.symm]
      exact ⟨h2, h3⟩
    · have hne : ¬ k = y := fun e1 => by
        rw [List.map_cons, List.nodup_cons] at hn
        exact hn.1 (List.mem_map.2 ⟨_, e, by rw [h1, e1]⟩)
      rw [if_neg hne]
      rw [List.map_cons, List.nodup_cons] at hn
      exact IxRows.old h5 hn.2 e
  | [], _ :: _, h, _, _ => h.elim
  | _ :: _, [], h, _, _ => h.elim
theorem IxRows.lacks {W : World} {B : Nat} {y : Lab} : ∀ {kvs : List (Value × Value)} {D : List (Lab × List Int)}, IxRows W B kvs D → (∀ p ∈ kvs, p.1 ≠ labV y) → atD D y = []
  | [], [], _, _ => rfl
  | p :: kvs, d :: D, ⟨⟨h1, _, _⟩, _, h5⟩, hm => by
    obtain ⟨k, l⟩ := d
    rw [atD, if_neg (fun e => hm p (by simp) (by rw [h1, e]))]
    exact IxRows.lacks h5 (fun q hq => hm q (by simp [hq]))
  | [], _ :: _, h, _ => h.elim
  | _ :: _, [], h, _ => h.elim
/-- a value laid at a label -/
theorem IxRows.put {W W' : World} {B : Nat} {y : Lab} {i : Int} {v5 : Value} : ∀ {kvs : List (Value × Value)} {D : List (Lab × List Int)} {kvs' : List (Value × Value)}, IxRows W B kvs D → (kvs.map (·.1)).Nodup → PutV kvs (labV y) v5 kvs' →
    W'.ownsRow B 3 1 v5 ((atD D y).length + 1) (i64s (atD D y ++ [i])) → v5.ownBlock ≠ none → (∀ p ∈ kvs, p.1 ≠ labV y → ∀ q, p.2.ownBlock = some q → W'.heap[q]? = W.heap[q]?) → (∀ p ∈ kvs, p.1 ≠ labV y → p.2.ownBlock ≠ v5.ownBlock) → IxRows W' B kvs' (addD D y i)
  | [], [], kvs', _, _, hp, h5, h6, _, _ => by
    rcases hp with ⟨pre, v, post, h1, _⟩ | ⟨_, h2⟩
    · cases pre <;> cases h1
    · subst h2
      exact ⟨⟨rfl, h5, h6⟩, by simp, trivial⟩
  | p :: kvs, d :: D, kvs', ⟨⟨h1, h2, h3⟩, h4, hr⟩, hn, hp, h5, h6, hk, hf => by
    obtain ⟨k, l⟩ := d
    rw [addD]
    rw [atD] at h5
    rcases putV_cons hn hp with ⟨e1, e2⟩ | ⟨e1, r, e2, e3⟩
    · have hky : k = y := labV_inj (h1.symm.trans e1)
      rw [if_pos hky] at h5 ⊢
      subst e2
      rw [List.map_cons, List.nodup_cons] at hn
      have hne : ∀ q ∈ kvs, q.1 ≠ labV y := fun q hq e => hn.1 (List.mem_map.2 ⟨q, hq, by rw [e, e1]⟩)
      refine ⟨⟨by rw [hky], by rw [List.length_append]; exact h5, h6⟩, fun q hq => hf q (by simp [hq]) (hne q hq), IxRows.keep hr (fun q hq => hk q (by simp [hq]) (hne q hq))⟩
    · have hky : ¬ k = y := fun e => e1 (by rw [h1, e])
      rw [if_neg hky] at h5 ⊢
      subst e2
      have hn2 := hn
      rw [List.map_cons, List.nodup_cons] at hn2
      have ih := IxRows.put hr hn2.2 e3 h5 h6 (fun q hq => hk q (by simp [hq])) (fun q hq => hf q (by simp [hq]))
      refine ⟨⟨h1, own_keepB h2 (hk p (by simp) e1), h3⟩, fun q hq => ?_, ih⟩
      rcases e3 with ⟨pre, v, post, g1, g2⟩ | ⟨g1, g2⟩
      · rw [g2] at hq
        rcases List.mem_append.1 hq with g | g
        · exact h4 q (by rw [g1]; simp [g])
        · rcases List.mem_cons.1 g with g | g
          · rw [g]; exact (hf p (by simp) e1).symm
          · exact h4 q (by rw [g1]; simp [g])
      · rw [g2] at hq
        rcases List.mem_append.1 hq with g | g
        · exact h4 q g
        · simp at g; rw [g]; exact (hf p (by simp) e1).symm
  | [], _ :: _, _, h, _, _, _, _, _, _ => h.elim
  | _ :: _, [], _, h, _, _, _, _, _, _ => h.elim
end Go.Proofs.Ytmfndpkhcejffaa
