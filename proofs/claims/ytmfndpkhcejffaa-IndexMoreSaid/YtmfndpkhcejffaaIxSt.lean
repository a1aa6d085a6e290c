/- An index of labels as it lies in memory, and how it grows. Conditions: none beyond each theorem's own hypotheses. -/
import Derived.Test.YtmfndpkhcejffaaIxKey
namespace Go.Proofs.Ytmfndpkhcejffaa
open Go.RowKit Go.ChangeMaps

/-- rows of labels -/
def LabRows (W : World) (B : Nat) (vs : List Value) (L : List (List Lab)) : Prop :=
  vs.length = L.length ∧ ∀ (j : Nat) (v : Value) (l : List Lab), vs[j]? = some v → L[j]? = some l → W.ownsRow B 55 2 v l.length (labCs l)
/-- the index of labels L, with the numbers D -/
structure IxSt (w0 W : World) (B g b : Nat) (L : List (List Lab)) (D : List (Lab × List Int)) (A : Option Addr) (c : Nat) (vs : List Value) (es : Array MapEntry) (clock : Nat) (kvs : List (Value × Value)) : Prop where
  obj : Blk W g 51 #[.slice A L.length c, .map (some b)]
  og : B ≤ g
  all : W.ownsRow B 43 1 (.slice A L.length c) L.length vs
  rows : LabRows W B vs L
  mp : W.heap[b]? = some (.map es clock)
  ob : B ≤ b
  shape : MpS Try.prog 55 es clock kvs
  have_ : IxRows W B kvs D
  bel : Below B w0 W
variable {w0 W W' : World} {B g b : Nat} {L : List (List Lab)} {D : List (Lab × List Int)} {A : Option Addr} {c : Nat} {vs : List Value} {es : Array MapEntry} {clock : Nat} {kvs : List (Value × Value)}
theorem LabRows.keep (h : LabRows W B vs L) (hk : ∀ (q : Nat) (cs : Array Value), W.heap[q]? = some (Obj.cells cs 55 (0, 0)) → W'.heap[q]? = W.heap[q]?) : LabRows W' B vs L :=
  ⟨h.1, fun j v l hv hl => own_keepB (h.2 j v l hv hl) (fun q hq => by
    obtain ⟨cs, hc⟩ := own_kind (h.2 j v l hv hl) q hq
    exact hk q cs hc)⟩
theorem IxRows.kinds {kvs : List (Value × Value)} {D : List (Lab × List Int)} (h : IxRows W B kvs D) : ∀ p ∈ kvs, ∀ q, p.2.ownBlock = some q → ∃ cs, W.heap[q]? = some (Obj.cells cs 3 (0, 0)) := by
  induction kvs generalizing D with
  | nil => intro p hp; cases hp
  | cons a kvs ih =>
    cases D with
    | nil => exact h.elim
    | cons d D =>
      obtain ⟨⟨h1, h2, h3⟩, h4, h5⟩ := h
      intro p hp q hq
      rcases List.mem_cons.1 hp with e | e
      · subst e; exact own_kind h2 q hq
      · exact ih h5 p e q hq
/-- what turns nothing of what there is -/
theorem IxSt.keep (h : IxSt w0 W B g b L D A c vs es clock kvs) (hk : ∀ q, q < W.heap.size → W'.heap[q]? = W.heap[q]?) (hb : Below B w0 W') : IxSt w0 W' B g b L D A c vs es clock kvs where
  obj := (hk g h.obj.lt).trans h.obj
  og := h.og
  all := own_keepB h.all (fun q hq => hk q ((h.all.lt q hq).2))
  rows := h.rows.keep (fun q cs hc => hk q (Array.getElem?_eq_some_iff.1 hc).1)
  mp := (hk b (Array.getElem?_eq_some_iff.1 h.mp).1).trans h.mp
  ob := h.ob
  shape := h.shape
  have_ := h.have_.keep (fun p hp q hq => by
    obtain ⟨cs, hc⟩ := h.have_.kinds p hp q hq
    exact hk q (Array.getElem?_eq_some_iff.1 hc).1)
  bel := hb
theorem IxSt.next (h : IxSt w0 W B g b L D A c vs es clock kvs) (hb : Below W.heap.size W W') : IxSt w0 W' B g b L D A c vs es clock kvs :=
  h.keep (fun q hq => hb.block q hq) (h.bel.trans (hb.mono (Nat.le_of_lt (Nat.lt_of_le_of_lt h.og h.obj.lt))))
theorem kind_ne {w : World} {base size n : Nat} {e : TypeId} {v : Value} {xs : List Value} (h : w.ownsRow base e size v n xs) {q : Nat} {cs : Array Value} {t : TypeId} (hq : w.heap[q]? = some (Obj.cells cs t (0, 0))) (hne : t ≠ e) : some q ≠ v.ownBlock := fun he => by
  obtain ⟨cs', hc⟩ := own_kind h q he.symm
  rw [hq] at hc
  injection hc with hc
  injection hc with _ h2
  exact hne h2
theorem map_ne {w : World} {base size n : Nat} {e : TypeId} {v : Value} {xs : List Value} (h : w.ownsRow base e size v n xs) {q : Nat} {es : Array MapEntry} {cl : Nat} (hq : w.heap[q]? = some (.map es cl)) : some q ≠ v.ownBlock := fun he => by
  obtain ⟨cs', hc⟩ := own_kind h q he.symm
  rw [hq] at hc
  cases hc
/-- one more row of labels -/
theorem IxSt.addRow (h : IxSt w0 W B g b L D A c vs es clock kvs) {l : List Lab} {v : Value} {A5 : Option Addr} {c5 : Nat} (hv : W.ownsRow B 55 2 v l.length (labCs l)) (hg : W.grownBy W' (Value.slice A L.length c).ownBlock)
    (hall : W'.ownsRow B 43 1 (.slice A5 (L.length + 1) c5) (L.length + 1) (vs ++ [v])) (hb : Below B w0 W') :
    IxSt w0 (W'.setCell ⟨g, 0, none⟩ (.slice A5 (L.length + 1) c5)) B g b (L ++ [l]) D A5 c5 (vs ++ [v]) es clock kvs := by
  have hlen : (L ++ [l]).length = L.length + 1 := by simp
  have hgW : W'.heap[g]? = W.heap[g]? := hg.block g h.obj.lt (kind_ne h.all h.obj (by decide))
  have hobj : Blk W' g 51 #[.slice A L.length c, .map (some b)] := hgW.trans h.obj
  have hset : ∀ q, q ≠ g → (W'.setCell ⟨g, 0, none⟩ (.slice A5 (L.length + 1) c5)).heap[q]? = W'.heap[q]? := fun q hq => Below.heap_setCell _ ⟨g, 0, none⟩ _ q hq
  have hlab : ∀ (q : Nat) (cs : Array Value), W.heap[q]? = some (Obj.cells cs 55 (0, 0)) → (W'.setCell ⟨g, 0, none⟩ (.slice A5 (L.length + 1) c5)).heap[q]? = W.heap[q]? := fun q cs hq => by
    rw [hset q (fun e => by subst e; have := h.obj; rw [Blk, hq] at this; injection this with this; injection this with _ h2; revert h2; decide)]
    exact hg.block q (Array.getElem?_eq_some_iff.1 hq).1 (kind_ne h.all hq (by decide))
  refine ⟨?_, h.og, ?_, ⟨by rw [List.length_append, hlen, h.rows.1]; rfl, fun j u k hu hk => ?_⟩, ?_, h.ob, h.shape, h.have_.keep (fun p hp q hq => ?_), hb.setCell h.og _⟩
  · have := hobj.set 0 (.slice A5 (L.length + 1) c5)
    rw [hlen]; exact this
  · rw [hlen]
    exact own_keepB hall (fun q hq => hset q (fun e => by
      subst e
      exact kind_ne hall hobj (by decide) hq.symm))
  · rcases Nat.lt_or_ge j vs.length with hj | hj
    · rw [List.getElem?_append_left hj] at hu
      rw [List.getElem?_append_left (by rw [← h.rows.1]; exact hj)] at hk
      exact own_keepB (h.rows.2 j u k hu hk) (fun q hq => by
        obtain ⟨cs, hc⟩ := own_kind (h.rows.2 j u k hu hk) q hq
        exact hlab q cs hc)
    · have hjl := (List.getElem?_eq_some_iff.1 hu).1
      rw [List.length_append, List.length_singleton] at hjl
      have hje : j = vs.length := by omega
      subst hje
      rw [List.getElem?_append_right (Nat.le_refl _), Nat.sub_self] at hu
      rw [h.rows.1, List.getElem?_append_right (Nat.le_refl _), Nat.sub_self] at hk
      injection hu with hu
      injection hk with hk
      subst hu hk
      exact own_keepB hv (fun q hq => by
        obtain ⟨cs, hc⟩ := own_kind hv q hq
        exact hlab q cs hc)
  · rw [hset b (fun e => by have := h.obj; rw [Blk, ← e, h.mp] at this; cases this)]
    exact (hg.block b (Array.getElem?_eq_some_iff.1 h.mp).1 (map_ne h.all h.mp)).trans h.mp
  · obtain ⟨cs, hc⟩ := h.have_.kinds p hp q hq
    rw [hset q (fun e => by subst e; have := h.obj; rw [Blk, hc] at this; injection this with this; injection this with _ h2; revert h2; decide)]
    exact hg.block q (Array.getElem?_eq_some_iff.1 hc).1 (kind_ne h.all hc (by decide))
theorem IxRows.apart {kvs : List (Value × Value)} {D : List (Lab × List Int)} (h : IxRows W B kvs D) (hn : (kvs.map (·.1)).Nodup) : ∀ p ∈ kvs, ∀ q ∈ kvs, p.1 ≠ q.1 → p.2.ownBlock ≠ q.2.ownBlock := by
  induction kvs generalizing D with
  | nil => intro p hp; cases hp
  | cons a kvs ih =>
    cases D with
    | nil => exact h.elim
    | cons d D =>
      obtain ⟨_, h4, h5⟩ := h
      rw [List.map_cons, List.nodup_cons] at hn
      intro p hp q hq hpq
      rcases List.mem_cons.1 hp with e | e <;> rcases List.mem_cons.1 hq with e' | e'
      · subst e e'; exact absurd rfl hpq
      · subst e; exact (h4 q e').symm
      · subst e'; exact h4 p e
      · exact ih h5 hn.2 p e q e' hpq
theorem setBlock_heap {W : World} {b : Nat} {o : Obj} (hb : b < W.heap.size) : (setBlock W b o).heap[b]? = some o := by
  unfold setBlock
  simp [hb]
theorem setBlock_other {W : World} {b q : Nat} {o : Obj} (hq : q ≠ b) : (setBlock W b o).heap[q]? = W.heap[q]? := by
  unfold setBlock
  simp [Ne.symm hq]
theorem below_setBlock {B : Nat} {a W : World} (h : Below B a W) {b : Nat} (hb : B ≤ b) (o : Obj) : Below B a (setBlock W b o) :=
  h.trans ⟨rfl, rfl, rfl, by unfold setBlock; simp, fun k hk => setBlock_other (by omega)⟩
/-- a number more at a label -/
theorem IxSt.addNum (h : IxSt w0 W B g b L D A c vs es clock kvs) {y : Lab} {i : Int} {v0 v5 : Value} {W1 W2 : World} {es' : Array MapEntry} {clock' : Nat} {kvs' : List (Value × Value)}
    (h1 : ∀ q, q < W.heap.size → q ≠ b → W1.heap[q]? = W.heap[q]?) (hs1 : W.heap.size ≤ W1.heap.size) (hold : (labV y, v0) ∈ kvs ∨ v0.ownBlock = none) (hg : W1.grownBy W2 v0.ownBlock)
    (hv5 : W2.ownsRow B 3 1 v5 ((atD D y).length + 1) (i64s (atD D y ++ [i]))) (hn5 : v5.ownBlock ≠ none) (hb5 : ∀ k, v5.ownBlock = some k → v0.ownBlock = some k ∨ W1.heap.size ≤ k) (hbel : Below B w0 W2) (hbl : b < W2.heap.size)
    (hS : MpS Try.prog 55 es' clock' kvs') (hput : PutV kvs (labV y) v5 kvs') :
    IxSt w0 (setBlock W2 b (.map es' clock')) B g b L (addD D y i) A c vs es' clock' kvs' := by
  have hnod : (kvs.map (·.1)).Nodup := by
    have := h.shape.stamped.2.2
    rw [← h.shape.pairs, List.map_map]
    exact this
  have hv0 : ∀ (q : Nat) (cs : Array Value) (t : TypeId), W.heap[q]? = some (Obj.cells cs t (0, 0)) → t ≠ 3 → some q ≠ v0.ownBlock := fun q cs t hq ht => by
    rcases hold with hm | hm
    · intro e
      obtain ⟨cs', hc⟩ := h.have_.kinds _ hm q e.symm
      rw [hq] at hc
      injection hc with hc
      injection hc with _ h2
      exact ht h2
    · rw [hm]; intro e; cases e
  have hcell : ∀ (q : Nat) (cs : Array Value) (t : TypeId), W.heap[q]? = some (Obj.cells cs t (0, 0)) → some q ≠ v0.ownBlock → (setBlock W2 b (.map es' clock')).heap[q]? = W.heap[q]? := fun q cs t hq hne => by
    have hqb : q ≠ b := fun e => by rw [e, h.mp] at hq; cases hq
    have hql := (Array.getElem?_eq_some_iff.1 hq).1
    rw [setBlock_other hqb, hg.block q (by omega) hne, h1 q hql hqb]
  have hrow : ∀ p ∈ kvs, p.1 ≠ labV y → ∀ q, p.2.ownBlock = some q → W2.heap[q]? = W.heap[q]? ∧ q < W.heap.size ∧ q ≠ b ∧ some q ≠ v0.ownBlock := fun p hp hne q hq => by
    obtain ⟨cs, hc⟩ := h.have_.kinds p hp q hq
    have hqb : q ≠ b := fun e => by rw [e, h.mp] at hc; cases hc
    have hql := (Array.getElem?_eq_some_iff.1 hc).1
    have hq0 : some q ≠ v0.ownBlock := by
      rcases hold with hm | hm
      · rw [← hq]; exact h.have_.apart hnod p hp _ hm hne
      · rw [hm]; intro e; cases e
    exact ⟨by rw [hg.block q (by omega) hq0, h1 q hql hqb], hql, hqb, hq0⟩
  have hv5' : (setBlock W2 b (.map es' clock')).ownsRow B 3 1 v5 ((atD D y).length + 1) (i64s (atD D y ++ [i])) := own_keepB hv5 (fun q hq => setBlock_other (fun e => by
    rcases hb5 q hq with e1 | e1
    · rcases hold with hm | hm
      · obtain ⟨cs', hc⟩ := h.have_.kinds _ hm q e1
        rw [e, h.mp] at hc; cases hc
      · rw [hm] at e1; cases e1
    · have := (Array.getElem?_eq_some_iff.1 h.mp).1
      omega))
  refine ⟨(hcell g _ _ h.obj (hv0 g _ _ h.obj (by decide))).trans h.obj, h.og, own_keepB h.all (fun q hq => ?_), h.rows.keep (fun q cs hq => hcell q cs _ hq (hv0 q cs _ hq (by decide))), setBlock_heap hbl, h.ob, hS, h.have_.put hnod hput hv5' hn5 (fun p hp hne q hq => ?_) (fun p hp hne e => ?_), below_setBlock hbel h.ob _⟩
  · obtain ⟨cs, hc⟩ := own_kind h.all q hq
    exact hcell q cs _ hc (hv0 q cs _ hc (by decide))
  · obtain ⟨r1, _, r3, _⟩ := hrow p hp hne q hq
    rw [setBlock_other r3, r1]
  · cases hq : p.2.ownBlock with
    | none =>
      rw [hq] at e
      exact hn5 e.symm
    | some q =>
      obtain ⟨_, r2, _, r4⟩ := hrow p hp hne q hq
      rw [hq] at e
      rcases hb5 q e.symm with e1 | e1
      · exact r4 e1.symm
      · omega
end Go.Proofs.Ytmfndpkhcejffaa
