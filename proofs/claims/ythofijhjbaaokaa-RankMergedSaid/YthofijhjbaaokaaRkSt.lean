/- A rank's box while it is worked on: its rows are the call's own. Conditions: none beyond each theorem's own hypotheses. -/
import Derived.Test.YthofijhjbaaokaaConcL
import Derived.Test.YthofijhjbaaokaaWeight
import Derived.Test.YthofijhjbaaokaaSrtLaw
namespace Go.Proofs.Ythofijhjbaaokaa
open Go.RowKit

theorem own_neR {w : World} {g : Nat} {t : TypeId} {cs : Array Value} {base size n : Nat} {v : Value} {e : TypeId} {xs : List Value} (h : Blk w g t cs) (ho : w.ownsRow base e size v n xs) (ht : t ≠ e) : v.ownBlock ≠ some g := by
  rcases ho.2 with ⟨rfl, _⟩ | ⟨q, cap, cur, rfl, hb, hg, h1, h2, h3, h4⟩
  · intro h'; cases h'
  · intro h'
    have h' : some q = some g := h'
    injection h' with h'
    subst h'
    unfold Blk at h
    rw [h] at hg
    injection hg with hg
    injection hg with _ hg
    exact ht hg
theorem own_neO {w : World} {base base' size size' n n' : Nat} {v v' : Value} {e e' : TypeId} {xs xs' : List Value} (h : w.ownsRow base e size v n xs) (h' : w.ownsRow base' e' size' v' n' xs') (ht : e ≠ e') : v.ownBlock = none ∨ v.ownBlock ≠ v'.ownBlock := by
  rcases h.2 with ⟨rfl, _⟩ | ⟨q, cap, cur, rfl, hb, hg, _⟩
  · exact .inl rfl
  · right
    intro he
    have he : some q = v'.ownBlock := he
    rcases h'.2 with ⟨rfl, _⟩ | ⟨q', cap', cur', rfl, hb', hg', _⟩
    · cases he
    · have he : some q = some q' := he
      injection he with he
      subst he
      rw [hg] at hg'
      injection hg' with hg'
      injection hg' with _ hg'
      exact ht hg'
theorem own_setR {w : World} {g : Nat} {base size n : Nat} {v : Value} {e : TypeId} {xs : List Value} (ho : w.ownsRow base e size v n xs) (hne : v.ownBlock ≠ some g) (i : Nat) (u : Value) : (w.setCell ⟨g, i, none⟩ u).ownsRow base e size v n xs := by
  refine ⟨ho.1, ?_⟩
  rcases ho.2 with h | ⟨q, cap, cur, rfl, hb, hg, h1, h2, h3, h4⟩
  · exact .inl h
  · exact .inr ⟨q, cap, cur, rfl, hb, (Below.heap_setCell w ⟨g, i, none⟩ u q (fun e => hne (by rw [e]; rfl))).trans hg, h1, h2, h3, h4⟩
theorem below_setR {w w' : World} {b g : Nat} (h : Below b w w') (hb : b ≤ g) (i : Nat) (u : Value) : Below b w (w'.setCell ⟨g, i, none⟩ u) :=
  ⟨h.os, h.tape, h.output, by simp [World.setCell]; exact h.size, fun k hk => (Below.heap_setCell w' ⟨g, i, none⟩ u k (by show k ≠ g; omega)).trans (h.block k hk)⟩

/-- an own row of int64 -/
def IntOwn (w : World) (b : Nat) (v : Value) (r : List Int) : Prop := ∃ A c, v = .slice A r.length c ∧ w.ownsRow b 2 1 (.slice A r.length c) r.length (i64s r) ∧ I64in r
theorem IntOwn.next {w w' : World} {b : Nat} {v : Value} {r : List Int} (h : IntOwn w b v r) (hb : Below w.heap.size w w') : IntOwn w' b v r := by
  obtain ⟨A, c, e, h1, h2⟩ := h
  exact ⟨A, c, e, own_next h1 hb, h2⟩
theorem IntOwn.less {w : World} {b b' : Nat} {v : Value} {r : List Int} (h : IntOwn w b v r) (hb : b' ≤ b) : IntOwn w b' v r := by
  obtain ⟨A, c, e, h1, h2⟩ := h
  exact ⟨A, c, e, own_less h1 hb, h2⟩
theorem IntOwn.at {w : World} {b : Nat} {v : Value} {r : List Int} (h : IntOwn w b v r) : IntAt w v r := by
  obtain ⟨A, c, e, h1, h2⟩ := h
  obtain ⟨h3, h4⟩ := own_len h1
  refine ⟨A, c, e, h3, h4, fun he => ?_, Has.of_own h1, h2⟩
  exact (own_cap h1 he).2
theorem IntOwn.set {w : World} {b g : Nat} {v : Value} {r : List Int} (h : IntOwn w b v r) (hne : v.ownBlock ≠ some g) (i : Nat) (u : Value) : IntOwn (w.setCell ⟨g, i, none⟩ u) b v r := by
  obtain ⟨A, c, rfl, h1, h2⟩ := h
  exact ⟨A, c, rfl, own_setR h1 hne i u, h2⟩
theorem IntOwn.grown {w w' : World} {b : Nat} {row : Option Nat} {v : Value} {r : List Int} (h : IntOwn w b v r) (hg : w.grownBy w' row) (hne : v.ownBlock = none ∨ v.ownBlock ≠ row) : IntOwn w' b v r := by
  obtain ⟨A, c, rfl, h1, h2⟩ := h
  exact ⟨A, c, rfl, h1.kept hg hne, h2⟩
theorem IntOwn.nil (w : World) (b : Nat) : IntOwn w b (.slice none 0 0) [] := ⟨none, 0, rfl, World.ownsRow_nil _ _ _ _, fun _ h => by cases h⟩
theorem IntOwn.neBlk {w : World} {b g : Nat} {t : TypeId} {cs : Array Value} {v : Value} {r : List Int} (h : IntOwn w b v r) (hk : Blk w g t cs) (ht : t ≠ 2) : v.ownBlock ≠ some g := by
  obtain ⟨A, c, rfl, h1, _⟩ := h
  exact own_neR hk h1 ht

/-- blocks that are left alone -/
abbrev Oth := Nat → TypeId → Array Value → Prop

structure RkS (w : World) (b g : Nat) (O : Oth) (K : Int) (tv : Value) (T : List Int) (B : Option Addr) (e : Nat) (L : List (List Int)) (vs : List Value) (N S : Int) : Prop where
  k : Blk w g 26 #[.int .i64 K, tv, .slice B L.length e, .int .i64 N, .int .i64 S]
  hb : b ≤ g
  t : IntOwn w b tv T
  l : w.ownsRow b 22 1 (.slice B L.length e) L.length vs
  r : ∀ k, k < L.length → ∃ v, vs[k]? = some v ∧ IntOwn w b v (at_ L k) ∧ ∀ q, v.ownBlock = some q → tv.ownBlock ≠ some q
  o : ∀ q t cs, O q t cs → Blk w q t cs ∧ q ≠ g ∧ tv.ownBlock ≠ some q ∧ (Value.slice B L.length e).ownBlock ≠ some q
theorem Blk.nb {w : World} {g q : Nat} {t : TypeId} {cs : Array Value} (h : Blk w q t cs) (hne : q ≠ g) (i : Nat) (u : Value) : Blk (w.setCell ⟨g, i, none⟩ u) q t cs := (Below.heap_setCell w ⟨g, i, none⟩ u q hne).trans h
section
variable {w w' : World} {b g : Nat} {O : Oth} {K : Int} {tv : Value} {T : List Int} {B : Option Addr} {e : Nat} {L : List (List Int)} {vs : List Value} {N S : Int}
theorem RkS.next (h : RkS w b g O K tv T B e L vs N S) (hb : Below w.heap.size w w') : RkS w' b g O K tv T B e L vs N S :=
  ⟨h.k.next hb, h.hb, h.t.next hb, own_next h.l hb, fun k hk => by
    obtain ⟨v, h1, h2, h3⟩ := h.r k hk
    exact ⟨v, h1, h2.next hb, h3⟩, fun q t cs ho => by
    obtain ⟨a, b, c, d⟩ := h.o q t cs ho
    exact ⟨a.next hb, b, c, d⟩⟩
theorem RkS.vlen (h : RkS w b g O K tv T B e L vs N S) : vs.length = L.length := by have := h.l.1; omega
theorem RkS.lne (h : RkS w b g O K tv T B e L vs N S) : (Value.slice B L.length e).ownBlock ≠ some g := own_neR h.k h.l (by decide)
theorem RkS.y (h : RkS w b g O K tv T B e L vs N S) : w.cell? ⟨g, 0, none⟩ = some (.int .i64 K) ∧ w.cell? ⟨g, 1, none⟩ = some tv ∧ w.cell? ⟨g, 2, none⟩ = some (.slice B L.length e) ∧ w.cell? ⟨g, 3, none⟩ = some (.int .i64 N) ∧ w.cell? ⟨g, 4, none⟩ = some (.int .i64 S) :=
  ⟨h.k.cell 0, h.k.cell 1, h.k.cell 2, h.k.cell 3, h.k.cell 4⟩
/-- a cell of the box, other than the tail and the levels -/
theorem RkS.box (h : RkS w b g O K tv T B e L vs N S) (i : Nat) (u : Value) (K' N' S' : Int) (hi : (#[.int .i64 K, tv, .slice B L.length e, .int .i64 N, .int .i64 S] : Array Value).setIfInBounds i u = #[.int .i64 K', tv, .slice B L.length e, .int .i64 N', .int .i64 S']) :
    RkS (w.setCell ⟨g, i, none⟩ u) b g O K' tv T B e L vs N' S' :=
  ⟨by have := h.k.set i u; rwa [hi] at this, h.hb, h.t.set (h.t.neBlk h.k (by decide)) i u, own_setR h.l h.lne i u, fun k hk => by
    obtain ⟨v, h1, h2, h3⟩ := h.r k hk
    exact ⟨v, h1, h2.set (h2.neBlk h.k (by decide)) i u, h3⟩, fun q t cs ho => by
    obtain ⟨a, b, c, d⟩ := h.o q t cs ho
    exact ⟨a.nb b i u, b, c, d⟩⟩
/-- a new tail in the box -/
theorem RkS.tail (h : RkS w b g O K tv T B e L vs N S) {tv' : Value} {T' : List Int} (ht : IntOwn w b tv' T') (hd : ∀ (k : Nat) (v : Value), vs[k]? = some v → ∀ q, v.ownBlock = some q → tv'.ownBlock ≠ some q) (hO : ∀ q t cs, O q t cs → tv'.ownBlock ≠ some q) :
    RkS (w.setCell ⟨g, 1, none⟩ tv') b g O K tv' T' B e L vs N S :=
  ⟨by have := h.k.set 1 tv'; exact this, h.hb, ht.set (ht.neBlk h.k (by decide)) 1 _, own_setR h.l h.lne 1 _, fun k hk => by
    obtain ⟨v, h1, h2, h3⟩ := h.r k hk
    exact ⟨v, h1, h2.set (h2.neBlk h.k (by decide)) 1 _, hd k v h1⟩, fun q t cs ho => by
    obtain ⟨a, b, c, d⟩ := h.o q t cs ho
    exact ⟨a.nb b 1 _, b, hO q t cs ho, d⟩⟩
/-- one level written in its cell -/
theorem RkS.row {gl : Nat} (h : RkS w b g O K tv T (some ⟨gl, 0, none⟩) e L vs N S) {j : Nat} (hj : j < L.length) {v' : Value} {r' : List Int} (hv : IntOwn w b v' r') (hd : ∀ q, v'.ownBlock = some q → tv.ownBlock ≠ some q) :
    RkS (w.setCell ⟨gl, j, none⟩ v') b g O K tv T (some ⟨gl, 0, none⟩) e (L.set j r') (vs.set j v') N S := by
  have hgl : (Value.slice (some ⟨gl, 0, none⟩) L.length e).ownBlock = some gl := rfl
  have hne : gl ≠ g := fun e => h.lne (by rw [hgl, e])
  have keep : ∀ v r, IntOwn w b v r → IntOwn (w.setCell ⟨gl, j, none⟩ v') b v r := fun v r hv => by
    refine hv.set (fun e => ?_) j v'
    obtain ⟨A, c, rfl, h1, _⟩ := hv
    rcases own_neO h1 h.l (by decide) with g1 | g1
    · rw [g1] at e; cases e
    · exact g1 (e.trans hgl.symm)
  refine ⟨?_, h.hb, keep _ _ h.t, ?_, fun k hk => ?_, fun q t cs ho => ?_⟩
  · rw [List.length_set]
    exact (Below.heap_setCell w ⟨gl, j, none⟩ v' g (fun e => hne e.symm)).trans h.k
  · rw [List.length_set]
    exact (h.l.stored j v').1
  · rw [List.length_set] at hk
    obtain ⟨v, h1, h2, h3⟩ := h.r k hk
    by_cases hkj : k = j
    · subst hkj
      refine ⟨v', by rw [List.getElem?_set_self (by rw [h.vlen]; exact hk)], ?_, hd⟩
      rw [show at_ (L.set k r') k = r' from by simp [at_, List.getD, hk]]
      exact keep _ _ hv
    · refine ⟨v, by rw [List.getElem?_set_ne (fun e => hkj e.symm)]; exact h1, ?_, h3⟩
      rw [show at_ (L.set j r') k = at_ L k from by simp [at_, List.getD, List.getElem?_set_ne (fun e : j = k => hkj e.symm)]]
      exact keep _ _ h2
  · obtain ⟨a, b, c, d⟩ := h.o q t cs ho
    exact ⟨a.nb (fun e => d (by rw [hgl, e])) j v', b, c, d⟩
/-- where a level's cell lies -/
theorem RkS.cell (h : RkS w b g O K tv T B e L vs N S) {j : Nat} (hj : j < L.length) : ∃ gl v, B = some ⟨gl, 0, none⟩ ∧ vs[j]? = some v ∧ w.cell? ⟨gl, j, none⟩ = some v ∧ w.frozen? ⟨gl, j, none⟩ = false ∧ b ≤ gl ∧ IntOwn w b v (at_ L j) ∧ ∀ q, v.ownBlock = some q → tv.ownBlock ≠ some q := by
  obtain ⟨gl, cap, ev, _⟩ := h.l.form (show 0 < L.length by omega)
  injection ev with e1 e2 e3
  subst e1 e3
  obtain ⟨v, h1, h2, h3⟩ := h.r j hj
  exact ⟨gl, v, rfl, h1, (h.l.cellAt j (by omega)).trans h1, h.l.frozenAt j, (h.l.lt gl rfl).1, h2, h3⟩
end
/-- the odd places -/
def oddsN (l : List Int) (q : Nat) : List Int := (List.range q).map fun i => at_ l (2 * i + 1)
theorem oddsN_len (l : List Int) (q : Nat) : (oddsN l q).length = q := by simp [oddsN]
theorem oddsN_succ (l : List Int) (q : Nat) : oddsN l (q + 1) = oddsN l q ++ [at_ l (2 * q + 1)] := by simp [oddsN, List.range_succ]
def odds (l : List Int) : List Int := oddsN l (l.length / 2)
/-- what carry does to the levels and the slack -/
inductive CarryR : List (List Int) → Int → List Int → Nat → List (List Int) → Int → Prop
  | stop {L : List (List Int)} {S : Int} {l : List Int} {j : Nat} : ¬ (j < L.length ∧ 0 < (at_ L j).length) → CarryR L S l j ((L ++ List.replicate (j + 1 - L.length) []).set j l) S
  | step {L : List (List Int)} {S : Int} {l : List Int} {j : Nat} {L' : List (List Int)} {S' : Int} : j < L.length → 0 < (at_ L j).length → CarryR (L.set j []) (S + 2 ^ j) (odds (sortI (at_ L j ++ l))) (j + 1) L' S' → CarryR L S l j L' S'
end Go.Proofs.Ythofijhjbaaokaa
