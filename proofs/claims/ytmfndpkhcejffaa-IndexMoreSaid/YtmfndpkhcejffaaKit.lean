/- Plain laws that all walks of this seat share: how a slice reads as cells, how append grows a row of the call's own, and how a law's row is closed. Conditions: none beyond each theorem's own hypotheses. -/
import Derived.Test.YtmfndpkhcejffaaRows
import Derived.WalkKit
import Derived.WalkSpells
import Derived.WalkLawsBesides
import Derived.ProofKit
import Derived.Lib.Hide
import Derived.Deep.QuietTactic
import Derived.Deep.AppendLies
import Derived.Deep.Draws
import Derived.BigQuiet
import Derived.BigFrame
import Derived.Maps.AppendAt
import Derived.Laws.OwnMore
import Derived.SizedLaws
import Derived.OpenShut
namespace Go.Proofs.Ytmfndpkhcejffaa
open Go.RowKit Go.ChangeShapes Go.WideShapes Go.ChangeAt

/-! ### Ends -/
def R1 (v : Value) (P : World → Prop) : Ending → World → Prop := fun e w' => e = .returned v ∧ P w'
theorem R1.mk {v v' : Value} {P : World → Prop} {w : World} (h : v' = v) (hp : P w) : R1 v P (.returned v') w := ⟨by rw [h], hp⟩
def RV (P : Value → World → Prop) : Ending → World → Prop := fun e w' => ∃ v, e = .returned v ∧ P v w'
theorem RV.mk {v : Value} {P : Value → World → Prop} {w : World} (hp : P v w) : RV P (.returned v) w := ⟨v, rfl, hp⟩
theorem int_eq {k : IntKind} {a b : Int} (h : a = b) : Value.int k a = Value.int k b := by rw [h]
theorem bool_eq {a b : Bool} (h : a = b) : Value.bool a = Value.bool b := by rw [h]
/-- only draws -/
def Drawn (w w' : World) : Prop := ∃ n, w' = w.drewN n
theorem Drawn.refl (w : World) : Drawn w w := ⟨0, rfl⟩
theorem Drawn.of (w : World) (n : Nat) : Drawn w (w.drewN n) := ⟨n, rfl⟩

theorem Drawn.two (w : World) (n m : Nat) : Drawn w ((w.drewN n).drewN m) := ⟨n + m, by rw [World.drewN_drewN]⟩

/-! ### Reading a list -/
def at_ {α : Type} [Inhabited α] (l : List α) (k : Nat) : α := l.getD k default
theorem at_eq {α : Type} [Inhabited α] {l : List α} {k : Nat} (h : k < l.length) : at_ l k = l[k] := by
  simp [at_, List.getD, List.getElem?_eq_getElem h]
theorem get?_at {α : Type} [Inhabited α] {l : List α} {k : Nat} (h : k < l.length) : l[k]? = some (at_ l k) := by
  rw [at_eq h, List.getElem?_eq_getElem h]
theorem at_mem {α : Type} [Inhabited α] {l : List α} {k : Nat} (h : k < l.length) : at_ l k ∈ l := by
  rw [at_eq h]; exact List.getElem_mem h
theorem take_at {α : Type} [Inhabited α] {l : List α} {k : Nat} (h : k < l.length) : l.take (k + 1) = l.take k ++ [at_ l k] := by
  rw [List.take_add_one, get?_at h]; rfl
theorem drop_at {α : Type} [Inhabited α] {l : List α} {k : Nat} (h : k < l.length) : l.drop k = at_ l k :: l.drop (k + 1) := by
  rw [List.drop_eq_getElem_cons h, at_eq h]

theorem add_block (a : Addr) (n : Nat) : (a.add n).block = a.block := by unfold Addr.add; split <;> rfl
theorem add_add_ (a : Addr) (i j : Nat) : (a.add i).add j = a.add (i + j) := by
  unfold Addr.add
  by_cases hi : i = 0 <;> by_cases hj : j = 0 <;> simp [hi, hj, Nat.add_assoc]

/-- a struct's later field, as the walk spells its address -/
theorem cell_off {w : World} {a : Addr} {i j : Nat} {u : Value} (h : w.cell? (a.add (i + j)) = some u) (hj : 0 < j) : w.cell? ⟨(a.add i).block, (a.add i).off + j, none⟩ = some u := by
  rw [← h, ← add_add_]
  generalize a.add i = b
  rw [show b.add j = ⟨b.block, b.off + j, none⟩ by unfold Addr.add; rw [if_neg (by omega)]]

/-- The address (nil where the list is empty) holds the cells, below block B. -/
def Has (w : World) (B : Nat) (A : Option Addr) (xs : List Value) : Prop :=
  xs ≠ [] → ∃ ad, A = some ad ∧ ad.block < B ∧ ∀ j u, xs[j]? = some u → w.cell? (ad.add j) = some u

section
variable {w w' : World} {B B' : Nat} {A : Option Addr} {xs : List Value}
theorem Has.nil (w : World) (B : Nat) (A : Option Addr) : Has w B A [] := fun h => absurd rfl h
theorem Has.at {k : Nat} {u : Value} (h : Has w B A xs) (hk : xs[k]? = some u) : ∃ ad, A = some ad ∧ ad.block < B ∧ w.cell? (ad.add k) = some u := by
  obtain ⟨ad, rfl, hb, hc⟩ := h (by intro e; rw [e] at hk; simp at hk)
  exact ⟨ad, rfl, hb, hc k u hk⟩
theorem Has.keep (h : Has w B A xs) (hk : ∀ p : Addr, p.block < B → w'.cell? p = w.cell? p) : Has w' B A xs := fun hx => by
  obtain ⟨ad, e, hb, hc⟩ := h hx
  exact ⟨ad, e, hb, fun j u hu => (hk _ (by rw [add_block]; exact hb)).trans (hc j u hu)⟩
theorem Has.more (h : Has w B A xs) (hB : B ≤ B') : Has w B' A xs := fun hx => by
  obtain ⟨ad, e, hb, hc⟩ := h hx
  exact ⟨ad, e, by omega, hc⟩
theorem Has.below (h : Has w B A xs) (hb : Below B w w') : Has w' B A xs := h.keep fun _ hp => hb.cell hp
theorem Has.alloc (h : Has w B A xs) (hB : B ≤ w.heap.size) (o : Obj) : Has (w.alloc o) B A xs := h.keep fun p hp => World.cell?_alloc_lt w o p (by omega)
theorem Has.drewN (h : Has w B A xs) (n : Nat) : Has (w.drewN n) B A xs := h
theorem Has.drewN_size (h : Has w w.heap.size A xs) (n : Nat) : Has (w.drewN n) (w.drewN n).heap.size A xs := h
/-- behind a call that turned nothing of what was there -/
theorem Has.next (h : Has w w.heap.size A xs) (hb : Below w.heap.size w w') : Has w' w'.heap.size A xs := (h.below hb).more hb.size
theorem Has.of_own {base size n c : Nat} {e : TypeId} (h : w.ownsRow base e size (.slice A n c) n xs) : Has w w.heap.size A xs := by
  intro hx
  rcases h.2 with ⟨hv, hn⟩ | ⟨g, cap, cur, hv, _, hh, _, _, _, _⟩
  · exact absurd (List.eq_nil_of_length_eq_zero (by rw [h.1, hn]; simp)) hx
  · have hA : A = some ⟨g, 0, none⟩ := by injection hv
    subst hA
    exact ⟨_, rfl, (Array.getElem?_eq_some_iff.1 hh).1, h.cells rfl⟩
/-- a cut: what 's[k:]' holds -/
theorem Has.cut {k n size cap : Nat} (h : Has w B A xs) (hl : xs.length = n * size) (hc : n ≤ cap) :
    Has w B (if cap = k then A else A.map (·.add (k * size))) (xs.drop (k * size)) := by
  intro hx
  have hlt : k * size < xs.length := by
    rcases Nat.lt_or_ge (k * size) xs.length with hlt | hge
    · exact hlt
    · exact absurd (List.drop_eq_nil_of_le hge) hx
  obtain ⟨ad, rfl, hb, hcell⟩ := h (by intro e; rw [e] at hlt; simp at hlt)
  have hkn : k < n := by
    rcases Nat.lt_or_ge k n with h1 | h1
    · exact h1
    · have := Nat.mul_le_mul_right size h1; omega
  rw [if_neg (by omega)]
  refine ⟨ad.add (k * size), rfl, by rw [add_block]; exact hb, fun j u hu => ?_⟩
  rw [add_add_]
  exact hcell _ u (by rw [← hu, List.getElem?_drop])
theorem Has.take (h : Has w B A xs) (k : Nat) : Has w B A (xs.take k) := by
  intro hx
  obtain ⟨ad, rfl, hb, hc⟩ := h (by intro e; rw [e] at hx; simp at hx)
  refine ⟨ad, rfl, hb, fun j u hu => hc j u ?_⟩
  rw [List.getElem?_take] at hu
  split at hu
  · exact hu
  · cases hu
end

/-- An owned row over a call that turned nothing of what was there. -/
theorem own_next {w w' : World} {base size n : Nat} {e : TypeId} {v : Value} {xs : List Value} (h : w.ownsRow base e size v n xs) (hb : Below w.heap.size w w') : w'.ownsRow base e size v n xs := by
  refine ⟨h.1, ?_⟩
  rcases h.2 with hn | ⟨g, cap, cur, rfl, hg, hgg, rest⟩
  · exact .inl hn
  · exact .inr ⟨g, cap, cur, rfl, hg, (hb.block g (Array.getElem?_eq_some_iff.1 hgg).1).trans hgg, rest⟩
theorem own_less {w : World} {base base' size n : Nat} {e : TypeId} {v : Value} {xs : List Value} (h : w.ownsRow base e size v n xs) (hb : base' ≤ base) : w.ownsRow base' e size v n xs := by
  refine ⟨h.1, ?_⟩
  rcases h.2 with hn | ⟨g, cap, cur, rfl, hg, hgg, rest⟩
  · exact .inl hn
  · exact .inr ⟨g, cap, cur, rfl, by omega, hgg, rest⟩
theorem own_drewN {w : World} {base size n : Nat} {e : TypeId} {v : Value} {xs : List Value} (h : w.ownsRow base e size v n xs) (k : Nat) : (w.drewN k).ownsRow base e size v n xs := h
/-- the slice's form -/
theorem own_form {w : World} {base size n : Nat} {e : TypeId} {v : Value} {xs : List Value} (h : w.ownsRow base e size v n xs) : ∃ A c, v = .slice A n c ∧ n ≤ c ∧ c ≤ maxLen ∧ (n = 0 ∨ A ≠ none) ∧ (A = none → c = 0) := by
  rcases h.2 with ⟨rfl, rfl⟩ | ⟨g, cap, cur, rfl, _, _, hn, hc, _⟩
  · exact ⟨none, 0, rfl, Nat.le_refl _, Nat.zero_le _, .inl rfl, fun _ => rfl⟩
  · exact ⟨_, cap, rfl, hn, hc, .inr (by simp), fun h => by cases h⟩

theorem bnext {w w1 w2 : World} (h1 : Below w.heap.size w w1) (h2 : Below w1.heap.size w1 w2) : Below w.heap.size w w2 := h1.trans (h2.mono h1.size)

theorem drawn_below {w w' : World} (h : Drawn w w') : Below w.heap.size w w' := by
  obtain ⟨n, rfl⟩ := h
  exact below_drewN (Below.refl _ _) _

/-! ### Bytes -/
def u8v (b : Nat) : Value := .int .u8 (b : Int)
def u8s (l : List Nat) : List Value := l.map u8v
theorem u8s_len (l : List Nat) : (u8s l).length = l.length := by simp [u8s]
theorem u8s_at {l : List Nat} {k : Nat} (h : k < l.length) : (u8s l)[k]? = some (.int .u8 ((at_ l k : Nat) : Int)) := by
  simp [u8s, get?_at h, u8v]
theorem u8s_app (l m : List Nat) : u8s (l ++ m) = u8s l ++ u8s m := by simp [u8s]
theorem u8s_one (l : List Nat) : ∀ u ∈ u8s l, u.oneCell' = true := by
  intro u hu
  simp only [u8s, List.mem_map] at hu
  obtain ⟨b, _, rfl⟩ := hu
  rfl
def Bytes (l : List Nat) : Prop := ∀ b ∈ l, b < 256
theorem Bytes.at {l : List Nat} (h : Bytes l) (k : Nat) : at_ l k < 256 := by
  rcases Nat.lt_or_ge k l.length with h1 | h1
  · exact h _ (at_mem h1)
  · simp [at_, List.getD, List.getElem?_eq_none h1]

theorem own_cap {w : World} {base size n c : Nat} {e : TypeId} {A : Option Addr} {xs : List Value} (h : w.ownsRow base e size (.slice A n c) n xs) (hA : A = none) : n = 0 ∧ c = 0 := by
  obtain ⟨A', c', e1, _, _, h4, h5⟩ := own_form h
  injection e1 with e1 e2 e3
  subst e1 e3
  exact ⟨h4.resolve_right (fun h => h hA), h5 hA⟩

theorem Has.fresh (w : World) (cs : Array Value) (e : TypeId) : Has (w.alloc (.cells cs e)) (w.alloc (.cells cs e)).heap.size (some ⟨w.heap.size, 0, none⟩) cs.toList := fun _ => by
  refine ⟨_, rfl, by simp, fun j u hu => ?_⟩
  have hadd : (⟨w.heap.size, 0, none⟩ : Addr).add j = ⟨w.heap.size, j, none⟩ := by unfold Addr.add; split <;> simp_all
  rw [hadd, cell_of_row _ _ _ cs e (0, 0) (heap_alloc_new w _)]
  simpa using hu

/-! ### append -/
structure Elem (P : Program) (t e : TypeId) (size bytes : Nat) : Prop where
  ht : P.underlying t = some (.slice e)
  hi : ∃ i z, P.info? e = some i ∧ i.zero = some z ∧ i.size = size ∧ i.bytes = bytes ∧ z.cells.size = size
  hs : 0 < size
theorem Elem.mk' {P : Program} {t e : TypeId} {size bytes : Nat} {z : Value} (ht : P.underlying t = some (.slice e)) (hi : (P.info? e).map (fun i => (i.zero, i.size, i.bytes)) = some (some z, size, bytes)) (hz : z.cells.size = size) (hs : 0 < size) : Elem P t e size bytes := by
  obtain ⟨i0, h1, h2, h3, h4⟩ := info_parts hi
  exact ⟨ht, ⟨i0, z, h1, h2, h3, h4, hz⟩, hs⟩

section
variable {P : Program} {w : World}
theorem run_append_spread {base size bytes : Nat} {t ty e : TypeId} (E : Elem P t e size bytes) {v : Value} {n : Nat} {xs : List Value} (hown : w.ownsRow base e size v n xs)
    {A : Option Addr} {m c B : Nat} {news : List Value} (hr : Has w B A news) (hl : news.length = m * size) (h1 : ∀ u ∈ news, u.oneCell' = true)
    (hmax : (n + m) * bytes ≤ 140737488355328) (h63 : n + m ≤ maxLen) (hbase : base ≤ w.heap.size) :
    ∃ v' w', (Builtin.append_ #[t, t] ty #[v, .slice A m c]).run P w = .ok v' w' ∧ w'.ownsRow base e size v' (n + m) (xs ++ news) ∧ w.grownBy w' v.ownBlock ∧
      (v'.ownBlock = v.ownBlock ∨ v'.ownBlock = some w.heap.size) := by
  obtain ⟨ht, ⟨i, z, hi, hz, hsize, hby, hzs⟩, hsz⟩ := E
  cases A with
  | none =>
    have hn : news = [] := by
      rcases Decidable.em (news = []) with h0 | h0
      · exact h0
      · obtain ⟨ad, h, _⟩ := hr h0
        cases h
    subst hn
    have hm : m = 0 := by
      rcases Nat.eq_zero_or_pos m with h0 | h0
      · exact h0
      · have := Nat.mul_pos h0 hsz; simp at hl; omega
    subst hm
    refine ⟨v, w, ?_, by simpa using hown, World.grownBy.refl w _, .inl rfl⟩
    rcases hown.2 with ⟨rfl, rfl⟩ | ⟨g, cap, cur, rfl, _, _, hnc, _⟩
    · simp [Builtin.append_, run_underlying ht, sizeOf, typeInfo, hi, Builtin.lenOf, Builtin.firstCells]
    · simp [Builtin.append_, run_underlying ht, sizeOf, typeInfo, hi, Builtin.lenOf, Builtin.firstCells, hnc, storeCells]
  | some ad =>
    have hcells : ∀ j u, news[j]? = some u → w.cell? (ad.add j) = some u := by
      intro j u hu
      obtain ⟨ad', h, _, hc⟩ := hr.at hu
      injection h with h
      subst h
      exact hc
    obtain ⟨v', w', hrun, h2, h3, _, h5⟩ := run_append_own_at (P := P) w base t ty e i z size bytes ht hi hz hsize hby hzs hsz v n xs hown ad m c news hl hcells h1 h63 hmax hbase
    exact ⟨v', w', hrun, h2, h3, h5⟩

theorem grown_below {w w' : World} {base : Nat} {e : TypeId} {size : Nat} {v : Value} {n : Nat} {xs : List Value} (hown : w.ownsRow base e size v n xs) (hg : w.grownBy w' v.ownBlock) (hbase : base ≤ w.heap.size) : Below base w w' :=
  (Below.refl _ _).grown hg hbase (fun k hk => (hown.lt k hk).1)

/-- 'out = append(out, more...)', out a row of the call's own -/
theorem wpList_spread {ops : Array Oper} {rest : List Oper} {o : Oper} {a : Act} {Q : Exit → Act → World → Prop} (hgd : Region.wanted o (yielded ops a.tmps) = true) (s x : Operand) (t : TypeId)
    (ho : o.op = .call { callee := .builtin .append, args := #[s, x], argTypes := #[t, t] })
    {base size bytes : Nat} {e : TypeId} (E : Elem P t e size bytes) {v : Value} (hs : a.eval s = v) {n : Nat} {xs : List Value} (hown : w.ownsRow base e size v n xs)
    {A : Option Addr} {m c B : Nat} (hx : a.eval x = .slice A m c) {news : List Value} (hr : Has w B A news)
    (h : ∀ A' c' w', w'.ownsRow base e size (.slice A' (n + m) c') (n + m) (xs ++ news) → w.grownBy w' v.ownBlock → Below base w w' → wpList P ops Q rest (a.put o.dst (.slice A' (n + m) c')) w')
    (hl : news.length = m * size) (h1 : ∀ u ∈ news, u.oneCell' = true) (hmax : (n + m) * bytes ≤ 140737488355328) (h63 : n + m ≤ maxLen) (hbase : base ≤ w.heap.size) : wpList P ops Q (o :: rest) a w := by
  refine BigFrame.wpList_want hgd fun K hK => ?_
  obtain ⟨v', w', hrun, h2, h3, h4⟩ := run_append_spread (ty := o.type) E hown (c := c) hr hl h1 hmax h63 hbase
  obtain ⟨A', c', rfl, _⟩ := own_form h2
  unfold Oper.wp execOp
  simp only [ho, resolve, invoke, builtin, Sem.run_bind, Sem.run_pure, Result.andThen_ok, List.map_toArray, List.map_cons, List.map_nil, hs, hx, hrun]
  exact hK _ _ (h A' c' w' h2 h3 (grown_below hown h3 hbase))

/-- 'out = append(out, x)': the one new element lies in the newest block -/
theorem wpList_append1 {ops : Array Oper} {rest : List Oper} {o : Oper} {a : Act} {Q : Exit → Act → World → Prop} (hgd : Region.wanted o (yielded ops a.tmps) = true) (s x : Operand) (t : TypeId)
    (ho : o.op = .call { callee := .builtin .append, args := #[s, x], argTypes := #[t, t] })
    {base size bytes : Nat} {e : TypeId} (E : Elem P t e size bytes) {v : Value} (hs : a.eval s = v) {n : Nat} {xs : List Value} (hown : w.ownsRow base e size v n xs)
    {cs : Array Value} {e' : TypeId} {g : Nat} {c : Nat} (hx : a.eval x = .slice (some ⟨g, 0, none⟩) 1 c) (hg : g = w.heap.size) (hl : cs.size = size)
    (h : ∀ A' c' w', w'.ownsRow base e size (.slice A' (n + 1) c') (n + 1) (xs ++ cs.toList) → w.grownBy w' v.ownBlock → Below base w w' → wpList P ops Q rest (a.put o.dst (.slice A' (n + 1) c')) w')
    (h1 : ∀ u ∈ cs.toList, u.oneCell' = true) (hmax : (n + 1) * bytes ≤ 140737488355328) (h63 : n + 1 ≤ maxLen) (hbase : base ≤ w.heap.size) : wpList P ops Q (o :: rest) a (w.alloc (.cells cs e')) := by
  subst hg
  have hr : Has (w.alloc (.cells cs e')) (w.heap.size + 1) (some ⟨w.heap.size, 0, none⟩) cs.toList := fun _ => by
    refine ⟨_, rfl, Nat.lt_succ_self _, fun j u hu => ?_⟩
    have hadd : (⟨w.heap.size, 0, none⟩ : Addr).add j = ⟨w.heap.size, j, none⟩ := by unfold Addr.add; split <;> simp_all
    rw [hadd, cell_of_row _ _ _ cs e' (0, 0) (heap_alloc_new w _)]
    simpa using hu
  refine wpList_spread (P := P) hgd s x t ho E hs (hown.alloc _) hx hr ?_ (by simpa using hl) h1 hmax h63 (by simp; omega)
  intro A' c' w' h2 h3 h4
  have h5 : w.grownBy w' v.ownBlock := ⟨h3.os, h3.tape, h3.output, Nat.le_trans (by simp) h3.size, fun k hk hne => (h3.block k (by simp; omega) hne).trans (Below.heap_alloc _ _ _ hk)⟩
  exact h A' c' w' h2 h5 (grown_below hown h5 hbase)
end

/-! ### A block that is known whole -/
def Blk (w : World) (g : Nat) (t : TypeId) (cs : Array Value) : Prop := w.heap[g]? = some (.cells cs t (0, 0))
section
variable {w w' : World} {g : Nat} {t : TypeId} {cs : Array Value}
theorem Blk.lt (h : Blk w g t cs) : g < w.heap.size := (Array.getElem?_eq_some_iff.1 h).1
theorem Blk.cell (h : Blk w g t cs) (i : Nat) : w.cell? ⟨g, i, none⟩ = cs[i]? := cell_of_row w g i cs t (0, 0) h
theorem Blk.frozen (h : Blk w g t cs) (i : Nat) : w.frozen? ⟨g, i, none⟩ = false := by
  unfold Blk at h
  simp [World.frozen?, h]
theorem Blk.new (w : World) (t : TypeId) (cs : Array Value) : Blk (w.alloc (.cells cs t)) w.heap.size t cs := heap_alloc_new w _
theorem Blk.drewN (h : Blk w g t cs) (n : Nat) : Blk (w.drewN n) g t cs := h
theorem Blk.alloc (h : Blk w g t cs) (o : Obj) : Blk (w.alloc o) g t cs := (Below.heap_alloc w o g h.lt).trans h
theorem Blk.set (h : Blk w g t cs) (i : Nat) (u : Value) : Blk (w.setCell ⟨g, i, none⟩ u) g t (cs.setIfInBounds i u) := by
  unfold Blk at h ⊢
  simp [World.setCell, Array.getElem?_modify, h]
theorem Blk.below {B : Nat} (h : Blk w g t cs) (hb : Below B w w') (hg : g < B) : Blk w' g t cs := (hb.block g hg).trans h
theorem Blk.next (h : Blk w g t cs) (hb : Below w.heap.size w w') : Blk w' g t cs := h.below hb h.lt
theorem Blk.grown {row : Option Nat} (h : Blk w g t cs) (hb : w.grownBy w' row) (hg : some g ≠ row) : Blk w' g t cs := (hb.block g h.lt hg).trans h
end
/-- of what was there only block g was written -/
def Only (g : Nat) (w w' : World) : Prop := w.grownBy w' (some g)
theorem Only.refl (g : Nat) (w : World) : Only g w w := World.grownBy.refl w _
theorem Only.trans {g : Nat} {a b c : World} (h : Only g a b) (k : Only g b c) : Only g a c :=
  ⟨k.os.trans h.os, k.tape.trans h.tape, k.output.trans h.output, Nat.le_trans h.size k.size, fun i hi hne => (k.block i (Nat.lt_of_lt_of_le hi h.size) hne).trans (h.block i hi hne)⟩
theorem Only.drewN {g : Nat} {a b : World} (h : Only g a b) (n : Nat) : Only g a (b.drewN n) := ⟨h.os, h.tape, h.output, h.size, h.block⟩
theorem Only.set {g : Nat} {a b : World} (h : Only g a b) (i : Nat) (u : Value) : Only g a (b.setCell ⟨g, i, none⟩ u) :=
  ⟨h.os, h.tape, h.output, by simp [World.setCell]; exact h.size, fun k hk hne => (Below.heap_setCell b ⟨g, i, none⟩ u k (fun e => hne (by rw [e]))).trans (h.block k hk hne)⟩
theorem Only.below {g B : Nat} {w w' : World} (h : Only g w w') (hB : B ≤ w.heap.size) (hg : B ≤ g) : Below B w w' :=
  (Below.refl _ _).grown h hB (fun k hk => by injection hk with hk; omega)
theorem Has.only {g B : Nat} {w w' : World} {A : Option Addr} {xs : List Value} (h : Has w B A xs) (hB : B ≤ w.heap.size) (hg : B ≤ g) (ho : Only g w w') : Has w' B A xs := h.below (ho.below hB hg)

/-! ### A law's row -/
theorem trodAll_below {H : Type} {enc : TypeId × Value → H} {P : Program} (hl : laidOutB P = true) {W W' : World} (hb : Below W.heap.size W W') {ts : List TypeId} (hr : ∀ t ∈ ts, P.readableRec t = true ∧ t < P.types.size) :
    ∀ {vs : List Value} {ds : List (DataW H)} {ps : List MemPlace}, DataW.TrodAll enc P W 0 (fun _ => true) true ts vs ds ps → (∀ x ∈ ps, x.block < W.heap.size) →
      DataW.TrodAll enc P W' 0 (fun b => decide (b < W.heap.size)) true ts vs ds ps := by
  induction ts with
  | nil =>
    intro vs ds ps h _
    obtain ⟨rfl, rfl, rfl⟩ := Go.ChangeShapes.trodAll_nil h
    exact trodAll_mk0
  | cons t ts ih =>
    intro vs ds ps h hlt
    obtain ⟨v, vs', d, ds', p, q, rfl, rfl, rfl, h0, h1⟩ := Go.ChangeShapes.trodAll_cons h
    have hr0 := hr t List.mem_cons_self
    exact trodAll_cons_mk (Below.trod hl hr0.1 hr0.2 h0 hb (fun x hx => hlt x (List.mem_append_left _ hx)))
      (ih (fun t' ht' => hr t' (List.mem_cons_of_mem _ ht')) h1 (fun x hx => hlt x (List.mem_append_right _ hx)))

theorem post_true {H : Type} {enc : TypeId × Value → H} {P : Program} {f : Func} {s : ChangeSpec} {W W' : World} {args : Array Value} {ds gs : List (DataW H)} {before : List MemPlace} {tb : TypeId}
    (hl : laidOutB P = true) (hr : ∀ t ∈ f.params.toList, P.readableRec t = true ∧ t < P.types.size) (hres : f.resultTypes = #[tb]) (hb : P.underlying tb = some .bool) (hvars : s.vars = [])
    (hfn : (s.fn H (ds ++ gs)).results = [.lit (.bool true)] ∧ (s.fn H (ds ++ gs)).args = ds ∧ (s.fn H (ds ++ gs)).vars = [])
    (hW : DataW.Whole enc P f.params.toList s.vars false W args.toList ds gs before) (hbel : Below W.heap.size W W') : s.post enc P f false true false false W args (.bool true) W' := by
  have hlt : ∀ x ∈ before, x.block < W.heap.size := fun x hx => hW.lt x hx
  have hW0 := hW
  obtain ⟨p, q, hA, hV, rfl, _, _⟩ := hW
  refine ⟨ds, gs, p ++ q, [], p, [], hW0, ?_, ?_, ?_, hbel.frame _, fun h => by cases h⟩
  · rw [hfn.1, hres]
    exact trodAll_mk1 (shut_bool hb true)
  · rw [hfn.2.1]
    exact trodAll_below hl hbel hr hA (fun x hx => hlt x (List.mem_append_left _ hx))
  · rw [hfn.2.2, hvars]
    simp [DataW.TrodVars]
end Go.Proofs.Ytmfndpkhcejffaa
