/- Texts of the proof of HouseAcks, joined (by merge.py). Conditions: each theorem's own hypotheses. -/
import Derived.Test.YtihjgbhnlejhfaaGreatDoorRows
import Derived.WalkKit
import Derived.WalkSpells
import Derived.WalkLawsBesides
import Derived.ProofKit
import Derived.Lib.Hide
import Derived.Deep.QuietTactic
import Derived.Deep.AppendLies
import Derived.Deep.Draws
import Derived.BigQuiet
import Derived.BigFrame
import Derived.Maps.AppendAt
import Derived.Laws.OwnMore
import Derived.SizedLaws
import Derived.OpenShut
import Derived.Tactics
import Derived.Tactics2
import Derived.Defers
import Derived.Laws.Pointers
import Derived.Laws.LoneSync
import Derived.RegionTactic
import Derived.RegionCalls
import Derived.ChangeAlike
import Derived.OwnWalk
import Derived.Lib.SliceRun
namespace Go.Proofs.YtihjgbhnlejhfaaGreatDoor
open Go.RowKit Go.ChangeShapes Go.WideShapes Go.ChangeAt

/-! ### Ends -/
def R1 (v : Value) (P : World → Prop) : Ending → World → Prop := fun e w' => e = .returned v ∧ P w'
theorem R1.mk {v v' : Value} {P : World → Prop} {w : World} (h : v' = v) (hp : P w) : R1 v P (.returned v') w := ⟨by rw [h], hp⟩
def RV (P : Value → World → Prop) : Ending → World → Prop := fun e w' => ∃ v, e = .returned v ∧ P v w'
theorem RV.mk {v : Value} {P : Value → World → Prop} {w : World} (hp : P v w) : RV P (.returned v) w := ⟨v, rfl, hp⟩
theorem int_eq {k : IntKind} {a b : Int} (h : a = b) : Value.int k a = Value.int k b := by rw [h]
theorem bool_eq {a b : Bool} (h : a = b) : Value.bool a = Value.bool b := by rw [h]
/-- only draws -/
def Drawn (w w' : World) : Prop := ∃ n, w' = w.drewN n
theorem Drawn.refl (w : World) : Drawn w w := ⟨0, rfl⟩
theorem Drawn.of (w : World) (n : Nat) : Drawn w (w.drewN n) := ⟨n, rfl⟩

theorem Drawn.two (w : World) (n m : Nat) : Drawn w ((w.drewN n).drewN m) := ⟨n + m, by rw [World.drewN_drewN]⟩

/-! ### Reading a list -/
def at_ {α : Type} [Inhabited α] (l : List α) (k : Nat) : α := l.getD k default
theorem at_eq {α : Type} [Inhabited α] {l : List α} {k : Nat} (h : k < l.length) : at_ l k = l[k] := by
  simp [at_, List.getD, List.getElem?_eq_getElem h]
theorem get?_at {α : Type} [Inhabited α] {l : List α} {k : Nat} (h : k < l.length) : l[k]? = some (at_ l k) := by
  rw [at_eq h, List.getElem?_eq_getElem h]
theorem at_mem {α : Type} [Inhabited α] {l : List α} {k : Nat} (h : k < l.length) : at_ l k ∈ l := by
  rw [at_eq h]; exact List.getElem_mem h
theorem take_at {α : Type} [Inhabited α] {l : List α} {k : Nat} (h : k < l.length) : l.take (k + 1) = l.take k ++ [at_ l k] := by
  rw [List.take_add_one, get?_at h]; rfl
theorem drop_at {α : Type} [Inhabited α] {l : List α} {k : Nat} (h : k < l.length) : l.drop k = at_ l k :: l.drop (k + 1) := by
  rw [List.drop_eq_getElem_cons h, at_eq h]

theorem add_block (a : Addr) (n : Nat) : (a.add n).block = a.block := by unfold Addr.add; split <;> rfl
theorem add_add_ (a : Addr) (i j : Nat) : (a.add i).add j = a.add (i + j) := by
  unfold Addr.add
  by_cases hi : i = 0 <;> by_cases hj : j = 0 <;> simp [hi, hj, Nat.add_assoc]

/-- a struct's later field, as the walk spells its address -/
theorem cell_off {w : World} {a : Addr} {i j : Nat} {u : Value} (h : w.cell? (a.add (i + j)) = some u) (hj : 0 < j) : w.cell? ⟨(a.add i).block, (a.add i).off + j, none⟩ = some u := by
  rw [← h, ← add_add_]
  generalize a.add i = b
  rw [show b.add j = ⟨b.block, b.off + j, none⟩ by unfold Addr.add; rw [if_neg (by omega)]]

/-- The address (nil where the list is empty) holds the cells, below block B. -/
def Has (w : World) (B : Nat) (A : Option Addr) (xs : List Value) : Prop :=
  xs ≠ [] → ∃ ad, A = some ad ∧ ad.block < B ∧ ∀ j u, xs[j]? = some u → w.cell? (ad.add j) = some u

section
variable {w w' : World} {B B' : Nat} {A : Option Addr} {xs : List Value}
theorem Has.nil (w : World) (B : Nat) (A : Option Addr) : Has w B A [] := fun h => absurd rfl h
theorem Has.at {k : Nat} {u : Value} (h : Has w B A xs) (hk : xs[k]? = some u) : ∃ ad, A = some ad ∧ ad.block < B ∧ w.cell? (ad.add k) = some u := by
  obtain ⟨ad, rfl, hb, hc⟩ := h (by intro e; rw [e] at hk; simp at hk)
  exact ⟨ad, rfl, hb, hc k u hk⟩
theorem Has.keep (h : Has w B A xs) (hk : ∀ p : Addr, p.block < B → w'.cell? p = w.cell? p) : Has w' B A xs := fun hx => by
  obtain ⟨ad, e, hb, hc⟩ := h hx
  exact ⟨ad, e, hb, fun j u hu => (hk _ (by rw [add_block]; exact hb)).trans (hc j u hu)⟩
theorem Has.more (h : Has w B A xs) (hB : B ≤ B') : Has w B' A xs := fun hx => by
  obtain ⟨ad, e, hb, hc⟩ := h hx
  exact ⟨ad, e, by omega, hc⟩
theorem Has.below (h : Has w B A xs) (hb : Below B w w') : Has w' B A xs := h.keep fun _ hp => hb.cell hp
theorem Has.alloc (h : Has w B A xs) (hB : B ≤ w.heap.size) (o : Obj) : Has (w.alloc o) B A xs := h.keep fun p hp => World.cell?_alloc_lt w o p (by omega)
theorem Has.drewN (h : Has w B A xs) (n : Nat) : Has (w.drewN n) B A xs := h
theorem Has.drewN_size (h : Has w w.heap.size A xs) (n : Nat) : Has (w.drewN n) (w.drewN n).heap.size A xs := h
/-- behind a call that turned nothing of what was there -/
theorem Has.next (h : Has w w.heap.size A xs) (hb : Below w.heap.size w w') : Has w' w'.heap.size A xs := (h.below hb).more hb.size
theorem Has.of_own {base size n c : Nat} {e : TypeId} (h : w.ownsRow base e size (.slice A n c) n xs) : Has w w.heap.size A xs := by
  intro hx
  rcases h.2 with ⟨hv, hn⟩ | ⟨g, cap, cur, hv, _, hh, _, _, _, _⟩
  · exact absurd (List.eq_nil_of_length_eq_zero (by rw [h.1, hn]; simp)) hx
  · have hA : A = some ⟨g, 0, none⟩ := by injection hv
    subst hA
    exact ⟨_, rfl, (Array.getElem?_eq_some_iff.1 hh).1, h.cells rfl⟩
/-- a cut: what 's[k:]' holds -/
theorem Has.cut {k n size cap : Nat} (h : Has w B A xs) (hl : xs.length = n * size) (hc : n ≤ cap) :
    Has w B (if cap = k then A else A.map (·.add (k * size))) (xs.drop (k * size)) := by
  intro hx
  have hlt : k * size < xs.length := by
    rcases Nat.lt_or_ge (k * size) xs.length with hlt | hge
    · exact hlt
    · exact absurd (List.drop_eq_nil_of_le hge) hx
  obtain ⟨ad, rfl, hb, hcell⟩ := h (by intro e; rw [e] at hlt; simp at hlt)
  have hkn : k < n := by
    rcases Nat.lt_or_ge k n with h1 | h1
    · exact h1
    · have := Nat.mul_le_mul_right size h1; omega
  rw [if_neg (by omega)]
  refine ⟨ad.add (k * size), rfl, by rw [add_block]; exact hb, fun j u hu => ?_⟩
  rw [add_add_]
  exact hcell _ u (by rw [← hu, List.getElem?_drop])
theorem Has.take (h : Has w B A xs) (k : Nat) : Has w B A (xs.take k) := by
  intro hx
  obtain ⟨ad, rfl, hb, hc⟩ := h (by intro e; rw [e] at hx; simp at hx)
  refine ⟨ad, rfl, hb, fun j u hu => hc j u ?_⟩
  rw [List.getElem?_take] at hu
  split at hu
  · exact hu
  · cases hu
end

/-- An owned row over a call that turned nothing of what was there. -/
theorem own_next {w w' : World} {base size n : Nat} {e : TypeId} {v : Value} {xs : List Value} (h : w.ownsRow base e size v n xs) (hb : Below w.heap.size w w') : w'.ownsRow base e size v n xs := by
  refine ⟨h.1, ?_⟩
  rcases h.2 with hn | ⟨g, cap, cur, rfl, hg, hgg, rest⟩
  · exact .inl hn
  · exact .inr ⟨g, cap, cur, rfl, hg, (hb.block g (Array.getElem?_eq_some_iff.1 hgg).1).trans hgg, rest⟩
theorem own_less {w : World} {base base' size n : Nat} {e : TypeId} {v : Value} {xs : List Value} (h : w.ownsRow base e size v n xs) (hb : base' ≤ base) : w.ownsRow base' e size v n xs := by
  refine ⟨h.1, ?_⟩
  rcases h.2 with hn | ⟨g, cap, cur, rfl, hg, hgg, rest⟩
  · exact .inl hn
  · exact .inr ⟨g, cap, cur, rfl, by omega, hgg, rest⟩
theorem own_drewN {w : World} {base size n : Nat} {e : TypeId} {v : Value} {xs : List Value} (h : w.ownsRow base e size v n xs) (k : Nat) : (w.drewN k).ownsRow base e size v n xs := h
/-- the slice's form -/
theorem own_form {w : World} {base size n : Nat} {e : TypeId} {v : Value} {xs : List Value} (h : w.ownsRow base e size v n xs) : ∃ A c, v = .slice A n c ∧ n ≤ c ∧ c ≤ maxLen ∧ (n = 0 ∨ A ≠ none) ∧ (A = none → c = 0) := by
  rcases h.2 with ⟨rfl, rfl⟩ | ⟨g, cap, cur, rfl, _, _, hn, hc, _⟩
  · exact ⟨none, 0, rfl, Nat.le_refl _, Nat.zero_le _, .inl rfl, fun _ => rfl⟩
  · exact ⟨_, cap, rfl, hn, hc, .inr (by simp), fun h => by cases h⟩

theorem bnext {w w1 w2 : World} (h1 : Below w.heap.size w w1) (h2 : Below w1.heap.size w1 w2) : Below w.heap.size w w2 := h1.trans (h2.mono h1.size)

theorem drawn_below {w w' : World} (h : Drawn w w') : Below w.heap.size w w' := by
  obtain ⟨n, rfl⟩ := h
  exact below_drewN (Below.refl _ _) _

/-! ### Bytes -/
def u8v (b : Nat) : Value := .int .u8 (b : Int)
def u8s (l : List Nat) : List Value := l.map u8v
theorem u8s_len (l : List Nat) : (u8s l).length = l.length := by simp [u8s]
theorem u8s_at {l : List Nat} {k : Nat} (h : k < l.length) : (u8s l)[k]? = some (.int .u8 ((at_ l k : Nat) : Int)) := by
  simp [u8s, get?_at h, u8v]
theorem u8s_app (l m : List Nat) : u8s (l ++ m) = u8s l ++ u8s m := by simp [u8s]
theorem u8s_one (l : List Nat) : ∀ u ∈ u8s l, u.oneCell' = true := by
  intro u hu
  simp only [u8s, List.mem_map] at hu
  obtain ⟨b, _, rfl⟩ := hu
  rfl
def Bytes (l : List Nat) : Prop := ∀ b ∈ l, b < 256
theorem Bytes.at {l : List Nat} (h : Bytes l) (k : Nat) : at_ l k < 256 := by
  rcases Nat.lt_or_ge k l.length with h1 | h1
  · exact h _ (at_mem h1)
  · simp [at_, List.getD, List.getElem?_eq_none h1]

theorem own_cap {w : World} {base size n c : Nat} {e : TypeId} {A : Option Addr} {xs : List Value} (h : w.ownsRow base e size (.slice A n c) n xs) (hA : A = none) : n = 0 ∧ c = 0 := by
  obtain ⟨A', c', e1, _, _, h4, h5⟩ := own_form h
  injection e1 with e1 e2 e3
  subst e1 e3
  exact ⟨h4.resolve_right (fun h => h hA), h5 hA⟩

theorem Has.fresh (w : World) (cs : Array Value) (e : TypeId) : Has (w.alloc (.cells cs e)) (w.alloc (.cells cs e)).heap.size (some ⟨w.heap.size, 0, none⟩) cs.toList := fun _ => by
  refine ⟨_, rfl, by simp, fun j u hu => ?_⟩
  have hadd : (⟨w.heap.size, 0, none⟩ : Addr).add j = ⟨w.heap.size, j, none⟩ := by unfold Addr.add; split <;> simp_all
  rw [hadd, cell_of_row _ _ _ cs e (0, 0) (heap_alloc_new w _)]
  simpa using hu

/-! ### append -/
structure Elem (P : Program) (t e : TypeId) (size bytes : Nat) : Prop where
  ht : P.underlying t = some (.slice e)
  hi : ∃ i z, P.info? e = some i ∧ i.zero = some z ∧ i.size = size ∧ i.bytes = bytes ∧ z.cells.size = size
  hs : 0 < size
theorem Elem.mk' {P : Program} {t e : TypeId} {size bytes : Nat} {z : Value} (ht : P.underlying t = some (.slice e)) (hi : (P.info? e).map (fun i => (i.zero, i.size, i.bytes)) = some (some z, size, bytes)) (hz : z.cells.size = size) (hs : 0 < size) : Elem P t e size bytes := by
  obtain ⟨i0, h1, h2, h3, h4⟩ := info_parts hi
  exact ⟨ht, ⟨i0, z, h1, h2, h3, h4, hz⟩, hs⟩

section
variable {P : Program} {w : World}
theorem run_append_spread {base size bytes : Nat} {t ty e : TypeId} (E : Elem P t e size bytes) {v : Value} {n : Nat} {xs : List Value} (hown : w.ownsRow base e size v n xs)
    {A : Option Addr} {m c B : Nat} {news : List Value} (hr : Has w B A news) (hl : news.length = m * size) (h1 : ∀ u ∈ news, u.oneCell' = true)
    (hmax : (n + m) * bytes ≤ 140737488355328) (h63 : n + m ≤ maxLen) (hbase : base ≤ w.heap.size) :
    ∃ v' w', (Builtin.append_ #[t, t] ty #[v, .slice A m c]).run P w = .ok v' w' ∧ w'.ownsRow base e size v' (n + m) (xs ++ news) ∧ w.grownBy w' v.ownBlock ∧
      (v'.ownBlock = v.ownBlock ∨ v'.ownBlock = some w.heap.size) := by
  obtain ⟨ht, ⟨i, z, hi, hz, hsize, hby, hzs⟩, hsz⟩ := E
  cases A with
  | none =>
    have hn : news = [] := by
      rcases Decidable.em (news = []) with h0 | h0
      · exact h0
      · obtain ⟨ad, h, _⟩ := hr h0
        cases h
    subst hn
    have hm : m = 0 := by
      rcases Nat.eq_zero_or_pos m with h0 | h0
      · exact h0
      · have := Nat.mul_pos h0 hsz; simp at hl; omega
    subst hm
    refine ⟨v, w, ?_, by simpa using hown, World.grownBy.refl w _, .inl rfl⟩
    rcases hown.2 with ⟨rfl, rfl⟩ | ⟨g, cap, cur, rfl, _, _, hnc, _⟩
    · simp [Builtin.append_, run_underlying ht, sizeOf, typeInfo, hi, Builtin.lenOf, Builtin.firstCells]
    · simp [Builtin.append_, run_underlying ht, sizeOf, typeInfo, hi, Builtin.lenOf, Builtin.firstCells, hnc, storeCells]
  | some ad =>
    have hcells : ∀ j u, news[j]? = some u → w.cell? (ad.add j) = some u := by
      intro j u hu
      obtain ⟨ad', h, _, hc⟩ := hr.at hu
      injection h with h
      subst h
      exact hc
    obtain ⟨v', w', hrun, h2, h3, _, h5⟩ := run_append_own_at (P := P) w base t ty e i z size bytes ht hi hz hsize hby hzs hsz v n xs hown ad m c news hl hcells h1 h63 hmax hbase
    exact ⟨v', w', hrun, h2, h3, h5⟩

theorem grown_below {w w' : World} {base : Nat} {e : TypeId} {size : Nat} {v : Value} {n : Nat} {xs : List Value} (hown : w.ownsRow base e size v n xs) (hg : w.grownBy w' v.ownBlock) (hbase : base ≤ w.heap.size) : Below base w w' :=
  (Below.refl _ _).grown hg hbase (fun k hk => (hown.lt k hk).1)

/-- 'out = append(out, more...)', out a row of the call's own -/
theorem wpList_spread {ops : Array Oper} {rest : List Oper} {o : Oper} {a : Act} {Q : Exit → Act → World → Prop} (hgd : Region.wanted o (yielded ops a.tmps) = true) (s x : Operand) (t : TypeId)
    (ho : o.op = .call { callee := .builtin .append, args := #[s, x], argTypes := #[t, t] })
    {base size bytes : Nat} {e : TypeId} (E : Elem P t e size bytes) {v : Value} (hs : a.eval s = v) {n : Nat} {xs : List Value} (hown : w.ownsRow base e size v n xs)
    {A : Option Addr} {m c B : Nat} (hx : a.eval x = .slice A m c) {news : List Value} (hr : Has w B A news)
    (h : ∀ A' c' w', w'.ownsRow base e size (.slice A' (n + m) c') (n + m) (xs ++ news) → w.grownBy w' v.ownBlock → Below base w w' → wpList P ops Q rest (a.put o.dst (.slice A' (n + m) c')) w')
    (hl : news.length = m * size) (h1 : ∀ u ∈ news, u.oneCell' = true) (hmax : (n + m) * bytes ≤ 140737488355328) (h63 : n + m ≤ maxLen) (hbase : base ≤ w.heap.size) : wpList P ops Q (o :: rest) a w := by
  refine BigFrame.wpList_want hgd fun K hK => ?_
  obtain ⟨v', w', hrun, h2, h3, h4⟩ := run_append_spread (ty := o.type) E hown (c := c) hr hl h1 hmax h63 hbase
  obtain ⟨A', c', rfl, _⟩ := own_form h2
  unfold Oper.wp execOp
  simp only [ho, resolve, invoke, builtin, Sem.run_bind, Sem.run_pure, Result.andThen_ok, List.map_toArray, List.map_cons, List.map_nil, hs, hx, hrun]
  exact hK _ _ (h A' c' w' h2 h3 (grown_below hown h3 hbase))

/-- 'out = append(out, x)': the one new element lies in the newest block -/
theorem wpList_append1 {ops : Array Oper} {rest : List Oper} {o : Oper} {a : Act} {Q : Exit → Act → World → Prop} (hgd : Region.wanted o (yielded ops a.tmps) = true) (s x : Operand) (t : TypeId)
    (ho : o.op = .call { callee := .builtin .append, args := #[s, x], argTypes := #[t, t] })
    {base size bytes : Nat} {e : TypeId} (E : Elem P t e size bytes) {v : Value} (hs : a.eval s = v) {n : Nat} {xs : List Value} (hown : w.ownsRow base e size v n xs)
    {cs : Array Value} {e' : TypeId} {g : Nat} {c : Nat} (hx : a.eval x = .slice (some ⟨g, 0, none⟩) 1 c) (hg : g = w.heap.size) (hl : cs.size = size)
    (h : ∀ A' c' w', w'.ownsRow base e size (.slice A' (n + 1) c') (n + 1) (xs ++ cs.toList) → w.grownBy w' v.ownBlock → Below base w w' → wpList P ops Q rest (a.put o.dst (.slice A' (n + 1) c')) w')
    (h1 : ∀ u ∈ cs.toList, u.oneCell' = true) (hmax : (n + 1) * bytes ≤ 140737488355328) (h63 : n + 1 ≤ maxLen) (hbase : base ≤ w.heap.size) : wpList P ops Q (o :: rest) a (w.alloc (.cells cs e')) := by
  subst hg
  have hr : Has (w.alloc (.cells cs e')) (w.heap.size + 1) (some ⟨w.heap.size, 0, none⟩) cs.toList := fun _ => by
    refine ⟨_, rfl, Nat.lt_succ_self _, fun j u hu => ?_⟩
    have hadd : (⟨w.heap.size, 0, none⟩ : Addr).add j = ⟨w.heap.size, j, none⟩ := by unfold Addr.add; split <;> simp_all
    rw [hadd, cell_of_row _ _ _ cs e' (0, 0) (heap_alloc_new w _)]
    simpa using hu
  refine wpList_spread (P := P) hgd s x t ho E hs (hown.alloc _) hx hr ?_ (by simpa using hl) h1 hmax h63 (by simp; omega)
  intro A' c' w' h2 h3 h4
  have h5 : w.grownBy w' v.ownBlock := ⟨h3.os, h3.tape, h3.output, Nat.le_trans (by simp) h3.size, fun k hk hne => (h3.block k (by simp; omega) hne).trans (Below.heap_alloc _ _ _ hk)⟩
  exact h A' c' w' h2 h5 (grown_below hown h5 hbase)
end

/-! ### A block that is known whole -/
def Blk (w : World) (g : Nat) (t : TypeId) (cs : Array Value) : Prop := w.heap[g]? = some (.cells cs t (0, 0))
section
variable {w w' : World} {g : Nat} {t : TypeId} {cs : Array Value}
theorem Blk.lt (h : Blk w g t cs) : g < w.heap.size := (Array.getElem?_eq_some_iff.1 h).1
theorem Blk.cell (h : Blk w g t cs) (i : Nat) : w.cell? ⟨g, i, none⟩ = cs[i]? := cell_of_row w g i cs t (0, 0) h
theorem Blk.frozen (h : Blk w g t cs) (i : Nat) : w.frozen? ⟨g, i, none⟩ = false := by
  unfold Blk at h
  simp [World.frozen?, h]
theorem Blk.new (w : World) (t : TypeId) (cs : Array Value) : Blk (w.alloc (.cells cs t)) w.heap.size t cs := heap_alloc_new w _
theorem Blk.drewN (h : Blk w g t cs) (n : Nat) : Blk (w.drewN n) g t cs := h
theorem Blk.alloc (h : Blk w g t cs) (o : Obj) : Blk (w.alloc o) g t cs := (Below.heap_alloc w o g h.lt).trans h
theorem Blk.set (h : Blk w g t cs) (i : Nat) (u : Value) : Blk (w.setCell ⟨g, i, none⟩ u) g t (cs.setIfInBounds i u) := by
  unfold Blk at h ⊢
  simp [World.setCell, Array.getElem?_modify, h]
theorem Blk.below {B : Nat} (h : Blk w g t cs) (hb : Below B w w') (hg : g < B) : Blk w' g t cs := (hb.block g hg).trans h
theorem Blk.next (h : Blk w g t cs) (hb : Below w.heap.size w w') : Blk w' g t cs := h.below hb h.lt
theorem Blk.grown {row : Option Nat} (h : Blk w g t cs) (hb : w.grownBy w' row) (hg : some g ≠ row) : Blk w' g t cs := (hb.block g h.lt hg).trans h
end
/-- of what was there only block g was written -/
def Only (g : Nat) (w w' : World) : Prop := w.grownBy w' (some g)
theorem Only.refl (g : Nat) (w : World) : Only g w w := World.grownBy.refl w _
theorem Only.trans {g : Nat} {a b c : World} (h : Only g a b) (k : Only g b c) : Only g a c :=
  ⟨k.os.trans h.os, k.tape.trans h.tape, k.output.trans h.output, Nat.le_trans h.size k.size, fun i hi hne => (k.block i (Nat.lt_of_lt_of_le hi h.size) hne).trans (h.block i hi hne)⟩
theorem Only.drewN {g : Nat} {a b : World} (h : Only g a b) (n : Nat) : Only g a (b.drewN n) := ⟨h.os, h.tape, h.output, h.size, h.block⟩
theorem Only.set {g : Nat} {a b : World} (h : Only g a b) (i : Nat) (u : Value) : Only g a (b.setCell ⟨g, i, none⟩ u) :=
  ⟨h.os, h.tape, h.output, by simp [World.setCell]; exact h.size, fun k hk hne => (Below.heap_setCell b ⟨g, i, none⟩ u k (fun e => hne (by rw [e]))).trans (h.block k hk hne)⟩
theorem Only.below {g B : Nat} {w w' : World} (h : Only g w w') (hB : B ≤ w.heap.size) (hg : B ≤ g) : Below B w w' :=
  (Below.refl _ _).grown h hB (fun k hk => by injection hk with hk; omega)
theorem Has.only {g B : Nat} {w w' : World} {A : Option Addr} {xs : List Value} (h : Has w B A xs) (hB : B ≤ w.heap.size) (hg : B ≤ g) (ho : Only g w w') : Has w' B A xs := h.below (ho.below hB hg)

/-! ### A law's row -/
theorem trodAll_below {H : Type} {enc : TypeId × Value → H} {P : Program} (hl : laidOutB P = true) {W W' : World} (hb : Below W.heap.size W W') {ts : List TypeId} (hr : ∀ t ∈ ts, P.readableRec t = true ∧ t < P.types.size) :
    ∀ {vs : List Value} {ds : List (DataW H)} {ps : List MemPlace}, DataW.TrodAll enc P W 0 (fun _ => true) true ts vs ds ps → (∀ x ∈ ps, x.block < W.heap.size) →
      DataW.TrodAll enc P W' 0 (fun b => decide (b < W.heap.size)) true ts vs ds ps := by
  induction ts with
  | nil =>
    intro vs ds ps h _
    obtain ⟨rfl, rfl, rfl⟩ := Go.ChangeShapes.trodAll_nil h
    exact trodAll_mk0
  | cons t ts ih =>
    intro vs ds ps h hlt
    obtain ⟨v, vs', d, ds', p, q, rfl, rfl, rfl, h0, h1⟩ := Go.ChangeShapes.trodAll_cons h
    have hr0 := hr t List.mem_cons_self
    exact trodAll_cons_mk (Below.trod hl hr0.1 hr0.2 h0 hb (fun x hx => hlt x (List.mem_append_left _ hx)))
      (ih (fun t' ht' => hr t' (List.mem_cons_of_mem _ ht')) h1 (fun x hx => hlt x (List.mem_append_right _ hx)))

theorem post_true {H : Type} {enc : TypeId × Value → H} {P : Program} {f : Func} {s : ChangeSpec} {W W' : World} {args : Array Value} {ds gs : List (DataW H)} {before : List MemPlace} {tb : TypeId}
    (hl : laidOutB P = true) (hr : ∀ t ∈ f.params.toList, P.readableRec t = true ∧ t < P.types.size) (hres : f.resultTypes = #[tb]) (hb : P.underlying tb = some .bool) (hvars : s.vars = [])
    (hfn : (s.fn H (ds ++ gs)).results = [.lit (.bool true)] ∧ (s.fn H (ds ++ gs)).args = ds ∧ (s.fn H (ds ++ gs)).vars = [])
    (hW : DataW.Whole enc P f.params.toList s.vars false W args.toList ds gs before) (hbel : Below W.heap.size W W') : s.post enc P f false true false false W args (.bool true) W' := by
  have hlt : ∀ x ∈ before, x.block < W.heap.size := fun x hx => hW.lt x hx
  have hW0 := hW
  obtain ⟨p, q, hA, hV, rfl, _, _⟩ := hW
  refine ⟨ds, gs, p ++ q, [], p, [], hW0, ?_, ?_, ?_, hbel.frame _, fun h => by cases h⟩
  · rw [hfn.1, hres]
    exact trodAll_mk1 (shut_bool hb true)
  · rw [hfn.2.1]
    exact trodAll_below hl hbel hr hA (fun x hx => hlt x (List.mem_append_left _ hx))
  · rw [hfn.2.2, hvars]
    simp [DataW.TrodVars]
end Go.Proofs.YtihjgbhnlejhfaaGreatDoor
namespace Go.Proofs.YtihjgbhnlejhfaaGreatDoor
open Go.RowKit

theorem rp_disable (w : World) : (callFunc 203 #[]).run Tryz.prog w = .ok (.value (.tuple #[])) w := run_call_mark0 Tryz.func203 (by kernel_rfl) (by kernel_rfl) (by kernel_rfl) .disable (by kernel_rfl) w
theorem rp_enable (w : World) : (callFunc 205 #[]).run Tryz.prog w = .ok (.value (.tuple #[])) w := run_call_mark0 Tryz.func205 (by kernel_rfl) (by kernel_rfl) (by kernel_rfl) .enable (by kernel_rfl) w
theorem rp_acquire (a : Addr) (w : World) : (callFunc 206 #[.pointer (some a)]).run Tryz.prog w = .ok (.value (.tuple #[])) w := run_call_marked Tryz.func206 (by kernel_rfl) (by kernel_rfl) (by kernel_rfl) .acquire (by kernel_rfl) a w
theorem rp_releaseMerge (a : Addr) (w : World) : (callFunc 208 #[.pointer (some a)]).run Tryz.prog w = .ok (.value (.tuple #[])) w := run_call_marked Tryz.func208 (by kernel_rfl) (by kernel_rfl) (by kernel_rfl) .releaseMerge (by kernel_rfl) a w

/-- '(*sync/atomic.Bool).Store(true)', entered as a deferred call -/
theorem rp_store_deferred (a : Addr) (x : Value) (u : FrameMode) (w : World) (hc : w.cell? a = some x) (hz : w.frozen? a = false) :
    CallsD Tryz.prog 181 #[.pointer (some a), .bool true] u w fun e u' w' => u' = u ∧ (e = .returned (.tuple #[]) ∧ w' = w.drew.setCell a (.int .u32 1)) := by
  have hc' : w.drew.cell? a = some x := by go_simp
  have hz' : w.drew.frozen? a = false := by go_simp
  have hst := run_call_store (P := Tryz.prog) Tryz.func194 (by kernel_rfl) (by kernel_rfl) (by kernel_rfl) (by kernel_rfl) (k := .u32) (y := 1) hc' hz'
  go_enter_d Tryz.func181, Tryz.ntmps181
  go_wp2
  go_region_calls
  all_goals (go_end0; exact ⟨rfl, rfl⟩)
set_option maxRecDepth 100000 in
set_option maxHeartbeats 1600000 in
/-- '(*sync.Mutex).Unlock', entered as a deferred call, the lock held and nobody waiting -/
theorem rp_unlock_deferred (a : Addr) (u : FrameMode) (w : World) (hc : w.cell? a = some (.int .i32 1)) (hz : w.frozen? a = false) :
    CallsD Tryz.prog 180 #[.pointer (some a)] u w fun e u' w' => u' = u ∧ (e = .returned (.tuple #[]) ∧ w' = w.setCell a (.int .i32 0)) := by
  have hd := rp_disable
  have he := rp_enable
  have hr := rp_releaseMerge
  have hadd := run_call_add (P := Tryz.prog) Tryz.func209 (by kernel_rfl) (by kernel_rfl) (by kernel_rfl) .i32 (by kernel_rfl) (y := -1) (s := 0) hc hz (by simp [go_sem]; rfl)
  have hcv := run_convert_to_unsafe (P := Tryz.prog) (src := 311) (dst := 254) Tryz.underlying311 Tryz.underlying254 (by kernel_rfl) hc
  go_enter_d Tryz.func180, Tryz.ntmps180
  go_wp2
  go_end0
  go_wp2
  go_end0
  exact ⟨rfl, rfl⟩
set_option maxRecDepth 100000 in
set_option maxHeartbeats 1600000 in
/-- '(*sync.Mutex).Lock', the lock free -/
theorem rp_lock_free (a : Addr) (w : World) (hc : w.cell? a = some (.int .i32 0)) (hz : w.frozen? a = false) :
    Calls Tryz.prog 179 #[.pointer (some a)] w fun e w' => e = .returned (.tuple #[]) ∧ w' = w.setCell a (.int .i32 1) := by
  have hd := rp_disable
  have he := rp_enable
  have ha := rp_acquire
  have hcas := run_call_cas_hit (P := Tryz.prog) Tryz.func204 (by kernel_rfl) (by kernel_rfl) (by kernel_rfl) .i32 (by kernel_rfl) (y := 1) hc hz
  have hc' : (w.setCell a (.int .i32 1)).cell? a = some (.int .i32 1) := World.cell?_setCell_same w a _ hc
  have hcv := run_convert_to_unsafe (P := Tryz.prog) (src := 311) (dst := 254) Tryz.underlying311 Tryz.underlying254 (by kernel_rfl) hc'
  go_enter Tryz.func179, Tryz.ntmps179
  go_wp2
  first | go_end0 | (simp only [Exit.inBlock, Exit.then]; refine bodyPost_ret (results_none rfl _ _ _) rfl ?_) | refine bodyPost_ret (results_none rfl _ _ _) rfl ?_
  go_wp2
  go_end0
  exact ⟨rfl, rfl⟩

set_option maxRecDepth 100000 in
theorem rp_load (a : Addr) (w : World) (hc : w.cell? a = some (.int .u32 0)) : Calls Tryz.prog 158 #[.pointer (some a)] w fun e w' => e = .returned (.bool false) ∧ w' = w := by
  have hl := run_call_load (P := Tryz.prog) Tryz.func178 (by kernel_rfl) (by kernel_rfl) (by kernel_rfl) .u32 (by kernel_rfl) hc
  go_enter Tryz.func158, Tryz.ntmps158
  go_wp2
  go_ret
  exact ⟨rfl, rfl⟩
set_option maxRecDepth 100000 in
set_option maxHeartbeats 1600000 in
/-- '(*sync.Once).doSlow', not yet done, the lock free: the function is called between the lock's two ends -/
theorem rp_slow (b : Nat) (fv : Nat) (args : Array Value) (Post : World → Prop) (w : World)
    (h0 : w.cell? ⟨b, 0, none⟩ = some (.int .u32 0)) (h1 : w.cell? ⟨b, 1, none⟩ = some (.int .i32 0)) (f1 : w.frozen? ⟨b, 1, none⟩ = false)
    (hcall : Calls Tryz.prog fv args (w.setCell ⟨b, 1, none⟩ (.int .i32 1)) fun e w' => e = .returned (.tuple #[]) ∧ Post w')
    (henter : ∀ w : World, (callFunc fv args).run Tryz.prog w = .ok (.enter fv args) w)
    (hP : ∀ w', Post w' → w'.cell? ⟨b, 0, none⟩ = some (.int .u32 0) ∧ w'.cell? ⟨b, 1, none⟩ = some (.int .i32 1) ∧ w'.frozen? ⟨b, 0, none⟩ = false ∧ w'.frozen? ⟨b, 1, none⟩ = false) :
    Calls Tryz.prog 159 #[.pointer (some ⟨b, 0, none⟩), .func (.func fv) args #[]] w fun e w' => e = .returned (.tuple #[]) ∧ ∃ w1, Post w1 ∧ w' = (w1.drew.setCell ⟨b, 0, none⟩ (.int .u32 1)).setCell ⟨b, 1, none⟩ (.int .i32 0) := by
  have hl0 : (w.setCell ⟨b, 1, none⟩ (.int .i32 1)).cell? ⟨b, 0, none⟩ = some (.int .u32 0) := (World.cell?_setCell_other _ ⟨b, 1, none⟩ ⟨b, 0, none⟩ _ (by simp)).trans h0
  have hnot : ∀ (x : Bool) (w : World), (Op.unary .not (.bool x)).run Tryz.prog w = .ok (.bool (!x)) w := fun _ _ => rfl
  have HC := Lib.hid hcall
  have HP := Lib.hid hP
  clear hcall hP
  go_enter_defers Tryz.func159, Tryz.ntmps159
  go_wp2_with (go_at_call 179; refine (rp_lock_free ⟨b, 1, none⟩ _ (by go_simp) (by go_simp)).mono ?_; rintro e w' ⟨rfl, rfl⟩)
  refine (rp_load ⟨b, 0, none⟩ _ hl0).mono ?_
  rintro e w2 ⟨rfl, rfl⟩
  go_wp2_with fail
  refine HC.out.mono ?_
  rintro e w3 ⟨rfl, hp3⟩
  obtain ⟨p0, p1, q0, q1⟩ := HP.out w3 hp3
  go_wp2_with fail
  refine leaves_cons (f := 181) (args := #[.pointer (some ⟨b, 0, none⟩), .bool true]) (by simp) (by simp [go_sem]) ?_
  refine (rp_store_deferred ⟨b, 0, none⟩ (.int .u32 0) .returning _ p0 q0).mono ?_
  rintro e u' w4 ⟨rfl, rfl, rfl⟩
  refine leaves_cons (f := 180) (args := #[.pointer (some ⟨b, 1, none⟩)]) (by simp [settle]) (by simp [go_sem]) ?_
  refine (rp_unlock_deferred ⟨b, 1, none⟩ _ _ ?_ (by simp [q1])).mono ?_
  · refine (World.cell?_setCell_other _ ⟨b, 0, none⟩ ⟨b, 1, none⟩ _ (by simp)).trans ?_
    rw [World.cell?_drew]
    exact p1
  rintro e u' w5 ⟨rfl, rfl, rfl⟩
  simp [Leaves, settle, results, Tryz.results159]
  exact ⟨w3, hp3, rfl⟩
set_option maxRecDepth 100000 in
set_option maxHeartbeats 1600000 in
/-- '(*sync.Once).Do', not yet done, the lock free -/
theorem rp_do (b : Nat) (fv : Nat) (args : Array Value) (Post : World → Prop) (w : World)
    (h0 : w.cell? ⟨b, 0, none⟩ = some (.int .u32 0)) (h1 : w.cell? ⟨b, 1, none⟩ = some (.int .i32 0)) (f1 : w.frozen? ⟨b, 1, none⟩ = false)
    (hcall : Calls Tryz.prog fv args (w.setCell ⟨b, 1, none⟩ (.int .i32 1)) fun e w' => e = .returned (.tuple #[]) ∧ Post w')
    (henter : ∀ w : World, (callFunc fv args).run Tryz.prog w = .ok (.enter fv args) w)
    (hP : ∀ w', Post w' → w'.cell? ⟨b, 0, none⟩ = some (.int .u32 0) ∧ w'.cell? ⟨b, 1, none⟩ = some (.int .i32 1) ∧ w'.frozen? ⟨b, 0, none⟩ = false ∧ w'.frozen? ⟨b, 1, none⟩ = false) :
    Calls Tryz.prog 141 #[.pointer (some ⟨b, 0, none⟩), .func (.func fv) args #[]] w fun e w' => e = .returned (.tuple #[]) ∧ ∃ w1, Post w1 ∧ w' = (w1.drew.setCell ⟨b, 0, none⟩ (.int .u32 1)).setCell ⟨b, 1, none⟩ (.int .i32 0) := by
  have hnot : ∀ (x : Bool) (w : World), (Op.unary .not (.bool x)).run Tryz.prog w = .ok (.bool (!x)) w := fun _ _ => rfl
  have HS := Lib.hid (rp_slow b fv args Post w h0 h1 f1 hcall henter hP)
  have HL := Lib.hid (rp_load ⟨b, 0, none⟩ w h0)
  clear hcall henter hP
  go_enter Tryz.func141, Tryz.ntmps141
  go_wp2_with fail
  refine HL.out.mono ?_
  rintro e w2 ⟨rfl, rfl⟩
  go_wp2_with fail
  refine HS.out.mono ?_
  rintro e w3 ⟨rfl, hw⟩
  have HW := Lib.hid hw
  clear hw
  go_wp2_with fail
  go_end0
  exact ⟨rfl, HW.out⟩
end Go.Proofs.YtihjgbhnlejhfaaGreatDoor
namespace Go.Proofs.YtihjgbhnlejhfaaGreatDoor
open Go.RowKit

def i64v (n : Int) : Value := .int .i64 n
def i64s (l : List Int) : List Value := l.map i64v
theorem i64s_len (l : List Int) : (i64s l).length = l.length := by simp [i64s]
theorem i64s_at {l : List Int} {k : Nat} (h : k < l.length) : (i64s l)[k]? = some (.int .i64 (at_ l k)) := by
  simp [i64s, get?_at h, i64v]

end Go.Proofs.YtihjgbhnlejhfaaGreatDoor
namespace Go.Proofs.YtihjgbhnlejhfaaGreatDoor
open Go.RowKit

def strC (s : ByteArray) : List Value := [.string s]
def strCs (l : List ByteArray) : List Value := l.flatMap strC
end Go.Proofs.YtihjgbhnlejhfaaGreatDoor
namespace Go.Proofs.YtihjgbhnlejhfaaGreatDoor
open Go.RowKit

theorem own_len {w : World} {base size n c : Nat} {e : TypeId} {A : Option Addr} {xs : List Value} (h : w.ownsRow base e size (.slice A n c) n xs) : n ≤ c ∧ c ≤ maxLen := by
  obtain ⟨A', c', e1, h2, h3, _, _⟩ := own_form h
  injection e1 with _ _ e3
  subst e3
  exact ⟨h2, h3⟩
theorem own_ne {w : World} {g b : Nat} {t : TypeId} {cs : Array Value} {base size n c : Nat} {e : TypeId} {xs : List Value} (h : Blk w g t cs) (ho : w.ownsRow base e size (.slice (some ⟨b, 0, none⟩) n c) n xs) (ht : t ≠ e) : b ≠ g := by
  intro hb
  subst hb
  rcases ho.2 with ⟨h', _⟩ | ⟨q, cap, cur, h', _, hg, _⟩
  · cases h'
  · injection h' with h' _
    injection h' with h'
    injection h' with h'
    subst h'
    unfold Blk at h
    rw [h] at hg
    injection hg with hg
    injection hg with _ hg
    exact ht hg
theorem own_some {w : World} {base e size n c : Nat} {A : Option Addr} {xs : List Value} (ho : w.ownsRow base e size (.slice A n c) n xs) (hn : 0 < n) : ∃ b, A = some ⟨b, 0, none⟩ ∧ base ≤ b ∧ b < w.heap.size ∧ n ≤ c := by
  rcases ho.2 with ⟨_, h'⟩ | ⟨q, cap, cur, h', hb, hg, hc, _⟩
  · omega
  · injection h' with h1 h2 h3
    subst h1
    exact ⟨q, rfl, hb, (Array.getElem?_eq_some_iff.1 hg).1, by omega⟩
theorem own_row_ne {w : World} {g : Nat} {t : TypeId} {cs : Array Value} {base size n : Nat} {v : Value} {e : TypeId} {xs : List Value} (h : Blk w g t cs) (ho : w.ownsRow base e size v n xs) (ht : t ≠ e) : some g ≠ v.ownBlock := by
  rcases ho.2 with ⟨rfl, _⟩ | ⟨q, cap, cur, rfl, hb, hg, h1, h2, h3, h4⟩
  · intro h'; cases h'
  · intro h'
    injection h' with h'
    exact own_ne (n := n) (c := cap) h ⟨ho.1, .inr ⟨q, cap, cur, rfl, hb, hg, h1, h2, h3, h4⟩⟩ ht h'.symm
theorem own_base {w : World} {base g : Nat} {t : TypeId} {cs : Array Value} (hg : base ≤ g) (h : Blk w g t cs) : base ≤ w.heap.size := Nat.le_trans hg (Nat.le_of_lt h.lt)
theorem own_set_other {w : World} {g : Nat} {base size n : Nat} {v : Value} {e : TypeId} {xs : List Value} (ho : w.ownsRow base e size v n xs) (hne : some g ≠ v.ownBlock) (i : Nat) (u : Value) : (w.setCell ⟨g, i, none⟩ u).ownsRow base e size v n xs := by
  refine ⟨ho.1, ?_⟩
  rcases ho.2 with h | ⟨q, cap, cur, rfl, hb, hg, h1, h2, h3, h4⟩
  · exact .inl h
  · exact .inr ⟨q, cap, cur, rfl, hb, (Below.heap_setCell w ⟨g, i, none⟩ u q (fun e => hne (by rw [e]; rfl))).trans hg, h1, h2, h3, h4⟩
theorem own_cell {w : World} {base size n c b : Nat} {e : TypeId} {xs : List Value} (h : w.ownsRow base e size (.slice (some ⟨b, 0, none⟩) n c) n xs) {k : Nat} {u : Value} (hu : xs[k]? = some u) : w.cell? ⟨b, k, none⟩ = some u := by
  obtain ⟨ad, e', _, hc⟩ := (Has.of_own h).at hu
  injection e' with e'
  subst e'
  have hadd : (⟨b, 0, none⟩ : Addr).add k = ⟨b, k, none⟩ := by unfold Addr.add; split <;> simp_all
  rwa [hadd] at hc
end Go.Proofs.YtihjgbhnlejhfaaGreatDoor
namespace Go.Proofs.YtihjgbhnlejhfaaGreatDoor
open Go.RowKit

def zigN (n : Int) : Nat := if 0 ≤ n then (2 * n).toNat else (-2 * n - 1).toNat
def zagN (u : Nat) : Int := if u % 2 = 0 then (u / 2 : Nat) else -((u / 2 : Nat) : Int) - 1
theorem zigN_lt {n : Int} (h : -9223372036854775808 ≤ n ∧ n ≤ 9223372036854775807) : zigN n < 18446744073709551616 := by unfold zigN; split <;> omega
theorem zag_zig (n : Int) : zagN (zigN n) = n := by unfold zagN zigN; split <;> split <;> omega
theorem zig_zag (u : Nat) : zigN (zagN u) = u := by unfold zagN zigN; split <;> split <;> omega
theorem zagN_in {u : Nat} (h : u < 18446744073709551616) : -9223372036854775808 ≤ zagN u ∧ zagN u ≤ 9223372036854775807 := by unfold zagN; split <;> omega

theorem wrap_u64_nat' (x : Nat) : IntKind.u64.wrap (x : Int) = ((x % 18446744073709551616 : Nat) : Int) := by rw [IntKind.wrap_u64]; omega
/-- all ones -/
theorem xor_ones (x : Nat) (h : x < 18446744073709551616) : x ^^^ 18446744073709551615 = 18446744073709551615 - x := by
  have h1 : BitVec.ofNat 64 x ^^^ BitVec.allOnes 64 = ~~~ BitVec.ofNat 64 x := BitVec.xor_allOnes
  have h2 := congrArg BitVec.toNat h1
  simp only [BitVec.toNat_xor, BitVec.toNat_ofNat, BitVec.toNat_allOnes, BitVec.toNat_not] at h2
  rw [Nat.mod_eq_of_lt (by simpa using h)] at h2
  simpa using h2
theorem zig_eq {n : Int} (h : -9223372036854775808 ≤ n ∧ n ≤ 9223372036854775807) :
    bits BinOp.xor IntKind.u64 (IntKind.u64.wrap (IntKind.u64.wrap n * 2)) (IntKind.u64.wrap (n / 9223372036854775808)) = ((zigN n : Nat) : Int) := by
  unfold zigN
  by_cases h0 : 0 ≤ n
  · have e1 : IntKind.u64.wrap (n / 9223372036854775808) = ((0 : Nat) : Int) := by rw [IntKind.wrap_u64]; omega
    have e2 : IntKind.u64.wrap (IntKind.u64.wrap n * 2) = (((2 * n).toNat : Nat) : Int) := by rw [IntKind.wrap_u64, IntKind.wrap_u64]; omega
    rw [e1, e2, bits_xor_u64_nat _ _ (by omega) (by decide), if_pos h0, Nat.xor_zero]
  · have e1 : IntKind.u64.wrap (n / 9223372036854775808) = ((18446744073709551615 : Nat) : Int) := by rw [IntKind.wrap_u64]; omega
    have e2 : IntKind.u64.wrap (IntKind.u64.wrap n * 2) = (((2 * n + 18446744073709551616).toNat : Nat) : Int) := by rw [IntKind.wrap_u64, IntKind.wrap_u64]; omega
    rw [e1, e2, bits_xor_u64_nat _ _ (by omega) (by omega), xor_ones _ (by omega), if_neg h0]
    omega
theorem xor_i64 (a : Nat) (b : Int) (r : Nat) (ha : a < 18446744073709551616) (hb : (BitVec.ofInt 64 b).toNat = r) : bits BinOp.xor IntKind.i64 (a : Int) b = IntKind.i64.wrap ((a ^^^ r : Nat) : Int) := by
  have h1 : (BitVec.ofInt 64 (a : Int)).toNat = a := by
    rw [BitVec.ofInt_natCast, BitVec.toNat_ofNat]; exact Nat.mod_eq_of_lt (by omega)
  show IntKind.i64.wrap ((BitVec.ofInt 64 (a : Int) ^^^ BitVec.ofInt 64 b).toNat : Int) = _
  rw [BitVec.toNat_xor, h1, hb]
theorem and_one (u : Nat) (h : u < 18446744073709551616) : bits BinOp.and IntKind.u64 (u : Int) 1 = ((u % 2 : Nat) : Int) := by
  have := bits_and_u64_nat u 1 h (by decide)
  rw [Nat.and_one_is_mod] at this
  exact this
theorem zag_eq {u : Nat} (h : u < 18446744073709551616) :
    bits BinOp.xor IntKind.i64 ((u : Int) / 2) (wrap64 (-wrap64 (bits BinOp.and IntKind.u64 (u : Int) 1))) = zagN u := by
  unfold zagN
  rw [and_one u h, show (u : Int) / 2 = ((u / 2 : Nat) : Int) from by omega]
  rcases Nat.mod_two_eq_zero_or_one u with e | e
  · rw [e, if_pos rfl, show wrap64 (-wrap64 ((0 : Nat) : Int)) = 0 from by decide +kernel, xor_i64 _ 0 0 (by omega) (by decide), Nat.xor_zero]
    exact IntWalk.i64_in _ (by omega)
  · rw [e, if_neg (by omega), show wrap64 (-wrap64 ((1 : Nat) : Int)) = -1 from by decide +kernel, xor_i64 _ (-1) 18446744073709551615 (by omega) (by decide), xor_ones _ (by omega), IntKind.wrap_i64]
    omega

/-! ### The bytes of a number -/
def putL (u : Nat) : List Nat := if u < 128 then [u] else (u % 128 + 128) :: putL (u / 128)
termination_by u
decreasing_by omega
theorem putL_small {u : Nat} (h : u < 128) : putL u = [u] := by rw [putL, if_pos h]
theorem putL_big {u : Nat} (h : 128 ≤ u) : putL u = (u % 128 + 128) :: putL (u / 128) := by rw [putL, if_neg (by omega)]
theorem putL_bytes (u : Nat) : Bytes (putL u) := by
  induction u using Nat.strongRecOn with
  | _ u ih =>
    intro b hb
    rcases Nat.lt_or_ge u 128 with h | h
    · rw [putL_small h] at hb
      simp at hb
      omega
    · rw [putL_big h] at hb
      rcases List.mem_cons.1 hb with rfl | hb
      · omega
      · exact ih _ (by omega) b hb
theorem putL_len_mono {a b : Nat} (h : a ≤ b) : (putL a).length ≤ (putL b).length := by
  induction b using Nat.strongRecOn generalizing a with
  | _ b ih =>
    rcases Nat.lt_or_ge a 128 with h1 | h1
    · rw [putL_small h1]
      rcases Nat.lt_or_ge b 128 with h2 | h2
      · rw [putL_small h2]; exact Nat.le_refl _
      · rw [putL_big h2]; simp
    · rw [putL_big h1, putL_big (show 128 ≤ b by omega)]
      have := ih (b / 128) (by omega) (show a / 128 ≤ b / 128 by omega)
      simpa using this
theorem putL_len {u : Nat} (k : Nat) (h : u < 128 ^ (k + 1)) : (putL u).length ≤ k + 1 := by
  induction k generalizing u with
  | zero => rw [putL_small (by omega)]; simp
  | succ k ih =>
    rcases Nat.lt_or_ge u 128 with h1 | h1
    · rw [putL_small h1]; simp
    · rw [putL_big h1]
      have : u / 128 < 128 ^ (k + 1) := by
        apply Nat.div_lt_of_lt_mul
        rw [Nat.pow_succ, Nat.mul_comm] at h
        exact h
      have := ih this
      simp only [List.length_cons]
      omega
theorem putL_len10 {u : Nat} (h : u < 18446744073709551616) : (putL u).length ≤ 10 := putL_len 9 (Nat.lt_trans h (by decide))
theorem putL_pos (u : Nat) : 1 ≤ (putL u).length := by
  rw [putL]; split <;> simp

theorem or128 (u : Nat) : bits BinOp.or IntKind.u8 ((u : Int) % 256) 128 = ((u % 128 + 128 : Nat) : Int) := by
  have h : (u : Int) % 256 = ((u % 256 : Nat) : Int) := by omega
  rw [h, show (128 : Int) = ((128 : Nat) : Int) from rfl, u8_or_nat _ _ (by omega) (by omega)]
  congr 1
  have : ∀ x : Fin 256, x.val ||| 128 = 128 + x.val % 128 := by decide +kernel
  have := this ⟨u % 256, by omega⟩
  simp only at this
  omega
end Go.Proofs.YtihjgbhnlejhfaaGreatDoor
namespace Go.Proofs.YtihjgbhnlejhfaaGreatDoor
open Go.RowKit

set_option maxRecDepth 1000000 in
set_option maxHeartbeats 400000 in
theorem zig_any (n : Int) (h : -9223372036854775808 ≤ n ∧ n ≤ 9223372036854775807) (w : World) :
    Calls Tryz.prog 68 #[.int .i64 n] w (R1 (.int .u64 (zigN n : Nat)) (Drawn w)) := by
  go_enter Tryz.func68, Tryz.ntmps68
  go_wp2
  go_ret
  exact R1.mk (int_eq (zig_eq h)) (Drawn.refl _)

end Go.Proofs.YtihjgbhnlejhfaaGreatDoor
namespace Go.Proofs.YtihjgbhnlejhfaaGreatDoor
open Go.RowKit

theorem elU8 : Elem Tryz.prog 76 5 1 1 := Elem.mk' (z := .int .u8 0) Tryz.underlying76 (by kernel_rfl) rfl (by decide)

set_option maxRecDepth 1000000 in
set_option maxHeartbeats 400000 in
theorem put_any (u : Nat) (hu : u < 18446744073709551616) (w : World) :
    Calls Tryz.prog 67 #[.int .u64 u] w (RV fun v w' => ∃ A c, v = .slice A (putL u).length c ∧ w'.ownsRow w.heap.size 5 1 (.slice A (putL u).length c) (putL u).length (u8s (putL u)) ∧ Below w.heap.size w w') := by
  go_enter Tryz.func67, Tryz.ntmps67
  go_wp2
  go_loopw [0, 3] (fun x v wr => ∃ (y : Nat) (pre : List Nat) (A : Option Addr) (c : Nat), x = .int .u64 y ∧ v = .slice A pre.length c ∧ y ≤ u ∧ pre.length ≤ 9 ∧ pre.length + (putL y).length ≤ 10 ∧ putL u = pre ++ putL y ∧ wr.ownsRow w.heap.size 5 1 (.slice A pre.length c) pre.length (u8s pre) ∧ Below w.heap.size w wr) (fun x _ _ => (intOf x).toNat)
  case atStart => exact ⟨u, [], none, 0, rfl, rfl, Nat.le_refl _, by simp, by have := putL_len10 hu; simpa using this, rfl, World.ownsRow_nil _ _ _ _, Below.refl _ _⟩
  case round =>
    obtain ⟨y, pre, A, c, rfl, rfl, hy, hp, hlen, hput, hown, hbel⟩ := hrel
    have Hput := Lib.hid hput; clear hput
    have hbs := hbel.size
    by_cases hlt : (128 : Int) ≤ (y : Int)
    · have hp2 := putL_len10 (u := y) (by omega)
      have hq := putL_pos (y / 128)
      have e0 := Lib.hid (putL_big (u := y) (by omega))
      go_wp2_with (at_builtin; refine wpList_append1 rfl _ _ _ rfl elU8 rfl hown rfl rfl rfl ?_ ?c1 ?c2 ?c3 ?c4; intro A' c' w1 hown' hgrow hbel')
      case c1 => rfl
      case c2 => omega
      case c3 => unfold maxLen; omega
      case c4 => exact hbs
      have e1 := e0.out
      have hl1 : pre.length + ((putL (y / 128)).length + 1) ≤ 10 := by rw [e1, List.length_cons] at hlen; exact hlen
      refine ⟨⟨y / 128, pre ++ [y % 128 + 128], A', c', by go_num, by simp, by omega, by simp; omega, by simp; omega, ?_, ?_, hbel.trans hbel'⟩, by simp [intOf]; omega⟩
      · rw [Hput.out, e1]; simp
      · rw [or128] at hown'
        rw [List.length_append, u8s_app]
        exact hown'
    · go_wp2_with (at_builtin; refine wpList_append1 rfl _ _ _ rfl elU8 rfl hown rfl rfl rfl ?_ ?c1 ?c2 ?c3 ?c4; intro A' c' w1 hown' hgrow hbel')
      case c1 => rfl
      case c2 => omega
      case c3 => unfold maxLen; omega
      try case c4 => exact hbs
      go_ret
      have e1 : putL u = pre ++ [y] := by rw [Hput.out, putL_small (by omega)]
      refine RV.mk ⟨A', c', by rw [e1]; simp, ?_, hbel.trans hbel'⟩
      rw [e1, List.length_append, u8s_app]
      exact hown'

end Go.Proofs.YtihjgbhnlejhfaaGreatDoor
namespace Go.Proofs.YtihjgbhnlejhfaaGreatDoor
open Go.RowKit

set_option maxRecDepth 1000000 in
set_option maxHeartbeats 400000 in
theorem cloneU8_any (A : Option Addr) (n c : Nat) (xs : List Value) (hl : xs.length = n * 1) (h1 : ∀ u ∈ xs, u.oneCell' = true) (hA : A = none → n = 0 ∧ c = 0) (hmax : n * 1 ≤ 140737488355328) (w : World) (h : Has w w.heap.size A xs) :
    Calls Tryz.prog 153 #[.slice A n c] w (RV fun v w' => ∃ A' c', v = .slice A' n c' ∧ w'.ownsRow w.heap.size 5 1 (.slice A' n c') n xs ∧ Below w.heap.size w w') := by
  have hq := fun (w : World) (a : Option Addr) (n c n' c' : Nat) => Lib.run_eql_slice_nil (P := Tryz.prog) w 76 5 a n c n' c' Tryz.underlying76
  cases A with
  | none =>
    obtain ⟨rfl, rfl⟩ := hA rfl
    go_enter Tryz.func153, Tryz.ntmps153
    go_wp2
    go_ret
    exact RV.mk ⟨none, 0, rfl, ⟨hl, .inl ⟨rfl, rfl⟩⟩, Below.refl _ _⟩
  | some ad =>
    go_enter Tryz.func153, Tryz.ntmps153
    go_wp2_with (at_builtin; refine wpList_spread rfl _ _ _ rfl elU8 rfl (World.ownsRow_made (base := w.heap.size) w #[] 0 (Nat.le_refl _) (Nat.zero_le _) rfl) rfl ((h.keep fun p hp => World.cell?_alloc_lt w _ p hp)) ?_ ?c1 ?c2 ?c3 ?c4 ?c5; intro A' c' w1 hown hgrow hbel)
    case c1 => exact hl
    case c2 => exact h1
    case c3 => omega
    case c4 => unfold maxLen; omega
    case c5 => simp
    go_ret
    rw [Nat.zero_add, List.nil_append] at hown
    exact RV.mk ⟨A', c', rfl, hown, ((Below.refl _ _).alloc (Nat.le_refl _) _).trans hbel⟩
end Go.Proofs.YtihjgbhnlejhfaaGreatDoor
namespace Go.Proofs.YtihjgbhnlejhfaaGreatDoor
open Go.RowKit

/-- rows of bytes, each in cells of its own -/
def RecAt (w : World) (v : Value) (r : List Nat) : Prop := ∃ A c, v = .slice A r.length c ∧ r.length ≤ c ∧ c ≤ maxLen ∧ (A = none → c = 0) ∧ Has w w.heap.size A (u8s r)
inductive RecsAt (w : World) : List Value → List (List Nat) → Prop
  | nil : RecsAt w [] []
  | cons {v : Value} {r : List Nat} {vs : List Value} {rs : List (List Nat)} : RecAt w v r → RecsAt w vs rs → RecsAt w (v :: vs) (r :: rs)
theorem RecAt.next {w w' : World} {v : Value} {r : List Nat} (h : RecAt w v r) (hb : Below w.heap.size w w') : RecAt w' v r := by
  obtain ⟨A, c, e, h1, h2, h3, h4⟩ := h
  exact ⟨A, c, e, h1, h2, h3, h4.next hb⟩
theorem RecsAt.next {w w' : World} {vs : List Value} {rs : List (List Nat)} (h : RecsAt w vs rs) (hb : Below w.heap.size w w') : RecsAt w' vs rs := by
  induction h with
  | nil => exact .nil
  | cons h1 _ ih => exact .cons (h1.next hb) ih
theorem RecsAt.len {w : World} {vs : List Value} {rs : List (List Nat)} (h : RecsAt w vs rs) : vs.length = rs.length := by
  induction h with
  | nil => rfl
  | cons _ _ ih => rw [List.length_cons, List.length_cons, ih]
theorem RecsAt.snoc {w : World} {vs : List Value} {rs : List (List Nat)} {v : Value} {r : List Nat} (h : RecsAt w vs rs) (h' : RecAt w v r) : RecsAt w (vs ++ [v]) (rs ++ [r]) := by
  induction h with
  | nil => exact .cons h' .nil
  | cons h1 _ ih => exact .cons h1 ih
theorem RecsAt.one {w : World} {vs : List Value} {rs : List (List Nat)} (h : RecsAt w vs rs) : ∀ u ∈ vs, u.oneCell' = true := by
  induction h with
  | nil => simp
  | cons h1 _ ih =>
    obtain ⟨A, c, rfl, _⟩ := h1
    intro u hu
    rcases List.mem_cons.1 hu with rfl | hu
    · rfl
    · exact ih u hu
theorem RecsAt.get {w : World} {vs : List Value} {rs : List (List Nat)} (h : RecsAt w vs rs) : ∀ {k : Nat}, k < rs.length → ∃ v, vs[k]? = some v ∧ RecAt w v (at_ rs k) := by
  induction h with
  | nil => intro k hk; simp at hk
  | @cons v r vs rs h1 _ ih =>
    intro k hk
    cases k with
    | zero => exact ⟨v, rfl, h1⟩
    | succ k =>
      obtain ⟨u, e, h2⟩ := ih (k := k) (by simpa using hk)
      exact ⟨u, by simpa using e, by rw [at_eq (by simpa using hk)] at h2; rw [at_eq hk]; exact h2⟩
end Go.Proofs.YtihjgbhnlejhfaaGreatDoor
namespace Go.Proofs.YtihjgbhnlejhfaaGreatDoor
open Go.RowKit
set_option maxRecDepth 1000000 in
set_option maxHeartbeats 400000 in
theorem zag_any (u : Nat) (h : u < 18446744073709551616) (w : World) :
    Calls Tryz.prog 111 #[.int .u64 u] w (R1 (.int .i64 (zagN u)) (Drawn w)) := by
  go_enter Tryz.func111, Tryz.ntmps111
  go_wp2
  go_ret
  exact R1.mk (int_eq (zag_eq h)) (Drawn.refl _)
end Go.Proofs.YtihjgbhnlejhfaaGreatDoor
namespace Go.Proofs.YtihjgbhnlejhfaaGreatDoor
open Go.RowKit

def takeGo : Nat → Nat → List Nat → Nat × Nat × Nat
  | _, _, [] => (0, 0, 3)
  | i, u, b :: r => if (i = 9 ∧ 1 < b) ∨ (0 < i ∧ b = 0) then (0, 0, 4) else if b < 128 then (u + b % 128 * 128 ^ i, i + 1, 0) else takeGo (i + 1) (u + b % 128 * 128 ^ i) r
def takeN (l : List Nat) : Nat × Nat × Nat := takeGo 0 0 l
def R3 (x : Nat × Nat × Nat) : Value := .tuple #[.int .u64 (x.1 : Nat), .int .i64 (x.2.1 : Nat), .int .i64 (x.2.2 : Nat)]

theorem R3.of {a b c : Int} {x : Nat × Nat × Nat} (ha : a = (x.1 : Nat)) (hb : b = (x.2.1 : Nat)) (hc : c = (x.2.2 : Nat)) : Value.tuple #[.int .u64 a, .int .i64 b, .int .i64 c] = R3 x := by rw [ha, hb, hc]; rfl
theorem pow128 (k : Nat) : (128 : Nat) ^ k = 2 ^ (7 * k) := by rw [Nat.pow_mul]
theorem or_add {u x k : Nat} (hu : u < 128 ^ k) : u ||| x * 128 ^ k = u + x * 128 ^ k := by
  rw [pow128] at *
  have := Nat.two_pow_add_eq_or_of_lt (i := 7 * k) (b := u) hu x
  rw [Nat.mul_comm, Nat.add_comm] at this
  rw [Nat.or_comm, this]
theorem and127 (b : Nat) (h : b < 256) : bits .and .u8 (b : Int) 127 = ((b % 128 : Nat) : Int) := by
  rw [show (127 : Int) = ((127 : Nat) : Int) from rfl, u8_and_nat _ _ h (by omega), Go.nat_mask7]

set_option maxRecDepth 100000 in
theorem take_step {u b k : Nat} (hk : k ≤ 9) (hb : b < 256) (h9 : k = 9 → b ≤ 1) (hu : u < 128 ^ k) :
    bits .or .u64 (u : Int) (IntKind.u64.wrap (((b % 128 : Nat) : Int) * 2 ^ (7 * k))) = ((u + b % 128 * 128 ^ k : Nat) : Int) := by
  have hx : b % 128 * 128 ^ k < 18446744073709551616 := by
    rcases Nat.lt_or_ge k 9 with h1 | h1
    · have h2 : 128 ^ k ≤ 128 ^ 8 := Nat.pow_le_pow_right (by decide) (by omega)
      have h3 : b % 128 * 128 ^ k ≤ 127 * 128 ^ 8 := Nat.mul_le_mul (by omega) h2
      have h4 : 127 * 128 ^ 8 < 18446744073709551616 := by decide +kernel
      exact Nat.lt_of_le_of_lt h3 h4
    · obtain rfl : k = 9 := by omega
      have := h9 rfl
      have h3 : b % 128 * 128 ^ 9 ≤ 1 * 128 ^ 9 := Nat.mul_le_mul (by omega) (Nat.le_refl _)
      have h4 : 1 * 128 ^ 9 < 18446744073709551616 := by decide +kernel
      exact Nat.lt_of_le_of_lt h3 h4
  have hu2 : u < 18446744073709551616 := by
    have h2 : 128 ^ k ≤ 128 ^ 9 := Nat.pow_le_pow_right (by decide) hk
    have h3 : (128 : Nat) ^ 9 < 18446744073709551616 := by decide +kernel
    exact Nat.lt_of_lt_of_le hu (Nat.le_trans h2 (Nat.le_of_lt h3))
  have e : ((b % 128 : Nat) : Int) * 2 ^ (7 * k) = ((b % 128 * 128 ^ k : Nat) : Int) := by
    rw [pow128, Int.natCast_mul, Int.natCast_pow]; rfl
  rw [e, IntKind.wrap_u64, show ((b % 128 * 128 ^ k : Nat) : Int) % 18446744073709551616 = ((b % 128 * 128 ^ k : Nat) : Int) from Int.emod_eq_of_lt (by omega) (by omega), bits_or_u64_nat _ _ hu2 hx, or_add hu]
theorem take_step' {u b k : Nat} (hk : k ≤ 9) (hb : b < 256) (h9 : k = 9 → b ≤ 1) (hu : u < 128 ^ k) :
    bits .or .u64 (u : Int) (IntKind.u64.wrap (IntKind.u64.wrap (bits .and .u8 (b : Int) 127) * 2 ^ (7 * k))) = ((u + b % 128 * 128 ^ k : Nat) : Int) := by
  rw [and127 b hb, show IntKind.u64.wrap ((b % 128 : Nat) : Int) = ((b % 128 : Nat) : Int) from IntWalk.u64_in _ (by omega)]
  exact take_step hk hb h9 hu
theorem take_next {u b k : Nat} (hu : u < 128 ^ k) : u + b % 128 * 128 ^ k < 128 ^ (k + 1) := by
  have h1 : b % 128 * 128 ^ k ≤ 127 * 128 ^ k := Nat.mul_le_mul_right _ (by omega)
  rw [Nat.pow_succ]
  omega
set_option maxRecDepth 1000000 in
set_option maxHeartbeats 1000000 in
theorem take_any (A : Option Addr) (c : Nat) (l : List Nat) (hl : l.length ≤ maxLen) (hb : Bytes l) (w : World) (h : Has w w.heap.size A (u8s l)) :
    Calls Tryz.prog 110 #[.slice A l.length c] w (R1 (R3 (takeN l)) (Drawn w)) := by
  unfold maxLen at hl
  go_enter Tryz.func110, Tryz.ntmps110
  go_wp2
  go_loopw [5, 6] (fun x i wr => ∃ (k u : Nat), k ≤ l.length ∧ k ≤ 9 ∧ i = .int .i64 (k : Nat) ∧ x = .int .u64 (u : Nat) ∧ u < 128 ^ k ∧ takeN l = takeGo k u (l.drop k) ∧ Drawn w wr) (fun _ i _ => l.length - (intOf i).toNat)
  case atStart => exact ⟨0, 0, by omega, by omega, rfl, rfl, by decide, rfl, Drawn.refl _⟩
  case round =>
    obtain ⟨k, u, hk, hk9, rfl, rfl, hu, ht, n, rfl⟩ := hrel
    by_cases hlt : (k : Int) < (l.length : Int)
    · obtain ⟨ad, rfl, _, hc⟩ := h.at (u8s_at (show k < l.length by omega))
      have hbk := hb.at k
      have hd : l.drop k = at_ l k :: l.drop (k + 1) := drop_at (by omega)
      rw [hd] at ht
      have Hu := Lib.hid hu; clear hu
      have Ha := Lib.hid (and127 (at_ l k) hbk)
      have q1 : 0 ≤ (at_ l k : Nat) := by omega
      by_cases hf : (k = 9 ∧ 1 < at_ l k) ∨ (0 < k ∧ at_ l k = 0)
      · have Ht := Lib.hid (ht.trans (by rw [takeGo, if_pos hf])); clear ht
        rcases hf with ⟨h9, h1⟩ | ⟨h0, h1⟩
        · have f1 : ((k : Int) == 9) = true := by rw [beq_iff_eq]; omega
          have f2 : (1 : Int) < ((at_ l k : Nat) : Int) := by omega
          clear h9 h1
          go_wp2
          go_ret3
          exact R1.mk (by rw [Ht.out]; rfl) ⟨_, rfl⟩
        · have f2 : ((at_ l k : Nat) : Int) ≤ 1 := by omega
          have f3 : (0 : Int) < (k : Int) := by omega
          have f4 : (((at_ l k : Nat) : Int) == 0) = true := by rw [beq_iff_eq]; omega
          clear h0 h1
          by_cases h9 : k = 9
          · have f1 : ((k : Int) == 9) = true := by rw [beq_iff_eq]; omega
            clear h9
            go_wp2
            go_ret3
            exact R1.mk (by rw [Ht.out]; rfl) ⟨_, rfl⟩
          · have f1 : ((k : Int) == 9) = false := by rw [beq_eq_false_iff_ne]; omega
            clear h9
            go_wp2
            go_ret3
            exact R1.mk (by rw [Ht.out]; rfl) ⟨_, rfl⟩
      · have hr : takeN l = if at_ l k < 128 then (u + at_ l k % 128 * 128 ^ k, k + 1, 0) else takeGo (k + 1) (u + at_ l k % 128 * 128 ^ k) (l.drop (k + 1)) := ht.trans (by rw [takeGo, if_neg hf])
        have Hs := Lib.hid (take_step' hk9 hbk (by omega) Hu.out)
        have Hn := Lib.hid (take_next (b := at_ l k) Hu.out)
        clear ht
        have Hs2 := Hs
        by_cases hs : at_ l k < 128
        · have Hr := Lib.hid (hr.trans (by rw [if_pos hs])); clear hr
          have q5 : ((at_ l k : Nat) : Int) < 128 := by omega
          by_cases h9 : k = 9
          · have f1 : ((k : Int) == 9) = true := by rw [beq_iff_eq]; omega
            have f2 : ((at_ l k : Nat) : Int) ≤ 1 := by omega
            have f3 : (0 : Int) < (k : Int) := by omega
            have f4 : (((at_ l k : Nat) : Int) == 0) = false := by rw [beq_eq_false_iff_ne]; omega
            clear h9
            clear hf
            go_wp2
            go_ret3
            exact R1.mk (R3.of (by rw [Hr.out]; exact Hs2.out) (by rw [Hr.out]; go_num) (by rw [Hr.out]; rfl)) ⟨_, rfl⟩
          · have f1 : ((k : Int) == 9) = false := by rw [beq_eq_false_iff_ne]; omega
            by_cases h0 : 0 < k
            · have f3 : (0 : Int) < (k : Int) := by omega
              have f4 : (((at_ l k : Nat) : Int) == 0) = false := by rw [beq_eq_false_iff_ne]; omega
              clear h0 h9
              clear hf
              go_wp2
              go_ret3
              exact R1.mk (R3.of (by rw [Hr.out]; exact Hs2.out) (by rw [Hr.out]; go_num) (by rw [Hr.out]; rfl)) ⟨_, rfl⟩
            · have f3 : (k : Int) ≤ 0 := by omega
              clear h0 h9
              clear hf
              go_wp2
              go_ret3
              exact R1.mk (R3.of (by rw [Hr.out]; exact Hs2.out) (by rw [Hr.out]; go_num) (by rw [Hr.out]; rfl)) ⟨_, rfl⟩
        · have Hr := Lib.hid (hr.trans (by rw [if_neg hs])); clear hr
          have q5 : (128 : Int) ≤ ((at_ l k : Nat) : Int) := by omega
          have f1 : ((k : Int) == 9) = false := by rw [beq_eq_false_iff_ne]; omega
          have k9 : k + 1 ≤ 9 := by omega
          by_cases h0 : 0 < k
          · have f3 : (0 : Int) < (k : Int) := by omega
            have f4 : (((at_ l k : Nat) : Int) == 0) = false := by rw [beq_eq_false_iff_ne]; omega
            clear h0
            clear hf
            go_wp2
            go_roundw
            case rel => exact ⟨k + 1, _, by omega, by omega, by go_num, int_eq Hs2.out, Hn.out, Hr.out, ⟨_, rfl⟩⟩
            case measure => simp [intOf]; omega
          · have f3 : (k : Int) ≤ 0 := by omega
            clear h0
            clear hf
            go_wp2
            go_roundw
            case rel => exact ⟨k + 1, _, by omega, by omega, by go_num, int_eq Hs2.out, Hn.out, Hr.out, ⟨_, rfl⟩⟩
            case measure => simp [intOf]; omega
    · have Ht := Lib.hid (ht.trans (by rw [List.drop_eq_nil_of_le (by omega), takeGo])); clear ht
      go_wp2
      go_ret3
      exact R1.mk (by rw [Ht.out]; rfl) ⟨_, rfl⟩

theorem take_any' (A : Option Addr) (n c : Nat) (l : List Nat) (hn : l.length = n) (hl : l.length ≤ maxLen) (hb : Bytes l) (w : World) (h : Has w w.heap.size A (u8s l)) :
    Calls Tryz.prog 110 #[.slice A n c] w (R1 (R3 (takeN l)) (Drawn w)) := by
  subst hn
  exact take_any A c l hl hb w h
end Go.Proofs.YtihjgbhnlejhfaaGreatDoor
namespace Go.Proofs.YtihjgbhnlejhfaaGreatDoor

theorem takeGo_put (rest : List Nat) : ∀ (v k u : Nat), u + v * 128 ^ k < 18446744073709551616 → (0 < k → 0 < v) → takeGo k u (putL v ++ rest) = (u + v * 128 ^ k, k + (putL v).length, 0) := by
  intro v
  induction v using Nat.strongRecOn with
  | _ v ih =>
    intro k u hlt hpos
    have h9 : k = 9 → v ≤ 1 := by
      rintro rfl
      rcases Nat.lt_or_ge v 2 with h | h
      · omega
      · have h1 : 2 * 128 ^ 9 ≤ v * 128 ^ 9 := Nat.mul_le_mul_right _ h
        have h2 : (18446744073709551616 : Nat) ≤ 2 * 128 ^ 9 := by decide +kernel
        exact absurd (Nat.lt_of_le_of_lt (Nat.le_trans (Nat.le_trans h2 h1) (Nat.le_add_left _ _)) hlt) (Nat.lt_irrefl _)
    rcases Nat.lt_or_ge v 128 with h | h
    · rw [putL_small h, List.cons_append, takeGo, if_neg (by rintro (⟨h1, h2⟩ | ⟨h1, h2⟩) <;> omega), if_pos h, Nat.mod_eq_of_lt h]
      rfl
    · rw [putL_big h, List.cons_append, takeGo, if_neg (by rintro (⟨h1, h2⟩ | ⟨h1, h2⟩) <;> omega), if_neg (by omega)]
      have e : u + (v % 128 + 128) % 128 * 128 ^ k + v / 128 * 128 ^ (k + 1) = u + v * 128 ^ k := by
        have h1 : v * 128 ^ k = (128 * (v / 128) + v % 128) * 128 ^ k := by rw [Nat.div_add_mod]
        rw [h1, Nat.pow_succ, Nat.add_mul, show (v % 128 + 128) % 128 = v % 128 from by omega, Nat.mul_comm (128 ^ k) 128, ← Nat.mul_assoc, Nat.mul_comm (v / 128) 128]
        omega
      rw [ih (v / 128) (by omega) (k + 1) _ (by rw [e]; exact hlt) (fun _ => by omega), e, List.length_cons]
      congr 2
      omega
theorem takeN_put {u : Nat} (h : u < 18446744073709551616) (rest : List Nat) : takeN (putL u ++ rest) = (u, (putL u).length, 0) := by
  have := takeGo_put rest u 0 0 (by simpa using h) (by omega)
  simpa [takeN] using this

theorem takeGo_ok : ∀ (l : List Nat) (k u x j : Nat), Bytes l → takeGo k u l = (x, j, 0) → ∃ v, (0 < k → 0 < v) ∧ k < j ∧ j ≤ k + l.length ∧ x = u + v * 128 ^ k ∧ putL v = l.take (j - k)
  | [], k, u, x, j, _, h => by simp [takeGo] at h
  | b :: l, k, u, x, j, hb, h => by
    have hb0 := hb b List.mem_cons_self
    rw [takeGo] at h
    split at h
    · simp at h
    · rename_i hf
      split at h
      · rename_i hs
        simp only [Prod.mk.injEq] at h
        obtain ⟨rfl, rfl, _⟩ := h
        refine ⟨b, by omega, by omega, by simp, by rw [Nat.mod_eq_of_lt hs], ?_⟩
        rw [putL_small hs, show k + 1 - k = 1 from by omega]
        rfl
      · rename_i hs
        obtain ⟨v, h1, h2, h3, h4, h5⟩ := takeGo_ok l (k + 1) _ x j (fun y hy => hb y (List.mem_cons_of_mem _ hy)) h
        have hv := h1 (by omega)
        refine ⟨128 * v + b % 128, by omega, by omega, by simp only [List.length_cons]; omega, ?_, ?_⟩
        · rw [h4, Nat.pow_succ, Nat.add_mul, Nat.mul_comm (128 ^ k) 128, ← Nat.mul_assoc, Nat.mul_comm v 128]
          omega
        · rw [putL_big (by omega), show (128 * v + b % 128) / 128 = v from by omega, h5, show (128 * v + b % 128) % 128 + 128 = b from by omega, show j - k = (j - (k + 1)) + 1 from by omega]
          rfl
theorem takeN_ok {l : List Nat} {x j : Nat} (hb : Bytes l) (h : takeN l = (x, j, 0)) : 1 ≤ j ∧ j ≤ l.length ∧ putL x = l.take j := by
  obtain ⟨v, _, h2, h3, h4, h5⟩ := takeGo_ok l 0 0 x j hb h
  simp at h4 h5 h3
  exact ⟨h2, h3, by rw [h4]; exact h5⟩
theorem takeGo_bad : ∀ (l : List Nat) (k u : Nat), (takeGo k u l).2.2 = 0 ∨ takeGo k u l = (0, 0, 3) ∨ takeGo k u l = (0, 0, 4)
  | [], _, _ => .inr (.inl rfl)
  | b :: l, k, u => by
    rw [takeGo]
    split
    · exact .inr (.inr rfl)
    · split
      · exact .inl rfl
      · exact takeGo_bad l _ _
theorem takeGo_lt : ∀ (l : List Nat) (k u x j e : Nat), Bytes l → k ≤ 9 → u < 128 ^ k → takeGo k u l = (x, j, e) → x < 18446744073709551616
  | [], k, u, x, j, e, _, _, _, h => by simp [takeGo] at h; omega
  | b :: l, k, u, x, j, e, hb, hk, hu, h => by
    have hb0 := hb b List.mem_cons_self
    rw [takeGo] at h
    split at h
    · simp at h; omega
    · rename_i hf
      have h1 := take_next (b := b) hu
      split at h
      · simp only [Prod.mk.injEq] at h
        rcases Nat.lt_or_ge k 9 with h9 | h9
        · rw [← h.1]
          have h2 : (128 : Nat) ^ (k + 1) ≤ 128 ^ 9 := Nat.pow_le_pow_right (by decide) (by omega)
          have h3 : (128 : Nat) ^ 9 < 18446744073709551616 := by decide +kernel
          exact Nat.lt_of_lt_of_le h1 (Nat.le_trans h2 (Nat.le_of_lt h3))
        · obtain rfl : k = 9 := by omega
          rw [← h.1]
          have hb1 : b ≤ 1 := by omega
          have h2 : b % 128 * 128 ^ 9 ≤ 1 * 128 ^ 9 := Nat.mul_le_mul_right _ (by omega)
          have h3 : (128 : Nat) ^ 9 + 1 * 128 ^ 9 = 18446744073709551616 := by decide +kernel
          exact h3 ▸ Nat.add_lt_add_of_lt_of_le hu h2
      · exact takeGo_lt l (k + 1) _ x j e (fun y hy => hb y (List.mem_cons_of_mem _ hy)) (by omega) h1 h
theorem takeN_lt {l : List Nat} {x j e : Nat} (hb : Bytes l) (h : takeN l = (x, j, e)) : x < 18446744073709551616 := takeGo_lt l 0 0 x j e hb (by omega) (by decide) h
end Go.Proofs.YtihjgbhnlejhfaaGreatDoor
namespace Go.Proofs.YtihjgbhnlejhfaaGreatDoor
open Go.RowKit

theorem eq_at_u8 {l m : List Nat} (hl : l.length = m.length) (h : ∀ i, i < l.length → at_ l i = at_ m i) : l = m := by
  apply List.ext_getElem hl
  intro i h1 h2
  have := h i h1
  rwa [at_eq h1, at_eq h2] at this

set_option maxRecDepth 1000000 in
set_option maxHeartbeats 1000000 in
theorem equalU8_any (A B : Option Addr) (n m c d : Nat) (l k : List Nat) (hn : l.length = n) (hm : k.length = m) (hl : n ≤ maxLen) (hk : m ≤ maxLen) (w : World) (h : Has w w.heap.size A (u8s l)) (h' : Has w w.heap.size B (u8s k)) :
    Calls Tryz.prog 113 #[.slice A n c, .slice B m d] w (R1 (.bool (decide (l = k))) (Drawn w)) := by
  unfold maxLen at hl hk
  by_cases hnm : n = m
  · subst hnm
    go_enter Tryz.func113, Tryz.ntmps113
    go_wp2
    go_loopw [13] (fun i wr => ∃ j : Nat, j ≤ n ∧ i = .int .i64 (j : Nat) ∧ Hid (∀ q, q < j → at_ l q = at_ k q) ∧ Drawn w wr) (fun i _ => n - (intOf i).toNat)
    case atStart => exact ⟨0, by omega, rfl, Lib.hid (fun q hq => by omega), Drawn.refl _⟩
    case round =>
      obtain ⟨j, hj, rfl, heq, nd, rfl⟩ := hrel
      by_cases hlt : (j : Int) < (n : Int)
      · obtain ⟨ad, rfl, _, c1⟩ := h.at (u8s_at (show j < l.length by omega))
        obtain ⟨bd, rfl, _, c3⟩ := h'.at (u8s_at (show j < k.length by omega))
        have q1 : (0 : Int) ≤ (j : Int) := by omega
        by_cases e : at_ l j = at_ k j
        · have f1 : (((at_ l j : Nat) : Int) != ((at_ k j : Nat) : Int)) = false := by rw [e]; simp
          have f2 : (at_ l j != at_ k j) = false := by rw [e]; simp
          have E := Lib.hid e; clear e
          go_wp2
          go_quiet (fail)
          go_wp2
          go_roundw
          case rel => exact ⟨j + 1, by omega, by go_num, Lib.hid (fun q hq => by rcases Nat.lt_or_ge q j with h1 | h1; exact heq.out q h1; rw [show q = j by omega]; exact E.out), _, rfl⟩
          case measure => simp [intOf]; omega
        · have f1 : (((at_ l j : Nat) : Int) != ((at_ k j : Nat) : Int)) = true := by rw [bne_iff_ne]; omega
          have f2 : (at_ l j != at_ k j) = true := by rw [bne_iff_ne]; exact e
          have E := Lib.hid e; clear e
          go_wp2
          go_quiet (fail)
          go_wp2
          go_ret
          exact R1.mk (bool_eq (by rw [eq_comm, decide_eq_false_iff_not]; intro h1; exact E.out (by rw [h1]))) (Drawn.two _ _ _)
      · go_wp2
        go_ret
        exact R1.mk (bool_eq (by rw [eq_comm, decide_eq_true_iff]; exact eq_at_u8 (by omega) (fun i hi => heq.out i (by omega)))) ⟨_, rfl⟩
  · have f0 : ((n : Int) != (m : Int)) = true := by rw [bne_iff_ne]; omega
    have E := Lib.hid hnm; clear hnm
    go_enter Tryz.func113, Tryz.ntmps113
    go_wp2
    go_ret
    exact R1.mk (bool_eq (by rw [eq_comm, decide_eq_false_iff_not]; intro h1; exact E.out (by rw [← hn, ← hm, h1]))) (Drawn.refl _)
end Go.Proofs.YtihjgbhnlejhfaaGreatDoor
namespace Go.Proofs.YtihjgbhnlejhfaaGreatDoor
open Go.RowKit

/-- r parts the numbers below n: no before it, yes from it on -/
def Parts (g : Nat → Bool) (n r : Nat) : Prop := r ≤ n ∧ (∀ i, i < r → g i = false) ∧ ∀ i, r ≤ i → i < n → g i = true

end Go.Proofs.YtihjgbhnlejhfaaGreatDoor
namespace Go.Proofs.YtihjgbhnlejhfaaGreatDoor
open Go.RowKit

def mixN (u : Nat) : Nat :=
  let a := (u ^^^ u / 536870912) * 10321020848683521121 % 18446744073709551616
  let b := (a ^^^ a / 4294967296) * 7694936916205891629 % 18446744073709551616
  b ^^^ b / 268435456

theorem xor_lt64 {a b : Nat} (ha : a < 18446744073709551616) (hb : b < 18446744073709551616) : a ^^^ b < 18446744073709551616 := Nat.xor_lt_two_pow (n := 64) ha hb
theorem mixN_lt (u : Nat) : mixN u < 18446744073709551616 := by
  unfold mixN
  have h : ∀ a : Nat, a % 18446744073709551616 < 18446744073709551616 := fun a => Nat.mod_lt _ (by decide)
  exact xor_lt64 (h _) (Nat.lt_of_le_of_lt (Nat.div_le_self _ _) (h _))

set_option maxRecDepth 1000000 in
set_option maxHeartbeats 400000 in
theorem mix_any (u : Nat) (h : u < 18446744073709551616) (w : World) :
    Calls Tryz.prog 102 #[.int .u64 u] w (R1 (.int .u64 (mixN u : Nat)) (Drawn w)) := by
  have E : Hid ((bits .xor .u64 (IntKind.u64.wrap (bits .xor .u64 (IntKind.u64.wrap (bits .xor .u64 (u : Int) ((u : Int) / 536870912) * 10321020848683521121)) (IntKind.u64.wrap (bits .xor .u64 (u : Int) ((u : Int) / 536870912) * 10321020848683521121) / 4294967296) * 7694936916205891629))
      (IntKind.u64.wrap (bits .xor .u64 (IntKind.u64.wrap (bits .xor .u64 (u : Int) ((u : Int) / 536870912) * 10321020848683521121)) (IntKind.u64.wrap (bits .xor .u64 (u : Int) ((u : Int) / 536870912) * 10321020848683521121) / 4294967296) * 7694936916205891629) / 268435456)) = ((mixN u : Nat) : Int)) := by
    apply Lib.hid
    have hl : ∀ a : Nat, a % 18446744073709551616 < 18446744073709551616 := fun a => Nat.mod_lt _ (by decide)
    rw [show IntKind.u64.wrap (bits .xor .u64 (u : Int) ((u : Int) / 536870912) * 10321020848683521121) = (((u ^^^ u / 536870912) * 10321020848683521121 % 18446744073709551616 : Nat) : Int) from mixStep_u64 u 536870912 10321020848683521121 h]
    rw [show IntKind.u64.wrap (bits .xor .u64 (((u ^^^ u / 536870912) * 10321020848683521121 % 18446744073709551616 : Nat) : Int) ((((u ^^^ u / 536870912) * 10321020848683521121 % 18446744073709551616 : Nat) : Int) / 4294967296) * 7694936916205891629) = _ from mixStep_u64 _ 4294967296 7694936916205891629 (hl _)]
    exact xorShift_u64 _ 268435456 (hl _)
  go_enter Tryz.func102, Tryz.ntmps102
  go_wp2
  go_ret
  exact R1.mk (int_eq E.out) (Drawn.refl _)
def ofUp (seed : Nat) (l : List Nat) : Nat → Nat
  | 0 => mixN seed
  | k + 1 => mixN ((ofUp seed l k + at_ l k + 256 * k) % 18446744073709551616)
def ofN (seed : Nat) (l : List Nat) : Nat := ofUp seed l l.length
theorem ofUp_lt (seed : Nat) (l : List Nat) (k : Nat) : ofUp seed l k < 18446744073709551616 := by
  cases k <;> exact mixN_lt _
end Go.Proofs.YtihjgbhnlejhfaaGreatDoor
namespace Go.Proofs.YtihjgbhnlejhfaaGreatDoor
open Go.RowKit

theorem ofStep_eq (u b i : Nat) :
    IntKind.u64.wrap (IntKind.u64.wrap ((u : Int) + (b : Int)) + IntKind.u64.wrap (256 * (i : Int))) = (((u + b + 256 * i) % 18446744073709551616 : Nat) : Int) := by
  simp only [IntKind.wrap_u64]
  omega

set_option maxRecDepth 1000000 in
set_option maxHeartbeats 400000 in
theorem of_any (s : Nat) (hs : s < 18446744073709551616) (A : Option Addr) (c : Nat) (l : List Nat) (hl : l.length ≤ maxLen) (hb : Bytes l) (w : World) (h : Has w w.heap.size A (u8s l)) :
    Calls Tryz.prog 73 #[.int .u64 s, .slice A l.length c] w (R1 (.int .u64 (ofN s l : Nat)) (Drawn w)) := by
  unfold maxLen at hl
  go_enter Tryz.func73, Tryz.ntmps73
  go_wp2_with fail
  refine (mix_any s hs _).mono ?_
  rintro e w1 ⟨rfl, n1, rfl⟩
  go_wp2_with fail
  go_loopw [5, 12] (fun u i wr => ∃ k : Nat, k ≤ l.length ∧ i = .int .i64 (k : Nat) ∧ u = .int .u64 (ofUp s l k : Nat) ∧ Drawn w wr) (fun _ i _ => l.length - (intOf i).toNat)
  case atStart => exact ⟨0, by omega, rfl, rfl, _, rfl⟩
  case round =>
    obtain ⟨k, hk, rfl, rfl, n2, rfl⟩ := hrel
    by_cases hlt : (k : Int) < (l.length : Int)
    · obtain ⟨ad, rfl, _, hc⟩ := h.at (u8s_at (show k < l.length by omega))
      have hu := ofUp_lt s l k
      have hbk := hb.at k
      go_wp2_with fail
      rw [ofStep_eq]
      refine (mix_any _ (Nat.mod_lt _ (by decide)) _).mono ?_
      rintro e w1 ⟨rfl, n3, rfl⟩
      go_wp2_with fail
      go_roundw
      case rel => exact ⟨k + 1, by omega, by go_num, rfl, _, rfl⟩
      case measure => simp [intOf]; omega
    · go_wp2_with fail
      go_ret
      exact R1.mk (int_eq (by rw [show k = l.length from by omega]; rfl)) ⟨_, rfl⟩

theorem of_any' (s : Nat) (hs : s < 18446744073709551616) (A : Option Addr) (n c : Nat) (l : List Nat) (hn : l.length = n) (hl : l.length ≤ maxLen) (hb : Bytes l) (w : World) (h : Has w w.heap.size A (u8s l)) :
    Calls Tryz.prog 73 #[.int .u64 s, .slice A n c] w (R1 (.int .u64 (ofN s l : Nat)) (Drawn w)) := by
  subst hn
  exact of_any s hs A c l hl hb w h
end Go.Proofs.YtihjgbhnlejhfaaGreatDoor
namespace Go.Proofs.YtihjgbhnlejhfaaGreatDoor
open Go.RowKit

def be8 (h : Nat) : List Nat := (List.range 8).map fun j => h / 2 ^ (56 - 8 * j) % 256
theorem be8_len (h : Nat) : (be8 h).length = 8 := by simp [be8]
theorem be8_bytes (h : Nat) : Bytes (be8 h) := by
  intro b hb
  simp only [be8, List.mem_map] at hb
  obtain ⟨i, _, rfl⟩ := hb
  exact Nat.mod_lt _ (by decide)
theorem be8_step (h : Nat) {j : Nat} (hj : j < 8) : (be8 h).take (j + 1) = (be8 h).take j ++ [h / 2 ^ (56 - 8 * j) % 256] := by
  rw [List.take_add_one, List.getElem?_eq_getElem (by rw [be8_len]; exact hj)]
  simp [be8]
def frameL (rec : List Nat) : List Nat := putL rec.length ++ rec ++ be8 (ofN rec.length rec)
def frameN (rec : List Nat) : List Nat × Int := if 2000 < rec.length then ([], 2) else (frameL rec, 0)
/-- bytes and an error, the bytes a row of the call's own -/
def BytesP (r : List Nat × Int) (w : World) (v : Value) (w' : World) : Prop :=
  ∃ A c, v = .tuple #[.slice A r.1.length c, .int .i64 r.2] ∧ w'.ownsRow w.heap.size 5 1 (.slice A r.1.length c) r.1.length (u8s r.1) ∧ Below w.heap.size w w'
theorem u8s_appd (l k : List Nat) : u8s (l ++ k) = u8s l ++ u8s k := by simp [u8s]
theorem u8s_length (l : List Nat) : (u8s l).length = l.length := by simp [u8s]
theorem u8_app1 (l : List Nat) (x : Nat) : u8s (l ++ [x]) = u8s l ++ (#[.int .u8 (x : Nat)] : Array Value).toList := by simp [u8s, u8v]
theorem be_val (h k : Nat) : IntKind.u8.wrap ((h : Int) / 2 ^ k) = ((h / 2 ^ k % 256 : Nat) : Int) := by
  have e : (h : Int) / 2 ^ k = ((h / 2 ^ k : Nat) : Int) := by rw [Int.natCast_ediv, Int.natCast_pow]; rfl
  rw [e, IntKind.wrap_u8]; omega

set_option maxRecDepth 1000000 in
set_option maxHeartbeats 2000000 in
theorem frame_any (A : Option Addr) (n c : Nat) (l : List Nat) (hn : l.length = n) (hl : l.length ≤ maxLen) (hb : Bytes l) (w : World) (h : Has w w.heap.size A (u8s l)) :
    Calls Tryz.prog 126 #[.slice A n c] w (RV (BytesP (frameN l) w)) := by
  subst hn
  by_cases h2 : (2000 : Int) < (l.length : Int)
  · have E := Lib.hid (show frameN l = ([], 2) by unfold frameN; rw [if_pos (by omega)])
    rw [E.out]
    go_enter Tryz.func126, Tryz.ntmps126
    go_wp2_with fail
    go_ret2
    exact RV.mk ⟨none, 0, rfl, ⟨rfl, .inl ⟨rfl, rfl⟩⟩, Below.refl _ _⟩
  · have E := Lib.hid (show frameN l = (frameL l, 0) by unfold frameN; rw [if_neg (by omega)])
    rw [E.out]
    have hle : l.length ≤ 2000 := by omega
    have hp10 := putL_len10 (show l.length < 18446744073709551616 by omega)
    have hu1 := Lib.hid (u8s_one l)
    have hul := Lib.hid (show (u8s l).length = l.length * 1 by rw [u8s_length]; omega)
    go_enter Tryz.func126, Tryz.ntmps126
    go_wp2_with fail
    refine (put_any l.length (by omega) _).mono ?_
    rintro e w1 ⟨v, rfl, A1, c1, rfl, ho1, hb1⟩
    have hr1 := Lib.hid (h.next hb1)
    have hbs1 := hb1.size
    go_wp2_with (at_builtin; refine wpList_spread rfl _ _ _ rfl elU8 rfl ho1 rfl (by exact hr1.out) ?_ ?k1 ?k2 ?k3 ?k4 ?k5; intro A2 c2 w2 ho2 hgrow hb2)
    case k1 => exact hul.out
    case k2 => exact hu1.out
    case k3 => omega
    case k4 => unfold maxLen; omega
    case k5 => exact hbs1
    have hbw2 := hb1.trans hb2
    have hr2 := h.next hbw2
    have ho2 := Lib.hid ho2
    refine (of_any' l.length (by omega) A _ c l rfl hl hb _ (by exact hr2)).mono ?_
    rintro e w3 ⟨rfl, n3, rfl⟩
    obtain ⟨H, hH⟩ : ∃ H, ofN l.length l = H := ⟨_, rfl⟩
    obtain ⟨F, hF⟩ : ∃ F, putL l.length ++ l = F := ⟨_, rfl⟩
    have HE := Lib.hid (show frameL l = F ++ be8 H by unfold frameL; rw [hH, hF])
    have hP : (putL l.length).length + l.length = F.length := by rw [← hF, List.length_append]
    have hFl : F.length ≤ 2010 := by omega
    rw [hP, ← u8s_appd, hF] at ho2
    rw [hP, hH]
    clear hP hF hH hp10 hr1 hu1 hul ho1
    go_wp2_with fail
    have hbw3 : Below w.heap.size w (w2.drewN n3) := below_drewN hbw2 n3
    have ho3 := own_drewN ho2.out n3
    clear ho2 hbw2 hb2 hgrow
    generalize w2.drewN n3 = wo at hbw3 ho3 ⊢
    go_loopw [5, 7] (fun v i wr => ∃ (j : Nat) (O : Option Addr) (e : Nat), j ≤ 8 ∧ i = .int .i64 (56 - 8 * (j : Int)) ∧ v = .slice O (F.length + j) e ∧ wr.ownsRow w.heap.size 5 1 (.slice O (F.length + j) e) (F.length + j) (u8s (F ++ (be8 H).take j)) ∧ Below w.heap.size w wr) (fun _ i _ => (intOf i + 16).toNat)
    case atStart => exact ⟨0, A2, c2, by omega, rfl, rfl, by simpa using ho3, hbw3⟩
    case round =>
      obtain ⟨j, O, e, hj, rfl, rfl, hown, hbr⟩ := hrel
      have hbs := hbr.size
      rcases (show j < 8 ∨ j = 8 by omega) with hj8 | rfl
      · obtain ⟨k, hk⟩ : ∃ k : Nat, 56 - 8 * j = k := ⟨_, rfl⟩
        have hst := Lib.hid (be8_step H hj8)
        rw [hk] at hst
        have ek : (56 - 8 * (j : Int)) = (k : Int) := by omega
        rw [ek]
        have hv := be_val H k
        clear hk
        go_wp2_with (at_builtin; refine wpList_append1 rfl _ _ _ rfl elU8 rfl hown rfl rfl rfl ?_ ?k1 ?k2 ?k3 ?k4; intro A3 c3 w4 hown4 hgrow hb4)
        case k1 => first | rfl | (intro u hu; simp at hu; subst hu; rfl)
        case k2 => omega
        case k3 => unfold maxLen; omega
        case k4 => omega
        have hown4 := Lib.hid hown4
        go_roundw
        case rel => exact ⟨j + 1, A3, c3, by omega, int_eq (by omega), rfl, by rw [hst.out, ← List.append_assoc, u8_app1]; exact hown4.out, hbr.trans hb4⟩
        case measure => simp [intOf]; omega
      · have e8 : (be8 H).take 8 = be8 H := List.take_of_length_le (by rw [be8_len]; omega)
        rw [e8] at hown
        have hown := Lib.hid hown
        go_wp2_with fail
        go_ret2
        rw [HE.out]
        refine RV.mk ⟨O, e, ?_, ?_, hbr⟩
        · show Value.tuple #[.slice O (F.length + 8) e, .int .i64 0] = Value.tuple #[.slice O (F ++ be8 H).length e, .int .i64 0]
          rw [List.length_append, be8_len]
        · show wr.ownsRow w.heap.size 5 1 (.slice O (F ++ be8 H).length e) (F ++ be8 H).length (u8s (F ++ be8 H))
          rw [List.length_append, be8_len]; exact hown.out
end Go.Proofs.YtihjgbhnlejhfaaGreatDoor
namespace Go.Proofs.YtihjgbhnlejhfaaGreatDoor
open Go.RowKit

theorem own_ne2 {w : World} {g b : Nat} {t : TypeId} {cs : Array Value} {base size n c : Nat} {e : TypeId} {xs : List Value} (h : Blk w g t cs) (ho : w.ownsRow base e size (.slice (some ⟨b, 0, none⟩) n c) n xs) (ht : t ≠ e) : b ≠ g := by
  intro hb
  subst hb
  rcases ho.2 with ⟨h', _⟩ | ⟨q, cap, cur, h', _, hg, _⟩
  · cases h'
  · injection h' with h' _
    injection h' with h'
    injection h' with h'
    subst h'
    unfold Blk at h
    rw [h] at hg
    injection hg with hg
    injection hg with _ hg
    exact ht hg
theorem own_row_ne2 {w : World} {g : Nat} {t : TypeId} {cs : Array Value} {base size n : Nat} {v : Value} {e : TypeId} {xs : List Value} (h : Blk w g t cs) (ho : w.ownsRow base e size v n xs) (ht : t ≠ e) : some g ≠ v.ownBlock := by
  rcases ho.2 with ⟨rfl, _⟩ | ⟨q, cap, cur, rfl, hb, hg, h1, h2, h3, h4⟩
  · intro h'; cases h'
  · intro h'
    injection h' with h'
    exact own_ne2 (n := n) (c := cap) h ⟨ho.1, .inr ⟨q, cap, cur, rfl, hb, hg, h1, h2, h3, h4⟩⟩ ht h'.symm
theorem own_set2 {w : World} {g : Nat} {base size n : Nat} {v : Value} {e : TypeId} {xs : List Value} (ho : w.ownsRow base e size v n xs) (hne : some g ≠ v.ownBlock) (i : Nat) (u : Value) : (w.setCell ⟨g, i, none⟩ u).ownsRow base e size v n xs := by
  refine ⟨ho.1, ?_⟩
  rcases ho.2 with h | ⟨q, cap, cur, rfl, hb, hg, h1, h2, h3, h4⟩
  · exact .inl h
  · exact .inr ⟨q, cap, cur, rfl, hb, (Below.heap_setCell w ⟨g, i, none⟩ u q (fun e => hne (by rw [e]; rfl))).trans hg, h1, h2, h3, h4⟩

/-- 'out = append(out, more...)': the row's block is as it was, or the newest -/
theorem wpList_spread2 {P : Program} {w : World} {ops : Array Oper} {rest : List Oper} {o : Oper} {a : Act} {Q : Exit → Act → World → Prop} (hgd : Region.wanted o (yielded ops a.tmps) = true) (s x : Operand) (t : TypeId)
    (ho : o.op = .call { callee := .builtin .append, args := #[s, x], argTypes := #[t, t] })
    {base size bytes : Nat} {e : TypeId} (E : Elem P t e size bytes) {v : Value} (hs : a.eval s = v) {n : Nat} {xs : List Value} (hown : w.ownsRow base e size v n xs)
    {A : Option Addr} {m c B : Nat} (hx : a.eval x = .slice A m c) {news : List Value} (hr : Has w B A news)
    (h : ∀ A' c' w', w'.ownsRow base e size (.slice A' (n + m) c') (n + m) (xs ++ news) → w.grownBy w' v.ownBlock → Below base w w' → ((Value.slice A' (n + m) c').ownBlock = v.ownBlock ∨ (Value.slice A' (n + m) c').ownBlock = some w.heap.size) → wpList P ops Q rest (a.put o.dst (.slice A' (n + m) c')) w')
    (hl : news.length = m * size) (h1 : ∀ u ∈ news, u.oneCell' = true) (hmax : (n + m) * bytes ≤ 140737488355328) (h63 : n + m ≤ maxLen) (hbase : base ≤ w.heap.size) : wpList P ops Q (o :: rest) a w := by
  refine BigFrame.wpList_want hgd fun K hK => ?_
  obtain ⟨v', w', hrun, h2, h3, h4⟩ := run_append_spread (ty := o.type) E hown (c := c) hr hl h1 hmax h63 hbase
  obtain ⟨A', c', rfl, _⟩ := own_form h2
  unfold Oper.wp execOp
  simp only [ho, resolve, invoke, builtin, Sem.run_bind, Sem.run_pure, Result.andThen_ok, List.map_toArray, List.map_cons, List.map_nil, hs, hx, hrun]
  exact hK _ _ (h A' c' w' h2 h3 (grown_below hown h3 hbase) h4)

/-- no block but g and the row is written -/
structure Mod2 (g : Nat) (row : Option Nat) (w w' : World) : Prop where
  os : w'.os = w.os
  tape : w'.tape = w.tape
  output : w'.output = w.output
  size : w.heap.size ≤ w'.heap.size
  block : ∀ k, k < w.heap.size → k ≠ g → some k ≠ row → w'.heap[k]? = w.heap[k]?
theorem Mod2.of {g : Nat} {row : Option Nat} {w w1 w2 : World} (h : Below w.heap.size w w1) (k : w1.grownBy w2 row) (u : Value) (i : Nat) : Mod2 g row w (w2.setCell ⟨g, i, none⟩ u) :=
  ⟨k.os.trans h.os, k.tape.trans h.tape, k.output.trans h.output, by simp [World.setCell]; exact Nat.le_trans h.size k.size, fun q hq hne hr =>
    (Below.heap_setCell w2 ⟨g, i, none⟩ u q hne).trans ((k.block q (Nat.lt_of_lt_of_le hq h.size) hr).trans (h.block q hq))⟩
theorem Mod2.below {g B : Nat} {row : Option Nat} {w w' : World} (h : Mod2 g row w w') (hB : B ≤ w.heap.size) (hg : B ≤ g) (hr : ∀ k, row = some k → B ≤ k) : Below B w w' :=
  ⟨h.os, h.tape, h.output, h.size, fun k hk => h.block k (by omega) (by omega) (fun e => by have := hr k e.symm; omega)⟩
theorem own_mod2 {w w' : World} {base size n g : Nat} {e : TypeId} {v : Value} {xs : List Value} {row : Option Nat} (h : w.ownsRow base e size v n xs) (hm : Mod2 g row w w') (hne : ∀ k, v.ownBlock = some k → k ≠ g ∧ some k ≠ row) : w'.ownsRow base e size v n xs := by
  refine ⟨h.1, ?_⟩
  rcases h.2 with h2 | ⟨q, cap, cur, rfl, hb, hgg, rest⟩
  · exact .inl h2
  · exact .inr ⟨q, cap, cur, rfl, hb, (hm.block q (Array.getElem?_eq_some_iff.1 hgg).1 (hne q rfl).1 (hne q rfl).2).trans hgg, rest⟩
theorem own_block {w : World} {base size n : Nat} {e : TypeId} {v : Value} {xs : List Value} (h : w.ownsRow base e size v n xs) : ∀ k, v.ownBlock = some k → base ≤ k ∧ k < w.heap.size := by
  intro k hk
  rcases h.2 with ⟨rfl, _⟩ | ⟨q, cap, cur, rfl, hb, hgg, _⟩
  · cases hk
  · injection hk with hk
    have : q = k := hk
    subst this
    exact ⟨hb, (Array.getElem?_eq_some_iff.1 hgg).1⟩

theorem ob_map {A : Option Addr} {n c k : Nat} (h : (Value.slice A n c).ownBlock = some k) : A.map Addr.block = some k := by
  cases A with
  | none => cases h
  | some a => exact h
theorem map_ob {A : Option Addr} {n c k : Nat} (h : A.map Addr.block = some k) : (Value.slice A n c).ownBlock = some k := by
  cases A with
  | none => cases h
  | some a => exact h
def DiskAt (w : World) (base g : Nat) (A : Option Addr) (c : Nat) (b : List Nat) (s : Int) : Prop :=
  Blk w g 175 #[.slice A b.length c, .int .i64 s] ∧ w.ownsRow base 5 1 (.slice A b.length c) b.length (u8s b)
def appN (b rec : List Nat) : Int := if 2000 < rec.length then 2 else if 30000 < b.length + (frameL rec).length then 9 else 0

set_option maxRecDepth 1000000 in
set_option maxHeartbeats 1000000 in
theorem dapp_no (base g : Nat) (A : Option Addr) (c : Nat) (b : List Nat) (s : Int) (hbl : b.length ≤ 30000) (R : Option Addr) (n d : Nat) (rec : List Nat) (hn : rec.length = n) (hl : rec.length ≤ maxLen) (hb : Bytes rec) (z : Int) (hz : appN b rec = z) (hz0 : z ≠ 0) (w : World) (hD : DiskAt w base g A c b s) (h : Has w w.heap.size R (u8s rec)) :
    Calls Tryz.prog 103 #[.pointer (some ⟨g, 0, none⟩), .slice R n d] w (R1 (.int .i64 z) (Below w.heap.size w)) := by
  by_cases h2 : 2000 < rec.length
  · have hf := Lib.hid (show frameN rec = ([], 2) by unfold frameN; rw [if_pos h2])
    obtain rfl : z = 2 := by rw [← hz]; unfold appN; rw [if_pos h2]
    clear hz
    go_enter Tryz.func103, Tryz.ntmps103
    go_wp2_with fail
    refine (frame_any R n d rec hn hl hb _ (by exact h)).mono ?_
    rw [hf.out]
    rintro e w1 ⟨v, rfl, A1, c1, rfl, ho1, hb1⟩
    clear ho1
    go_wp2_with fail
    go_ret
    exact R1.mk rfl hb1
  · have hf := Lib.hid (show frameN rec = (frameL rec, 0) by unfold frameN; rw [if_neg h2])
    have h3 : 30000 < b.length + (frameL rec).length := by
      by_cases h3 : 30000 < b.length + (frameL rec).length
      · exact h3
      · exact absurd (by rw [← hz]; unfold appN; rw [if_neg h2, if_neg h3]) hz0
    obtain rfl : z = 9 := by rw [← hz]; unfold appN; rw [if_neg h2, if_pos h3]
    have hfl : (frameL rec).length ≤ 2018 := by
      have := putL_len10 (show rec.length < 18446744073709551616 by omega)
      unfold frameL; rw [List.length_append, List.length_append, be8_len]; omega
    have h3' : (30000 : Int) < (b.length : Int) + ((frameL rec).length : Int) := by omega
    clear hz h3
    go_enter Tryz.func103, Tryz.ntmps103
    go_wp2_with fail
    refine (frame_any R n d rec hn hl hb _ (by exact h)).mono ?_
    rw [hf.out]
    rintro e w1 ⟨v, rfl, A1, c1, rfl, ho1, hb1⟩
    clear ho1
    have hk := hD.1.next hb1
    have k0 : w1.cell? ⟨g, 0, none⟩ = some (.slice A b.length c) := hk.cell 0
    go_wp2_with fail
    go_ret
    exact R1.mk rfl hb1

/-- what a disk is behind a record that it took -/
def AppP (base g : Nat) (A : Option Addr) (b : List Nat) (s : Int) (rec : List Nat) (w w' : World) : Prop :=
  ∃ A' c', DiskAt w' base g A' c' (b ++ frameL rec) s ∧ (∀ k, (A'.map Addr.block) = some k → A.map Addr.block = some k ∨ w.heap.size ≤ k) ∧ Mod2 g (A.map Addr.block) w w'

set_option maxRecDepth 1000000 in
set_option maxHeartbeats 1000000 in
theorem dapp_yes (base g : Nat) (A : Option Addr) (c : Nat) (b : List Nat) (s : Int) (R : Option Addr) (n d : Nat) (rec : List Nat) (hn : rec.length = n) (hl : rec.length ≤ maxLen) (hb : Bytes rec) (hz : appN b rec = 0) (w : World) (hbase : base ≤ w.heap.size) (hD : DiskAt w base g A c b s) (h : Has w w.heap.size R (u8s rec)) :
    Calls Tryz.prog 103 #[.pointer (some ⟨g, 0, none⟩), .slice R n d] w (R1 (.int .i64 0) (AppP base g A b s rec w)) := by
  have h2 : ¬ 2000 < rec.length := fun h2 => by unfold appN at hz; rw [if_pos h2] at hz; simp at hz
  have h3 : ¬ 30000 < b.length + (frameL rec).length := fun h3 => by unfold appN at hz; rw [if_neg h2, if_pos h3] at hz; simp at hz
  have hf := Lib.hid (show frameN rec = (frameL rec, 0) by unfold frameN; rw [if_neg h2])
  have h3' : (b.length : Int) + ((frameL rec).length : Int) ≤ 30000 := by omega
  have h3'' : b.length + (frameL rec).length ≤ 30000 := by omega
  clear hz h3 h2
  go_enter Tryz.func103, Tryz.ntmps103
  go_wp2_with fail
  refine (frame_any R n d rec hn hl hb _ (by exact h)).mono ?_
  rw [hf.out]
  rintro e w1 ⟨v, rfl, A1, c1, rfl, ho1, hb1⟩
  have hr1 := Lib.hid (Has.of_own ho1); clear ho1
  have hk := hD.1.next hb1
  have hown1 := own_next hD.2 hb1
  have k0 : w1.cell? ⟨g, 0, none⟩ = some (.slice A b.length c) := hk.cell 0
  have hu1 := Lib.hid (u8s_one (frameL rec))
  have hul := Lib.hid (show (u8s (frameL rec)).length = (frameL rec).length * 1 by rw [u8s_length]; omega)
  have hs1 := hb1.size
  go_wp2_with (at_builtin; refine wpList_spread2 rfl _ _ _ rfl elU8 rfl hown1 rfl (by exact hr1.out) ?_ ?k1 ?k2 ?k3 ?k4 ?k5; intro A5 c5 w4 ho5 hgrow hb4 hblk; have hB4 : Blk w4 g 175 #[.slice A b.length c, .int .i64 s] := hk.grown hgrow (own_row_ne2 hk hown1 (by decide)); have g0 := hB4.frozen 0; have g1 : w4.cell? ⟨g, 0, none⟩ = some (.slice A b.length c) := hB4.cell 0)
  case k1 => exact hul.out
  case k2 => exact hu1.out
  case k3 => omega
  case k4 => unfold maxLen; omega
  case k5 => omega
  have hgrow : w1.grownBy w4 (Value.slice A b.length c).ownBlock := hgrow
  have hblk : (Value.slice A5 (b.length + (frameL rec).length) c5).ownBlock = (Value.slice A b.length c).ownBlock ∨ (Value.slice A5 (b.length + (frameL rec).length) c5).ownBlock = some w1.heap.size := hblk
  go_ret
  refine R1.mk rfl ⟨A5, c5, ⟨?_, ?_⟩, ?_, ?_⟩
  · rw [List.length_append]; exact hB4.set 0 _
  · rw [List.length_append, u8s_appd]; exact own_set2 ho5 (own_row_ne2 hB4 ho5 (by decide)) 0 _
  · intro k hk'
    have e1 : (Value.slice A5 (b.length + (frameL rec).length) c5).ownBlock = some k := map_ob hk'
    rcases hblk with hblk | hblk
    · left
      rw [hblk] at e1
      exact ob_map e1
    · right
      rw [hblk] at e1
      injection e1 with e1
      omega
  · have hrow : (Value.slice A b.length c).ownBlock = A.map Addr.block := by cases A <;> rfl
    rw [hrow] at hgrow
    exact Mod2.of hb1 hgrow _ 0
end Go.Proofs.YtihjgbhnlejhfaaGreatDoor
namespace Go.Proofs.YtihjgbhnlejhfaaGreatDoor
open Go.RowKit

def cmpI (a b : Int) : Int := if a < b then -1 else if b < a then 1 else 0
def orL : List Int → Int
  | [] => 0
  | a :: l => if a ≠ 0 then a else orL l

set_option maxRecDepth 1000000 in
theorem isNaNU_any (x : Nat) (w : World) : Calls Tryz.prog 146 #[.int .u64 x] w (R1 (.bool false) (fun w' => w' = w)) := by
  have e : ((x : Int) != (x : Int)) = false := by simp
  go_enter Tryz.func146, Tryz.ntmps146
  go_wp2_with fail
  go_ret
  exact R1.mk (by simp) rfl
set_option maxRecDepth 1000000 in
set_option maxHeartbeats 1000000 in
theorem compareU_any (x y : Nat) (w : World) : Calls Tryz.prog 123 #[.int .u64 x, .int .u64 y] w (R1 (.int .i64 (cmpI x y)) (fun w' => w' = w)) := by
  rcases (show (x : Int) < y ∨ (y : Int) < x ∨ (x : Int) = y by omega) with h | h | h
  · have e := Lib.hid (show cmpI x y = -1 by unfold cmpI; rw [if_pos h])
    go_enter Tryz.func123, Tryz.ntmps123
    go_wp2_with fail
    refine (isNaNU_any _ _).mono ?_
    rintro e1 w1 ⟨rfl, rfl⟩
    go_wp2_with fail
    refine (isNaNU_any _ _).mono ?_
    rintro e1 w2 ⟨rfl, rfl⟩
    go_wp2_with fail
    go_ret
    exact R1.mk (int_eq e.out.symm) rfl
  · have e := Lib.hid (show cmpI x y = 1 by unfold cmpI; rw [if_neg (by omega), if_pos h])
    have h1 : ¬ (x : Int) < y := by omega
    go_enter Tryz.func123, Tryz.ntmps123
    go_wp2_with fail
    refine (isNaNU_any _ _).mono ?_
    rintro e1 w1 ⟨rfl, rfl⟩
    go_wp2_with fail
    refine (isNaNU_any _ _).mono ?_
    rintro e1 w2 ⟨rfl, rfl⟩
    go_wp2_with fail
    go_ret
    exact R1.mk (int_eq e.out.symm) rfl
  · have e := Lib.hid (show cmpI x y = 0 by unfold cmpI; rw [if_neg (by omega), if_neg (by omega)])
    have h1 : ¬ (x : Int) < y := by omega
    have h2 : ¬ (y : Int) < x := by omega
    clear h
    go_enter Tryz.func123, Tryz.ntmps123
    go_wp2_with fail
    refine (isNaNU_any _ _).mono ?_
    rintro e1 w1 ⟨rfl, rfl⟩
    go_wp2_with fail
    refine (isNaNU_any _ _).mono ?_
    rintro e1 w2 ⟨rfl, rfl⟩
    go_wp2_with fail
    go_ret
    exact R1.mk (int_eq e.out.symm) rfl
theorem cmpI_cases (a b : Int) : cmpI a b = -1 ∨ cmpI a b = 0 ∨ cmpI a b = 1 := by
  unfold cmpI; split
  · exact .inl rfl
  · split
    · exact .inr (.inr rfl)
    · exact .inr (.inl rfl)
set_option maxRecDepth 1000000 in
set_option maxHeartbeats 2000000 in
theorem orInts_any (A : Option Addr) (n c : Nat) (l : List Int) (hn : l.length = n) (hl : n ≤ 1000) (w : World) (h : Has w w.heap.size A (i64s l)) :
    Calls Tryz.prog 122 #[.slice A n c] w (R1 (.int .i64 (orL l)) (fun w' => w' = w)) := by
  have Hn := Lib.hid hn; clear hn
  go_enter Tryz.func122, Tryz.ntmps122
  go_wp2_with fail
  go_loopw [8] (fun i wr => ∃ j : Nat, j ≤ n ∧ i = .int .i64 (j : Nat) ∧ Hid (orL l = orL (l.drop j)) ∧ wr = w) (fun i _ => n - (intOf i).toNat)
  case atStart => exact ⟨0, by omega, rfl, Lib.hid rfl, rfl⟩
  case round =>
    obtain ⟨j, hj, rfl, heq, rfl⟩ := hrel
    by_cases hlt : (j : Int) < (n : Int)
    · obtain ⟨ad, rfl, _, c1⟩ := h.at (i64s_at (show j < l.length by rw [Hn.out]; omega))
      have hst := Lib.hid (show orL l = if at_ l j ≠ 0 then at_ l j else orL (l.drop (j + 1)) by rw [heq.out, drop_at (show j < l.length by rw [Hn.out]; omega)]; rfl)
      obtain ⟨z, hz⟩ : ∃ z, at_ l j = z := ⟨_, rfl⟩
      rw [hz] at hst c1
      clear hz
      by_cases h0 : z = 0
      · subst h0
        go_wp2_with fail
        go_roundw
        case rel => exact ⟨j + 1, by omega, by go_num, Lib.hid (by rw [hst.out, if_neg (by simp)]), by trivial⟩
        case measure => simp [intOf]; omega
      · have h1 : (z != 0) = true := by rw [bne_iff_ne]; exact h0
        have e := Lib.hid (show orL l = z by rw [hst.out, if_pos h0])
        go_wp2_with fail
        go_ret
        exact R1.mk (int_eq e.out.symm) rfl
    · have e1 := Lib.hid (show orL l = 0 by rw [heq.out, List.drop_eq_nil_of_le (show l.length ≤ j by rw [Hn.out]; omega)]; rfl)
      go_wp2_with fail
      go_ret
      exact R1.mk (int_eq e1.out.symm) rfl
end Go.Proofs.YtihjgbhnlejhfaaGreatDoor
namespace Go.Proofs.YtihjgbhnlejhfaaGreatDoor
open Go.RowKit

def u64v (n : Nat) : Value := .int .u64 (n : Int)
def u64s (l : List Nat) : List Value := l.map u64v
theorem u64s_len (l : List Nat) : (u64s l).length = l.length := by simp [u64s]
theorem u64s_at {l : List Nat} {k : Nat} (h : k < l.length) : (u64s l)[k]? = some (.int .u64 ((at_ l k : Nat) : Int)) := by
  simp [u64s, get?_at h, u64v]
theorem u64s_one (l : List Nat) : ∀ u ∈ u64s l, u.oneCell' = true := by
  intro u hu
  simp only [u64s, List.mem_map] at hu
  obtain ⟨b, _, rfl⟩ := hu
  rfl
end Go.Proofs.YtihjgbhnlejhfaaGreatDoor
namespace Go.Proofs.YtihjgbhnlejhfaaGreatDoor
open Go.RowKit

theorem eq_at_u64 {l m : List Nat} (hl : l.length = m.length) (h : ∀ i, i < l.length → at_ l i = at_ m i) : l = m := by
  apply List.ext_getElem hl
  intro i h1 h2
  have := h i h1
  rwa [at_eq h1, at_eq h2] at this

set_option maxRecDepth 1000000 in
set_option maxHeartbeats 1000000 in
theorem equalU64_any (A B : Option Addr) (n m c d : Nat) (l k : List Nat) (hn : l.length = n) (hm : k.length = m) (hl : n ≤ maxLen) (hk : m ≤ maxLen) (w : World) (h : Has w w.heap.size A (u64s l)) (h' : Has w w.heap.size B (u64s k)) :
    Calls Tryz.prog 51 #[.slice A n c, .slice B m d] w (R1 (.bool (decide (l = k))) (Drawn w)) := by
  unfold maxLen at hl hk
  by_cases hnm : n = m
  · subst hnm
    go_enter Tryz.func51, Tryz.ntmps51
    go_wp2
    go_loopw [13] (fun i wr => ∃ j : Nat, j ≤ n ∧ i = .int .i64 (j : Nat) ∧ Hid (∀ q, q < j → at_ l q = at_ k q) ∧ Drawn w wr) (fun i _ => n - (intOf i).toNat)
    case atStart => exact ⟨0, by omega, rfl, Lib.hid (fun q hq => by omega), Drawn.refl _⟩
    case round =>
      obtain ⟨j, hj, rfl, heq, nd, rfl⟩ := hrel
      by_cases hlt : (j : Int) < (n : Int)
      · obtain ⟨ad, rfl, _, c1⟩ := h.at (u64s_at (show j < l.length by omega))
        obtain ⟨bd, rfl, _, c3⟩ := h'.at (u64s_at (show j < k.length by omega))
        have q1 : (0 : Int) ≤ (j : Int) := by omega
        by_cases e : at_ l j = at_ k j
        · have f1 : (((at_ l j : Nat) : Int) != ((at_ k j : Nat) : Int)) = false := by rw [e]; simp
          have f2 : (at_ l j != at_ k j) = false := by rw [e]; simp
          have E := Lib.hid e; clear e
          go_wp2
          go_quiet (fail)
          go_wp2
          go_roundw
          case rel => exact ⟨j + 1, by omega, by go_num, Lib.hid (fun q hq => by rcases Nat.lt_or_ge q j with h1 | h1; exact heq.out q h1; rw [show q = j by omega]; exact E.out), _, rfl⟩
          case measure => simp [intOf]; omega
        · have f1 : (((at_ l j : Nat) : Int) != ((at_ k j : Nat) : Int)) = true := by rw [bne_iff_ne]; omega
          have f2 : (at_ l j != at_ k j) = true := by rw [bne_iff_ne]; exact e
          have E := Lib.hid e; clear e
          go_wp2
          go_quiet (fail)
          go_wp2
          go_ret
          exact R1.mk (bool_eq (by rw [eq_comm, decide_eq_false_iff_not]; intro h1; exact E.out (by rw [h1]))) (Drawn.two _ _ _)
      · go_wp2
        go_ret
        exact R1.mk (bool_eq (by rw [eq_comm, decide_eq_true_iff]; exact eq_at_u64 (by omega) (fun i hi => heq.out i (by omega)))) ⟨_, rfl⟩
  · have f0 : ((n : Int) != (m : Int)) = true := by rw [bne_iff_ne]; omega
    have E := Lib.hid hnm; clear hnm
    go_enter Tryz.func51, Tryz.ntmps51
    go_wp2
    go_ret
    exact R1.mk (bool_eq (by rw [eq_comm, decide_eq_false_iff_not]; intro h1; exact E.out (by rw [← hn, ← hm, h1]))) (Drawn.refl _)
end Go.Proofs.YtihjgbhnlejhfaaGreatDoor
namespace Go.Proofs.YtihjgbhnlejhfaaGreatDoor
open Go.RowKit

theorem elU64 : Elem Tryz.prog 34 66 1 8 := Elem.mk' (z := .int .u64 0) Tryz.underlying34 (by kernel_rfl) rfl (by decide)

set_option maxRecDepth 1000000 in
set_option maxHeartbeats 400000 in
theorem cloneU64_any (A : Option Addr) (n c : Nat) (xs : List Value) (hl : xs.length = n * 1) (h1 : ∀ u ∈ xs, u.oneCell' = true) (hA : A = none → n = 0 ∧ c = 0) (hmax : n * 8 ≤ 140737488355328) (w : World) (h : Has w w.heap.size A xs) :
    Calls Tryz.prog 61 #[.slice A n c] w (RV fun v w' => ∃ A' c', v = .slice A' n c' ∧ w'.ownsRow w.heap.size 66 1 (.slice A' n c') n xs ∧ Below w.heap.size w w') := by
  have hq := fun (w : World) (a : Option Addr) (n c n' c' : Nat) => Lib.run_eql_slice_nil (P := Tryz.prog) w 34 66 a n c n' c' Tryz.underlying34
  cases A with
  | none =>
    obtain ⟨rfl, rfl⟩ := hA rfl
    go_enter Tryz.func61, Tryz.ntmps61
    go_wp2
    go_ret
    exact RV.mk ⟨none, 0, rfl, ⟨hl, .inl ⟨rfl, rfl⟩⟩, Below.refl _ _⟩
  | some ad =>
    go_enter Tryz.func61, Tryz.ntmps61
    go_wp2_with (at_builtin; refine wpList_spread rfl _ _ _ rfl elU64 rfl (World.ownsRow_made (base := w.heap.size) w #[] 0 (Nat.le_refl _) (Nat.zero_le _) rfl) rfl ((h.keep fun p hp => World.cell?_alloc_lt w _ p hp)) ?_ ?c1 ?c2 ?c3 ?c4 ?c5; intro A' c' w1 hown hgrow hbel)
    case c1 => exact hl
    case c2 => exact h1
    case c3 => omega
    case c4 => unfold maxLen; omega
    case c5 => simp
    go_ret
    rw [Nat.zero_add, List.nil_append] at hown
    exact RV.mk ⟨A', c', rfl, hown, ((Below.refl _ _).alloc (Nat.le_refl _) _).trans hbel⟩
end Go.Proofs.YtihjgbhnlejhfaaGreatDoor
namespace Go.Proofs.YtihjgbhnlejhfaaGreatDoor
open Go.RowKit

/-- the front of an own row is one -/
theorem own_front {w : World} {base size n c g k : Nat} {e : TypeId} {xs : List Value} (h : w.ownsRow base e size (.slice (some ⟨g, 0, none⟩) n c) n xs) (hk : k ≤ n) : w.ownsRow base e size (.slice (some ⟨g, 0, none⟩) k c) k (xs.take (k * size)) := by
  obtain ⟨h0, h⟩ := h
  rcases h with ⟨h, _⟩ | ⟨g', cap, cur, ev, hb, hg, h1, h2, h3, h4⟩
  · cases h
  · injection ev with e1 _ e3
    injection e1 with e1
    injection e1 with e1 _ _
    subst e1 e3
    have hks : k * size ≤ n * size := Nat.mul_le_mul_right _ hk
    refine ⟨by rw [List.length_take]; omega, .inr ⟨g, c, cur, rfl, hb, hg, by omega, h2, h3, ?_⟩⟩
    rw [← h4, List.take_take, Nat.min_eq_left hks]
/-- a cell behind the row's end -/
theorem own_behind {w : World} {base size n c g k : Nat} {e : TypeId} {xs : List Value} (h : w.ownsRow base e size (.slice (some ⟨g, 0, none⟩) n c) n xs) (hk : n * size ≤ k) (u : Value) : (w.setCell ⟨g, k, none⟩ u).ownsRow base e size (.slice (some ⟨g, 0, none⟩) n c) n xs := by
  obtain ⟨h0, h⟩ := h
  rcases h with ⟨h, _⟩ | ⟨g', cap, cur, ev, hb, hg, h1, h2, h3, h4⟩
  · cases h
  · injection ev with e1 _ e3
    injection e1 with e1
    injection e1 with e1 _ _
    subst e1 e3
    refine ⟨h0, .inr ⟨g, c, cur.setIfInBounds k u, rfl, hb, ?_, h1, h2, by simpa using h3, ?_⟩⟩
    · have hb2 : Blk w g e cur := hg
      exact hb2.set k u
    · rw [Array.toList_setIfInBounds, List.take_set_of_le (by omega)]
      exact h4
/-- the cells behind the row's end are there, and not frozen -/
theorem own_room {w : World} {base size n c g k : Nat} {e : TypeId} {xs : List Value} (h : w.ownsRow base e size (.slice (some ⟨g, 0, none⟩) n c) n xs) (hk : k < c * size) : (∃ u, w.cell? ⟨g, k, none⟩ = some u) ∧ w.frozen? ⟨g, k, none⟩ = false := by
  obtain ⟨_, h⟩ := h
  rcases h with ⟨h, _⟩ | ⟨g', cap, cur, ev, hb, hg, h1, h2, h3, h4⟩
  · cases h
  · injection ev with e1 _ e3
    injection e1 with e1
    injection e1 with e1 _ _
    subst e1 e3
    have hb2 : Blk w g e cur := hg
    exact ⟨⟨cur[k]'(by omega), by rw [hb2.cell k]; simp⟩, hb2.frozen k⟩
/-- cells behind the row's end, many -/
theorem own_behinds {base size n c g : Nat} {e : TypeId} {xs : List Value} : ∀ (vs : List Value) (o : Nat) (w : World), w.ownsRow base e size (.slice (some ⟨g, 0, none⟩) n c) n xs → n * size ≤ o → (w.setCells g o vs).ownsRow base e size (.slice (some ⟨g, 0, none⟩) n c) n xs
  | [], _, _, h, _ => h
  | v :: r, o, _, h, ho => own_behinds r (o + 1) _ (own_behind h ho v) (by omega)
theorem below_setCells {B : Nat} {a : World} {g : Nat} (hg : B ≤ g) : ∀ (vs : List Value) (o : Nat) (w : World), Below B a w → Below B a (w.setCells g o vs)
  | [], _, _, h => h
  | v :: r, o, _, h => below_setCells hg r (o + 1) _ (h.setCell hg v)
theorem only_setCells {g : Nat} {a : World} : ∀ (vs : List Value) (o : Nat) (w : World), Only g a w → Only g a (w.setCells g o vs)
  | [], _, _, h => h
  | v :: r, o, _, h => only_setCells r (o + 1) _ (h.set o v)
end Go.Proofs.YtihjgbhnlejhfaaGreatDoor
