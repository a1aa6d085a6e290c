/- Texts of the proof of ExprOne, joined (by merge.py). Conditions: each theorem's own hypotheses. -/
import Derived.Test.YtnicbhmeigpjkaaGreatDoorRows
import Derived.WalkKit
import Derived.WalkSpells
import Derived.WalkLawsBesides
import Derived.ProofKit
import Derived.Lib.Hide
import Derived.Deep.QuietTactic
import Derived.Deep.AppendLies
import Derived.Deep.Draws
import Derived.BigQuiet
import Derived.BigFrame
import Derived.Maps.AppendAt
import Derived.Laws.OwnMore
import Derived.SizedLaws
import Derived.OpenShut
import Derived.Tactics
import Derived.Tactics2
import Derived.Defers
import Derived.Laws.Pointers
import Derived.Laws.LoneSync
import Derived.RegionTactic
import Derived.RegionCalls
import Derived.ChangeAlike
import Derived.OwnWalk
import Derived.Lib.SliceRun
namespace Go.Proofs.YtnicbhmeigpjkaaGreatDoor
open Go.RowKit Go.ChangeShapes Go.WideShapes Go.ChangeAt

/-! ### Ends -/
def R1 (v : Value) (P : World → Prop) : Ending → World → Prop := fun e w' => e = .returned v ∧ P w'
theorem R1.mk {v v' : Value} {P : World → Prop} {w : World} (h : v' = v) (hp : P w) : R1 v P (.returned v') w := ⟨by rw [h], hp⟩
def RV (P : Value → World → Prop) : Ending → World → Prop := fun e w' => ∃ v, e = .returned v ∧ P v w'
theorem RV.mk {v : Value} {P : Value → World → Prop} {w : World} (hp : P v w) : RV P (.returned v) w := ⟨v, rfl, hp⟩
theorem int_eq {k : IntKind} {a b : Int} (h : a = b) : Value.int k a = Value.int k b := by rw [h]
theorem bool_eq {a b : Bool} (h : a = b) : Value.bool a = Value.bool b := by rw [h]
/-- only draws -/
def Drawn (w w' : World) : Prop := ∃ n, w' = w.drewN n
theorem Drawn.refl (w : World) : Drawn w w := ⟨0, rfl⟩
theorem Drawn.of (w : World) (n : Nat) : Drawn w (w.drewN n) := ⟨n, rfl⟩

theorem Drawn.two (w : World) (n m : Nat) : Drawn w ((w.drewN n).drewN m) := ⟨n + m, by rw [World.drewN_drewN]⟩

/-! ### Reading a list -/
def at_ {α : Type} [Inhabited α] (l : List α) (k : Nat) : α := l.getD k default
theorem at_eq {α : Type} [Inhabited α] {l : List α} {k : Nat} (h : k < l.length) : at_ l k = l[k] := by
  simp [at_, List.getD, List.getElem?_eq_getElem h]
theorem get?_at {α : Type} [Inhabited α] {l : List α} {k : Nat} (h : k < l.length) : l[k]? = some (at_ l k) := by
  rw [at_eq h, List.getElem?_eq_getElem h]
theorem at_mem {α : Type} [Inhabited α] {l : List α} {k : Nat} (h : k < l.length) : at_ l k ∈ l := by
  rw [at_eq h]; exact List.getElem_mem h
theorem take_at {α : Type} [Inhabited α] {l : List α} {k : Nat} (h : k < l.length) : l.take (k + 1) = l.take k ++ [at_ l k] := by
  rw [List.take_add_one, get?_at h]; rfl
theorem drop_at {α : Type} [Inhabited α] {l : List α} {k : Nat} (h : k < l.length) : l.drop k = at_ l k :: l.drop (k + 1) := by
  rw [List.drop_eq_getElem_cons h, at_eq h]

theorem add_block (a : Addr) (n : Nat) : (a.add n).block = a.block := by unfold Addr.add; split <;> rfl
theorem add_add_ (a : Addr) (i j : Nat) : (a.add i).add j = a.add (i + j) := by
  unfold Addr.add
  by_cases hi : i = 0 <;> by_cases hj : j = 0 <;> simp [hi, hj, Nat.add_assoc]

/-- a struct's later field, as the walk spells its address -/
theorem cell_off {w : World} {a : Addr} {i j : Nat} {u : Value} (h : w.cell? (a.add (i + j)) = some u) (hj : 0 < j) : w.cell? ⟨(a.add i).block, (a.add i).off + j, none⟩ = some u := by
  rw [← h, ← add_add_]
  generalize a.add i = b
  rw [show b.add j = ⟨b.block, b.off + j, none⟩ by unfold Addr.add; rw [if_neg (by omega)]]

/-- The address (nil where the list is empty) holds the cells, below block B. -/
def Has (w : World) (B : Nat) (A : Option Addr) (xs : List Value) : Prop :=
  xs ≠ [] → ∃ ad, A = some ad ∧ ad.block < B ∧ ∀ j u, xs[j]? = some u → w.cell? (ad.add j) = some u

section
variable {w w' : World} {B B' : Nat} {A : Option Addr} {xs : List Value}
theorem Has.nil (w : World) (B : Nat) (A : Option Addr) : Has w B A [] := fun h => absurd rfl h
theorem Has.at {k : Nat} {u : Value} (h : Has w B A xs) (hk : xs[k]? = some u) : ∃ ad, A = some ad ∧ ad.block < B ∧ w.cell? (ad.add k) = some u := by
  obtain ⟨ad, rfl, hb, hc⟩ := h (by intro e; rw [e] at hk; simp at hk)
  exact ⟨ad, rfl, hb, hc k u hk⟩
theorem Has.keep (h : Has w B A xs) (hk : ∀ p : Addr, p.block < B → w'.cell? p = w.cell? p) : Has w' B A xs := fun hx => by
  obtain ⟨ad, e, hb, hc⟩ := h hx
  exact ⟨ad, e, hb, fun j u hu => (hk _ (by rw [add_block]; exact hb)).trans (hc j u hu)⟩
theorem Has.more (h : Has w B A xs) (hB : B ≤ B') : Has w B' A xs := fun hx => by
  obtain ⟨ad, e, hb, hc⟩ := h hx
  exact ⟨ad, e, by omega, hc⟩
theorem Has.below (h : Has w B A xs) (hb : Below B w w') : Has w' B A xs := h.keep fun _ hp => hb.cell hp
theorem Has.alloc (h : Has w B A xs) (hB : B ≤ w.heap.size) (o : Obj) : Has (w.alloc o) B A xs := h.keep fun p hp => World.cell?_alloc_lt w o p (by omega)
theorem Has.drewN (h : Has w B A xs) (n : Nat) : Has (w.drewN n) B A xs := h
theorem Has.drewN_size (h : Has w w.heap.size A xs) (n : Nat) : Has (w.drewN n) (w.drewN n).heap.size A xs := h
/-- behind a call that turned nothing of what was there -/
theorem Has.next (h : Has w w.heap.size A xs) (hb : Below w.heap.size w w') : Has w' w'.heap.size A xs := (h.below hb).more hb.size
theorem Has.of_own {base size n c : Nat} {e : TypeId} (h : w.ownsRow base e size (.slice A n c) n xs) : Has w w.heap.size A xs := by
  intro hx
  rcases h.2 with ⟨hv, hn⟩ | ⟨g, cap, cur, hv, _, hh, _, _, _, _⟩
  · exact absurd (List.eq_nil_of_length_eq_zero (by rw [h.1, hn]; simp)) hx
  · have hA : A = some ⟨g, 0, none⟩ := by injection hv
    subst hA
    exact ⟨_, rfl, (Array.getElem?_eq_some_iff.1 hh).1, h.cells rfl⟩
/-- a cut: what 's[k:]' holds -/
theorem Has.cut {k n size cap : Nat} (h : Has w B A xs) (hl : xs.length = n * size) (hc : n ≤ cap) :
    Has w B (if cap = k then A else A.map (·.add (k * size))) (xs.drop (k * size)) := by
  intro hx
  have hlt : k * size < xs.length := by
    rcases Nat.lt_or_ge (k * size) xs.length with hlt | hge
    · exact hlt
    · exact absurd (List.drop_eq_nil_of_le hge) hx
  obtain ⟨ad, rfl, hb, hcell⟩ := h (by intro e; rw [e] at hlt; simp at hlt)
  have hkn : k < n := by
    rcases Nat.lt_or_ge k n with h1 | h1
    · exact h1
    · have := Nat.mul_le_mul_right size h1; omega
  rw [if_neg (by omega)]
  refine ⟨ad.add (k * size), rfl, by rw [add_block]; exact hb, fun j u hu => ?_⟩
  rw [add_add_]
  exact hcell _ u (by rw [← hu, List.getElem?_drop])
theorem Has.take (h : Has w B A xs) (k : Nat) : Has w B A (xs.take k) := by
  intro hx
  obtain ⟨ad, rfl, hb, hc⟩ := h (by intro e; rw [e] at hx; simp at hx)
  refine ⟨ad, rfl, hb, fun j u hu => hc j u ?_⟩
  rw [List.getElem?_take] at hu
  split at hu
  · exact hu
  · cases hu
end

/-- An owned row over a call that turned nothing of what was there. -/
theorem own_next {w w' : World} {base size n : Nat} {e : TypeId} {v : Value} {xs : List Value} (h : w.ownsRow base e size v n xs) (hb : Below w.heap.size w w') : w'.ownsRow base e size v n xs := by
  refine ⟨h.1, ?_⟩
  rcases h.2 with hn | ⟨g, cap, cur, rfl, hg, hgg, rest⟩
  · exact .inl hn
  · exact .inr ⟨g, cap, cur, rfl, hg, (hb.block g (Array.getElem?_eq_some_iff.1 hgg).1).trans hgg, rest⟩
theorem own_less {w : World} {base base' size n : Nat} {e : TypeId} {v : Value} {xs : List Value} (h : w.ownsRow base e size v n xs) (hb : base' ≤ base) : w.ownsRow base' e size v n xs := by
  refine ⟨h.1, ?_⟩
  rcases h.2 with hn | ⟨g, cap, cur, rfl, hg, hgg, rest⟩
  · exact .inl hn
  · exact .inr ⟨g, cap, cur, rfl, by omega, hgg, rest⟩
theorem own_drewN {w : World} {base size n : Nat} {e : TypeId} {v : Value} {xs : List Value} (h : w.ownsRow base e size v n xs) (k : Nat) : (w.drewN k).ownsRow base e size v n xs := h
/-- the slice's form -/
theorem own_form {w : World} {base size n : Nat} {e : TypeId} {v : Value} {xs : List Value} (h : w.ownsRow base e size v n xs) : ∃ A c, v = .slice A n c ∧ n ≤ c ∧ c ≤ maxLen ∧ (n = 0 ∨ A ≠ none) ∧ (A = none → c = 0) := by
  rcases h.2 with ⟨rfl, rfl⟩ | ⟨g, cap, cur, rfl, _, _, hn, hc, _⟩
  · exact ⟨none, 0, rfl, Nat.le_refl _, Nat.zero_le _, .inl rfl, fun _ => rfl⟩
  · exact ⟨_, cap, rfl, hn, hc, .inr (by simp), fun h => by cases h⟩

theorem bnext {w w1 w2 : World} (h1 : Below w.heap.size w w1) (h2 : Below w1.heap.size w1 w2) : Below w.heap.size w w2 := h1.trans (h2.mono h1.size)

theorem drawn_below {w w' : World} (h : Drawn w w') : Below w.heap.size w w' := by
  obtain ⟨n, rfl⟩ := h
  exact below_drewN (Below.refl _ _) _

/-! ### Bytes -/
def u8v (b : Nat) : Value := .int .u8 (b : Int)
def u8s (l : List Nat) : List Value := l.map u8v
theorem u8s_len (l : List Nat) : (u8s l).length = l.length := by simp [u8s]
theorem u8s_at {l : List Nat} {k : Nat} (h : k < l.length) : (u8s l)[k]? = some (.int .u8 ((at_ l k : Nat) : Int)) := by
  simp [u8s, get?_at h, u8v]
theorem u8s_app (l m : List Nat) : u8s (l ++ m) = u8s l ++ u8s m := by simp [u8s]
theorem u8s_one (l : List Nat) : ∀ u ∈ u8s l, u.oneCell' = true := by
  intro u hu
  simp only [u8s, List.mem_map] at hu
  obtain ⟨b, _, rfl⟩ := hu
  rfl
def Bytes (l : List Nat) : Prop := ∀ b ∈ l, b < 256
theorem Bytes.at {l : List Nat} (h : Bytes l) (k : Nat) : at_ l k < 256 := by
  rcases Nat.lt_or_ge k l.length with h1 | h1
  · exact h _ (at_mem h1)
  · simp [at_, List.getD, List.getElem?_eq_none h1]

theorem own_cap {w : World} {base size n c : Nat} {e : TypeId} {A : Option Addr} {xs : List Value} (h : w.ownsRow base e size (.slice A n c) n xs) (hA : A = none) : n = 0 ∧ c = 0 := by
  obtain ⟨A', c', e1, _, _, h4, h5⟩ := own_form h
  injection e1 with e1 e2 e3
  subst e1 e3
  exact ⟨h4.resolve_right (fun h => h hA), h5 hA⟩

theorem Has.fresh (w : World) (cs : Array Value) (e : TypeId) : Has (w.alloc (.cells cs e)) (w.alloc (.cells cs e)).heap.size (some ⟨w.heap.size, 0, none⟩) cs.toList := fun _ => by
  refine ⟨_, rfl, by simp, fun j u hu => ?_⟩
  have hadd : (⟨w.heap.size, 0, none⟩ : Addr).add j = ⟨w.heap.size, j, none⟩ := by unfold Addr.add; split <;> simp_all
  rw [hadd, cell_of_row _ _ _ cs e (0, 0) (heap_alloc_new w _)]
  simpa using hu

/-! ### append -/
structure Elem (P : Program) (t e : TypeId) (size bytes : Nat) : Prop where
  ht : P.underlying t = some (.slice e)
  hi : ∃ i z, P.info? e = some i ∧ i.zero = some z ∧ i.size = size ∧ i.bytes = bytes ∧ z.cells.size = size
  hs : 0 < size
theorem Elem.mk' {P : Program} {t e : TypeId} {size bytes : Nat} {z : Value} (ht : P.underlying t = some (.slice e)) (hi : (P.info? e).map (fun i => (i.zero, i.size, i.bytes)) = some (some z, size, bytes)) (hz : z.cells.size = size) (hs : 0 < size) : Elem P t e size bytes := by
  obtain ⟨i0, h1, h2, h3, h4⟩ := info_parts hi
  exact ⟨ht, ⟨i0, z, h1, h2, h3, h4, hz⟩, hs⟩

section
variable {P : Program} {w : World}
theorem run_append_spread {base size bytes : Nat} {t ty e : TypeId} (E : Elem P t e size bytes) {v : Value} {n : Nat} {xs : List Value} (hown : w.ownsRow base e size v n xs)
    {A : Option Addr} {m c B : Nat} {news : List Value} (hr : Has w B A news) (hl : news.length = m * size) (h1 : ∀ u ∈ news, u.oneCell' = true)
    (hmax : (n + m) * bytes ≤ 140737488355328) (h63 : n + m ≤ maxLen) (hbase : base ≤ w.heap.size) :
    ∃ v' w', (Builtin.append_ #[t, t] ty #[v, .slice A m c]).run P w = .ok v' w' ∧ w'.ownsRow base e size v' (n + m) (xs ++ news) ∧ w.grownBy w' v.ownBlock ∧
      (v'.ownBlock = v.ownBlock ∨ v'.ownBlock = some w.heap.size) := by
  obtain ⟨ht, ⟨i, z, hi, hz, hsize, hby, hzs⟩, hsz⟩ := E
  cases A with
  | none =>
    have hn : news = [] := by
      rcases Decidable.em (news = []) with h0 | h0
      · exact h0
      · obtain ⟨ad, h, _⟩ := hr h0
        cases h
    subst hn
    have hm : m = 0 := by
      rcases Nat.eq_zero_or_pos m with h0 | h0
      · exact h0
      · have := Nat.mul_pos h0 hsz; simp at hl; omega
    subst hm
    refine ⟨v, w, ?_, by simpa using hown, World.grownBy.refl w _, .inl rfl⟩
    rcases hown.2 with ⟨rfl, rfl⟩ | ⟨g, cap, cur, rfl, _, _, hnc, _⟩
    · simp [Builtin.append_, run_underlying ht, sizeOf, typeInfo, hi, Builtin.lenOf, Builtin.firstCells]
    · simp [Builtin.append_, run_underlying ht, sizeOf, typeInfo, hi, Builtin.lenOf, Builtin.firstCells, hnc, storeCells]
  | some ad =>
    have hcells : ∀ j u, news[j]? = some u → w.cell? (ad.add j) = some u := by
      intro j u hu
      obtain ⟨ad', h, _, hc⟩ := hr.at hu
      injection h with h
      subst h
      exact hc
    obtain ⟨v', w', hrun, h2, h3, _, h5⟩ := run_append_own_at (P := P) w base t ty e i z size bytes ht hi hz hsize hby hzs hsz v n xs hown ad m c news hl hcells h1 h63 hmax hbase
    exact ⟨v', w', hrun, h2, h3, h5⟩

theorem grown_below {w w' : World} {base : Nat} {e : TypeId} {size : Nat} {v : Value} {n : Nat} {xs : List Value} (hown : w.ownsRow base e size v n xs) (hg : w.grownBy w' v.ownBlock) (hbase : base ≤ w.heap.size) : Below base w w' :=
  (Below.refl _ _).grown hg hbase (fun k hk => (hown.lt k hk).1)

/-- 'out = append(out, more...)', out a row of the call's own -/
theorem wpList_spread {ops : Array Oper} {rest : List Oper} {o : Oper} {a : Act} {Q : Exit → Act → World → Prop} (hgd : Region.wanted o (yielded ops a.tmps) = true) (s x : Operand) (t : TypeId)
    (ho : o.op = .call { callee := .builtin .append, args := #[s, x], argTypes := #[t, t] })
    {base size bytes : Nat} {e : TypeId} (E : Elem P t e size bytes) {v : Value} (hs : a.eval s = v) {n : Nat} {xs : List Value} (hown : w.ownsRow base e size v n xs)
    {A : Option Addr} {m c B : Nat} (hx : a.eval x = .slice A m c) {news : List Value} (hr : Has w B A news)
    (h : ∀ A' c' w', w'.ownsRow base e size (.slice A' (n + m) c') (n + m) (xs ++ news) → w.grownBy w' v.ownBlock → Below base w w' → wpList P ops Q rest (a.put o.dst (.slice A' (n + m) c')) w')
    (hl : news.length = m * size) (h1 : ∀ u ∈ news, u.oneCell' = true) (hmax : (n + m) * bytes ≤ 140737488355328) (h63 : n + m ≤ maxLen) (hbase : base ≤ w.heap.size) : wpList P ops Q (o :: rest) a w := by
  refine BigFrame.wpList_want hgd fun K hK => ?_
  obtain ⟨v', w', hrun, h2, h3, h4⟩ := run_append_spread (ty := o.type) E hown (c := c) hr hl h1 hmax h63 hbase
  obtain ⟨A', c', rfl, _⟩ := own_form h2
  unfold Oper.wp execOp
  simp only [ho, resolve, invoke, builtin, Sem.run_bind, Sem.run_pure, Result.andThen_ok, List.map_toArray, List.map_cons, List.map_nil, hs, hx, hrun]
  exact hK _ _ (h A' c' w' h2 h3 (grown_below hown h3 hbase))

/-- 'out = append(out, x)': the one new element lies in the newest block -/
theorem wpList_append1 {ops : Array Oper} {rest : List Oper} {o : Oper} {a : Act} {Q : Exit → Act → World → Prop} (hgd : Region.wanted o (yielded ops a.tmps) = true) (s x : Operand) (t : TypeId)
    (ho : o.op = .call { callee := .builtin .append, args := #[s, x], argTypes := #[t, t] })
    {base size bytes : Nat} {e : TypeId} (E : Elem P t e size bytes) {v : Value} (hs : a.eval s = v) {n : Nat} {xs : List Value} (hown : w.ownsRow base e size v n xs)
    {cs : Array Value} {e' : TypeId} {g : Nat} {c : Nat} (hx : a.eval x = .slice (some ⟨g, 0, none⟩) 1 c) (hg : g = w.heap.size) (hl : cs.size = size)
    (h : ∀ A' c' w', w'.ownsRow base e size (.slice A' (n + 1) c') (n + 1) (xs ++ cs.toList) → w.grownBy w' v.ownBlock → Below base w w' → wpList P ops Q rest (a.put o.dst (.slice A' (n + 1) c')) w')
    (h1 : ∀ u ∈ cs.toList, u.oneCell' = true) (hmax : (n + 1) * bytes ≤ 140737488355328) (h63 : n + 1 ≤ maxLen) (hbase : base ≤ w.heap.size) : wpList P ops Q (o :: rest) a (w.alloc (.cells cs e')) := by
  subst hg
  have hr : Has (w.alloc (.cells cs e')) (w.heap.size + 1) (some ⟨w.heap.size, 0, none⟩) cs.toList := fun _ => by
    refine ⟨_, rfl, Nat.lt_succ_self _, fun j u hu => ?_⟩
    have hadd : (⟨w.heap.size, 0, none⟩ : Addr).add j = ⟨w.heap.size, j, none⟩ := by unfold Addr.add; split <;> simp_all
    rw [hadd, cell_of_row _ _ _ cs e' (0, 0) (heap_alloc_new w _)]
    simpa using hu
  refine wpList_spread (P := P) hgd s x t ho E hs (hown.alloc _) hx hr ?_ (by simpa using hl) h1 hmax h63 (by simp; omega)
  intro A' c' w' h2 h3 h4
  have h5 : w.grownBy w' v.ownBlock := ⟨h3.os, h3.tape, h3.output, Nat.le_trans (by simp) h3.size, fun k hk hne => (h3.block k (by simp; omega) hne).trans (Below.heap_alloc _ _ _ hk)⟩
  exact h A' c' w' h2 h5 (grown_below hown h5 hbase)
end

/-! ### A block that is known whole -/
def Blk (w : World) (g : Nat) (t : TypeId) (cs : Array Value) : Prop := w.heap[g]? = some (.cells cs t (0, 0))
section
variable {w w' : World} {g : Nat} {t : TypeId} {cs : Array Value}
theorem Blk.lt (h : Blk w g t cs) : g < w.heap.size := (Array.getElem?_eq_some_iff.1 h).1
theorem Blk.cell (h : Blk w g t cs) (i : Nat) : w.cell? ⟨g, i, none⟩ = cs[i]? := cell_of_row w g i cs t (0, 0) h
theorem Blk.frozen (h : Blk w g t cs) (i : Nat) : w.frozen? ⟨g, i, none⟩ = false := by
  unfold Blk at h
  simp [World.frozen?, h]
theorem Blk.new (w : World) (t : TypeId) (cs : Array Value) : Blk (w.alloc (.cells cs t)) w.heap.size t cs := heap_alloc_new w _
theorem Blk.drewN (h : Blk w g t cs) (n : Nat) : Blk (w.drewN n) g t cs := h
theorem Blk.alloc (h : Blk w g t cs) (o : Obj) : Blk (w.alloc o) g t cs := (Below.heap_alloc w o g h.lt).trans h
theorem Blk.set (h : Blk w g t cs) (i : Nat) (u : Value) : Blk (w.setCell ⟨g, i, none⟩ u) g t (cs.setIfInBounds i u) := by
  unfold Blk at h ⊢
  simp [World.setCell, Array.getElem?_modify, h]
theorem Blk.below {B : Nat} (h : Blk w g t cs) (hb : Below B w w') (hg : g < B) : Blk w' g t cs := (hb.block g hg).trans h
theorem Blk.next (h : Blk w g t cs) (hb : Below w.heap.size w w') : Blk w' g t cs := h.below hb h.lt
theorem Blk.grown {row : Option Nat} (h : Blk w g t cs) (hb : w.grownBy w' row) (hg : some g ≠ row) : Blk w' g t cs := (hb.block g h.lt hg).trans h
end
/-- of what was there only block g was written -/
def Only (g : Nat) (w w' : World) : Prop := w.grownBy w' (some g)
theorem Only.refl (g : Nat) (w : World) : Only g w w := World.grownBy.refl w _
theorem Only.trans {g : Nat} {a b c : World} (h : Only g a b) (k : Only g b c) : Only g a c :=
  ⟨k.os.trans h.os, k.tape.trans h.tape, k.output.trans h.output, Nat.le_trans h.size k.size, fun i hi hne => (k.block i (Nat.lt_of_lt_of_le hi h.size) hne).trans (h.block i hi hne)⟩
theorem Only.drewN {g : Nat} {a b : World} (h : Only g a b) (n : Nat) : Only g a (b.drewN n) := ⟨h.os, h.tape, h.output, h.size, h.block⟩
theorem Only.set {g : Nat} {a b : World} (h : Only g a b) (i : Nat) (u : Value) : Only g a (b.setCell ⟨g, i, none⟩ u) :=
  ⟨h.os, h.tape, h.output, by simp [World.setCell]; exact h.size, fun k hk hne => (Below.heap_setCell b ⟨g, i, none⟩ u k (fun e => hne (by rw [e]))).trans (h.block k hk hne)⟩
theorem Only.below {g B : Nat} {w w' : World} (h : Only g w w') (hB : B ≤ w.heap.size) (hg : B ≤ g) : Below B w w' :=
  (Below.refl _ _).grown h hB (fun k hk => by injection hk with hk; omega)
theorem Has.only {g B : Nat} {w w' : World} {A : Option Addr} {xs : List Value} (h : Has w B A xs) (hB : B ≤ w.heap.size) (hg : B ≤ g) (ho : Only g w w') : Has w' B A xs := h.below (ho.below hB hg)

/-! ### A law's row -/
theorem trodAll_below {H : Type} {enc : TypeId × Value → H} {P : Program} (hl : laidOutB P = true) {W W' : World} (hb : Below W.heap.size W W') {ts : List TypeId} (hr : ∀ t ∈ ts, P.readableRec t = true ∧ t < P.types.size) :
    ∀ {vs : List Value} {ds : List (DataW H)} {ps : List MemPlace}, DataW.TrodAll enc P W 0 (fun _ => true) true ts vs ds ps → (∀ x ∈ ps, x.block < W.heap.size) →
      DataW.TrodAll enc P W' 0 (fun b => decide (b < W.heap.size)) true ts vs ds ps := by
  induction ts with
  | nil =>
    intro vs ds ps h _
    obtain ⟨rfl, rfl, rfl⟩ := Go.ChangeShapes.trodAll_nil h
    exact trodAll_mk0
  | cons t ts ih =>
    intro vs ds ps h hlt
    obtain ⟨v, vs', d, ds', p, q, rfl, rfl, rfl, h0, h1⟩ := Go.ChangeShapes.trodAll_cons h
    have hr0 := hr t List.mem_cons_self
    exact trodAll_cons_mk (Below.trod hl hr0.1 hr0.2 h0 hb (fun x hx => hlt x (List.mem_append_left _ hx)))
      (ih (fun t' ht' => hr t' (List.mem_cons_of_mem _ ht')) h1 (fun x hx => hlt x (List.mem_append_right _ hx)))

theorem post_true {H : Type} {enc : TypeId × Value → H} {P : Program} {f : Func} {s : ChangeSpec} {W W' : World} {args : Array Value} {ds gs : List (DataW H)} {before : List MemPlace} {tb : TypeId}
    (hl : laidOutB P = true) (hr : ∀ t ∈ f.params.toList, P.readableRec t = true ∧ t < P.types.size) (hres : f.resultTypes = #[tb]) (hb : P.underlying tb = some .bool) (hvars : s.vars = [])
    (hfn : (s.fn H (ds ++ gs)).results = [.lit (.bool true)] ∧ (s.fn H (ds ++ gs)).args = ds ∧ (s.fn H (ds ++ gs)).vars = [])
    (hW : DataW.Whole enc P f.params.toList s.vars false W args.toList ds gs before) (hbel : Below W.heap.size W W') : s.post enc P f false true false false W args (.bool true) W' := by
  have hlt : ∀ x ∈ before, x.block < W.heap.size := fun x hx => hW.lt x hx
  have hW0 := hW
  obtain ⟨p, q, hA, hV, rfl, _, _⟩ := hW
  refine ⟨ds, gs, p ++ q, [], p, [], hW0, ?_, ?_, ?_, hbel.frame _, fun h => by cases h⟩
  · rw [hfn.1, hres]
    exact trodAll_mk1 (shut_bool hb true)
  · rw [hfn.2.1]
    exact trodAll_below hl hbel hr hA (fun x hx => hlt x (List.mem_append_left _ hx))
  · rw [hfn.2.2, hvars]
    simp [DataW.TrodVars]
end Go.Proofs.YtnicbhmeigpjkaaGreatDoor
namespace Go.Proofs.YtnicbhmeigpjkaaGreatDoor
open Go.RowKit

theorem rp_disable (w : World) : (callFunc 190 #[]).run Tryz.prog w = .ok (.value (.tuple #[])) w := run_call_mark0 Tryz.func190 (by kernel_rfl) (by kernel_rfl) (by kernel_rfl) .disable (by kernel_rfl) w
theorem rp_enable (w : World) : (callFunc 192 #[]).run Tryz.prog w = .ok (.value (.tuple #[])) w := run_call_mark0 Tryz.func192 (by kernel_rfl) (by kernel_rfl) (by kernel_rfl) .enable (by kernel_rfl) w
theorem rp_acquire (a : Addr) (w : World) : (callFunc 193 #[.pointer (some a)]).run Tryz.prog w = .ok (.value (.tuple #[])) w := run_call_marked Tryz.func193 (by kernel_rfl) (by kernel_rfl) (by kernel_rfl) .acquire (by kernel_rfl) a w
theorem rp_releaseMerge (a : Addr) (w : World) : (callFunc 195 #[.pointer (some a)]).run Tryz.prog w = .ok (.value (.tuple #[])) w := run_call_marked Tryz.func195 (by kernel_rfl) (by kernel_rfl) (by kernel_rfl) .releaseMerge (by kernel_rfl) a w

/-- '(*sync/atomic.Bool).Store(true)', entered as a deferred call -/
theorem rp_store_deferred (a : Addr) (x : Value) (u : FrameMode) (w : World) (hc : w.cell? a = some x) (hz : w.frozen? a = false) :
    CallsD Tryz.prog 180 #[.pointer (some a), .bool true] u w fun e u' w' => u' = u ∧ (e = .returned (.tuple #[]) ∧ w' = w.drew.setCell a (.int .u32 1)) := by
  have hc' : w.drew.cell? a = some x := by go_simp
  have hz' : w.drew.frozen? a = false := by go_simp
  have hst := run_call_store (P := Tryz.prog) Tryz.func186 (by kernel_rfl) (by kernel_rfl) (by kernel_rfl) (by kernel_rfl) (k := .u32) (y := 1) hc' hz'
  go_enter_d Tryz.func180, Tryz.ntmps180
  go_wp2
  go_region_calls
  all_goals (go_end0; exact ⟨rfl, rfl⟩)
set_option maxRecDepth 100000 in
set_option maxHeartbeats 1600000 in
/-- '(*sync.Mutex).Unlock', entered as a deferred call, the lock held and nobody waiting -/
theorem rp_unlock_deferred (a : Addr) (u : FrameMode) (w : World) (hc : w.cell? a = some (.int .i32 1)) (hz : w.frozen? a = false) :
    CallsD Tryz.prog 179 #[.pointer (some a)] u w fun e u' w' => u' = u ∧ (e = .returned (.tuple #[]) ∧ w' = w.setCell a (.int .i32 0)) := by
  have hd := rp_disable
  have he := rp_enable
  have hr := rp_releaseMerge
  have hadd := run_call_add (P := Tryz.prog) Tryz.func196 (by kernel_rfl) (by kernel_rfl) (by kernel_rfl) .i32 (by kernel_rfl) (y := -1) (s := 0) hc hz (by simp [go_sem]; rfl)
  have hcv := run_convert_to_unsafe (P := Tryz.prog) (src := 274) (dst := 204) Tryz.underlying274 Tryz.underlying204 (by kernel_rfl) hc
  go_enter_d Tryz.func179, Tryz.ntmps179
  go_wp2
  go_end0
  go_wp2
  go_end0
  exact ⟨rfl, rfl⟩
set_option maxRecDepth 100000 in
set_option maxHeartbeats 1600000 in
/-- '(*sync.Mutex).Lock', the lock free -/
theorem rp_lock_free (a : Addr) (w : World) (hc : w.cell? a = some (.int .i32 0)) (hz : w.frozen? a = false) :
    Calls Tryz.prog 178 #[.pointer (some a)] w fun e w' => e = .returned (.tuple #[]) ∧ w' = w.setCell a (.int .i32 1) := by
  have hd := rp_disable
  have he := rp_enable
  have ha := rp_acquire
  have hcas := run_call_cas_hit (P := Tryz.prog) Tryz.func191 (by kernel_rfl) (by kernel_rfl) (by kernel_rfl) .i32 (by kernel_rfl) (y := 1) hc hz
  have hc' : (w.setCell a (.int .i32 1)).cell? a = some (.int .i32 1) := World.cell?_setCell_same w a _ hc
  have hcv := run_convert_to_unsafe (P := Tryz.prog) (src := 274) (dst := 204) Tryz.underlying274 Tryz.underlying204 (by kernel_rfl) hc'
  go_enter Tryz.func178, Tryz.ntmps178
  go_wp2
  first | go_end0 | (simp only [Exit.inBlock, Exit.then]; refine bodyPost_ret (results_none rfl _ _ _) rfl ?_) | refine bodyPost_ret (results_none rfl _ _ _) rfl ?_
  go_wp2
  go_end0
  exact ⟨rfl, rfl⟩

set_option maxRecDepth 100000 in
theorem rp_load (a : Addr) (w : World) (hc : w.cell? a = some (.int .u32 0)) : Calls Tryz.prog 161 #[.pointer (some a)] w fun e w' => e = .returned (.bool false) ∧ w' = w := by
  have hl := run_call_load (P := Tryz.prog) Tryz.func177 (by kernel_rfl) (by kernel_rfl) (by kernel_rfl) .u32 (by kernel_rfl) hc
  go_enter Tryz.func161, Tryz.ntmps161
  go_wp2
  go_ret
  exact ⟨rfl, rfl⟩
set_option maxRecDepth 100000 in
set_option maxHeartbeats 1600000 in
/-- '(*sync.Once).doSlow', not yet done, the lock free: the function is called between the lock's two ends -/
theorem rp_slow (b : Nat) (fv : Nat) (args : Array Value) (Post : World → Prop) (w : World)
    (h0 : w.cell? ⟨b, 0, none⟩ = some (.int .u32 0)) (h1 : w.cell? ⟨b, 1, none⟩ = some (.int .i32 0)) (f1 : w.frozen? ⟨b, 1, none⟩ = false)
    (hcall : Calls Tryz.prog fv args (w.setCell ⟨b, 1, none⟩ (.int .i32 1)) fun e w' => e = .returned (.tuple #[]) ∧ Post w')
    (henter : ∀ w : World, (callFunc fv args).run Tryz.prog w = .ok (.enter fv args) w)
    (hP : ∀ w', Post w' → w'.cell? ⟨b, 0, none⟩ = some (.int .u32 0) ∧ w'.cell? ⟨b, 1, none⟩ = some (.int .i32 1) ∧ w'.frozen? ⟨b, 0, none⟩ = false ∧ w'.frozen? ⟨b, 1, none⟩ = false) :
    Calls Tryz.prog 162 #[.pointer (some ⟨b, 0, none⟩), .func (.func fv) args #[]] w fun e w' => e = .returned (.tuple #[]) ∧ ∃ w1, Post w1 ∧ w' = (w1.drew.setCell ⟨b, 0, none⟩ (.int .u32 1)).setCell ⟨b, 1, none⟩ (.int .i32 0) := by
  have hl0 : (w.setCell ⟨b, 1, none⟩ (.int .i32 1)).cell? ⟨b, 0, none⟩ = some (.int .u32 0) := (World.cell?_setCell_other _ ⟨b, 1, none⟩ ⟨b, 0, none⟩ _ (by simp)).trans h0
  have hnot : ∀ (x : Bool) (w : World), (Op.unary .not (.bool x)).run Tryz.prog w = .ok (.bool (!x)) w := fun _ _ => rfl
  have HC := Lib.hid hcall
  have HP := Lib.hid hP
  clear hcall hP
  go_enter_defers Tryz.func162, Tryz.ntmps162
  go_wp2_with (go_at_call 178; refine (rp_lock_free ⟨b, 1, none⟩ _ (by go_simp) (by go_simp)).mono ?_; rintro e w' ⟨rfl, rfl⟩)
  refine (rp_load ⟨b, 0, none⟩ _ hl0).mono ?_
  rintro e w2 ⟨rfl, rfl⟩
  go_wp2_with fail
  refine HC.out.mono ?_
  rintro e w3 ⟨rfl, hp3⟩
  obtain ⟨p0, p1, q0, q1⟩ := HP.out w3 hp3
  go_wp2_with fail
  refine leaves_cons (f := 180) (args := #[.pointer (some ⟨b, 0, none⟩), .bool true]) (by simp) (by simp [go_sem]) ?_
  refine (rp_store_deferred ⟨b, 0, none⟩ (.int .u32 0) .returning _ p0 q0).mono ?_
  rintro e u' w4 ⟨rfl, rfl, rfl⟩
  refine leaves_cons (f := 179) (args := #[.pointer (some ⟨b, 1, none⟩)]) (by simp [settle]) (by simp [go_sem]) ?_
  refine (rp_unlock_deferred ⟨b, 1, none⟩ _ _ ?_ (by simp [q1])).mono ?_
  · refine (World.cell?_setCell_other _ ⟨b, 0, none⟩ ⟨b, 1, none⟩ _ (by simp)).trans ?_
    rw [World.cell?_drew]
    exact p1
  rintro e u' w5 ⟨rfl, rfl, rfl⟩
  simp [Leaves, settle, results, Tryz.results162]
  exact ⟨w3, hp3, rfl⟩
set_option maxRecDepth 100000 in
set_option maxHeartbeats 1600000 in
/-- '(*sync.Once).Do', not yet done, the lock free -/
theorem rp_do (b : Nat) (fv : Nat) (args : Array Value) (Post : World → Prop) (w : World)
    (h0 : w.cell? ⟨b, 0, none⟩ = some (.int .u32 0)) (h1 : w.cell? ⟨b, 1, none⟩ = some (.int .i32 0)) (f1 : w.frozen? ⟨b, 1, none⟩ = false)
    (hcall : Calls Tryz.prog fv args (w.setCell ⟨b, 1, none⟩ (.int .i32 1)) fun e w' => e = .returned (.tuple #[]) ∧ Post w')
    (henter : ∀ w : World, (callFunc fv args).run Tryz.prog w = .ok (.enter fv args) w)
    (hP : ∀ w', Post w' → w'.cell? ⟨b, 0, none⟩ = some (.int .u32 0) ∧ w'.cell? ⟨b, 1, none⟩ = some (.int .i32 1) ∧ w'.frozen? ⟨b, 0, none⟩ = false ∧ w'.frozen? ⟨b, 1, none⟩ = false) :
    Calls Tryz.prog 132 #[.pointer (some ⟨b, 0, none⟩), .func (.func fv) args #[]] w fun e w' => e = .returned (.tuple #[]) ∧ ∃ w1, Post w1 ∧ w' = (w1.drew.setCell ⟨b, 0, none⟩ (.int .u32 1)).setCell ⟨b, 1, none⟩ (.int .i32 0) := by
  have hnot : ∀ (x : Bool) (w : World), (Op.unary .not (.bool x)).run Tryz.prog w = .ok (.bool (!x)) w := fun _ _ => rfl
  have HS := Lib.hid (rp_slow b fv args Post w h0 h1 f1 hcall henter hP)
  have HL := Lib.hid (rp_load ⟨b, 0, none⟩ w h0)
  clear hcall henter hP
  go_enter Tryz.func132, Tryz.ntmps132
  go_wp2_with fail
  refine HL.out.mono ?_
  rintro e w2 ⟨rfl, rfl⟩
  go_wp2_with fail
  refine HS.out.mono ?_
  rintro e w3 ⟨rfl, hw⟩
  have HW := Lib.hid hw
  clear hw
  go_wp2_with fail
  go_end0
  exact ⟨rfl, HW.out⟩
end Go.Proofs.YtnicbhmeigpjkaaGreatDoor
namespace Go.Proofs.YtnicbhmeigpjkaaGreatDoor
open Go.RowKit

def i64v (n : Int) : Value := .int .i64 n
def i64s (l : List Int) : List Value := l.map i64v
theorem i64s_len (l : List Int) : (i64s l).length = l.length := by simp [i64s]
theorem i64s_at {l : List Int} {k : Nat} (h : k < l.length) : (i64s l)[k]? = some (.int .i64 (at_ l k)) := by
  simp [i64s, get?_at h, i64v]

end Go.Proofs.YtnicbhmeigpjkaaGreatDoor
namespace Go.Proofs.YtnicbhmeigpjkaaGreatDoor
open Go.RowKit

def strC (s : ByteArray) : List Value := [.string s]
def strCs (l : List ByteArray) : List Value := l.flatMap strC
end Go.Proofs.YtnicbhmeigpjkaaGreatDoor
namespace Go.Proofs.YtnicbhmeigpjkaaGreatDoor
open Go.RowKit

theorem own_len {w : World} {base size n c : Nat} {e : TypeId} {A : Option Addr} {xs : List Value} (h : w.ownsRow base e size (.slice A n c) n xs) : n ≤ c ∧ c ≤ maxLen := by
  obtain ⟨A', c', e1, h2, h3, _, _⟩ := own_form h
  injection e1 with _ _ e3
  subst e3
  exact ⟨h2, h3⟩
theorem own_ne {w : World} {g b : Nat} {t : TypeId} {cs : Array Value} {base size n c : Nat} {e : TypeId} {xs : List Value} (h : Blk w g t cs) (ho : w.ownsRow base e size (.slice (some ⟨b, 0, none⟩) n c) n xs) (ht : t ≠ e) : b ≠ g := by
  intro hb
  subst hb
  rcases ho.2 with ⟨h', _⟩ | ⟨q, cap, cur, h', _, hg, _⟩
  · cases h'
  · injection h' with h' _
    injection h' with h'
    injection h' with h'
    subst h'
    unfold Blk at h
    rw [h] at hg
    injection hg with hg
    injection hg with _ hg
    exact ht hg
theorem own_some {w : World} {base e size n c : Nat} {A : Option Addr} {xs : List Value} (ho : w.ownsRow base e size (.slice A n c) n xs) (hn : 0 < n) : ∃ b, A = some ⟨b, 0, none⟩ ∧ base ≤ b ∧ b < w.heap.size ∧ n ≤ c := by
  rcases ho.2 with ⟨_, h'⟩ | ⟨q, cap, cur, h', hb, hg, hc, _⟩
  · omega
  · injection h' with h1 h2 h3
    subst h1
    exact ⟨q, rfl, hb, (Array.getElem?_eq_some_iff.1 hg).1, by omega⟩
theorem own_row_ne {w : World} {g : Nat} {t : TypeId} {cs : Array Value} {base size n : Nat} {v : Value} {e : TypeId} {xs : List Value} (h : Blk w g t cs) (ho : w.ownsRow base e size v n xs) (ht : t ≠ e) : some g ≠ v.ownBlock := by
  rcases ho.2 with ⟨rfl, _⟩ | ⟨q, cap, cur, rfl, hb, hg, h1, h2, h3, h4⟩
  · intro h'; cases h'
  · intro h'
    injection h' with h'
    exact own_ne (n := n) (c := cap) h ⟨ho.1, .inr ⟨q, cap, cur, rfl, hb, hg, h1, h2, h3, h4⟩⟩ ht h'.symm
theorem own_base {w : World} {base g : Nat} {t : TypeId} {cs : Array Value} (hg : base ≤ g) (h : Blk w g t cs) : base ≤ w.heap.size := Nat.le_trans hg (Nat.le_of_lt h.lt)
theorem own_set_other {w : World} {g : Nat} {base size n : Nat} {v : Value} {e : TypeId} {xs : List Value} (ho : w.ownsRow base e size v n xs) (hne : some g ≠ v.ownBlock) (i : Nat) (u : Value) : (w.setCell ⟨g, i, none⟩ u).ownsRow base e size v n xs := by
  refine ⟨ho.1, ?_⟩
  rcases ho.2 with h | ⟨q, cap, cur, rfl, hb, hg, h1, h2, h3, h4⟩
  · exact .inl h
  · exact .inr ⟨q, cap, cur, rfl, hb, (Below.heap_setCell w ⟨g, i, none⟩ u q (fun e => hne (by rw [e]; rfl))).trans hg, h1, h2, h3, h4⟩
theorem own_cell {w : World} {base size n c b : Nat} {e : TypeId} {xs : List Value} (h : w.ownsRow base e size (.slice (some ⟨b, 0, none⟩) n c) n xs) {k : Nat} {u : Value} (hu : xs[k]? = some u) : w.cell? ⟨b, k, none⟩ = some u := by
  obtain ⟨ad, e', _, hc⟩ := (Has.of_own h).at hu
  injection e' with e'
  subst e'
  have hadd : (⟨b, 0, none⟩ : Addr).add k = ⟨b, k, none⟩ := by unfold Addr.add; split <;> simp_all
  rwa [hadd] at hc
end Go.Proofs.YtnicbhmeigpjkaaGreatDoor
namespace Go.Proofs.YtnicbhmeigpjkaaGreatDoor
open Go.RowKit

/-- r parts the numbers below n: no before it, yes from it on -/
def Parts (g : Nat → Bool) (n r : Nat) : Prop := r ≤ n ∧ (∀ i, i < r → g i = false) ∧ ∀ i, r ≤ i → i < n → g i = true

set_option maxRecDepth 1000000 in
set_option maxHeartbeats 1000000 in
theorem search_any (F : FuncId) (hcf : ∀ (args : Array Value) (w : World), (callFunc F args).run Tryz.prog w = .ok (.enter F args) w) (pa pb : Value) (g : Nat → Bool) (n : Nat) (hn : n ≤ 140737488355328) (hmono : ∀ i j, i ≤ j → j < n → g i = true → g j = true) (w : World)
    (hF : ∀ i : Nat, i < n → ∀ m, Calls Tryz.prog F #[.int .i64 i, pa, pb] (w.drewN m) (R1 (.bool (g i)) (Drawn (w.drewN m)))) :
    Calls Tryz.prog 102 #[.int .i64 n, .func (.func F) #[] #[pa, pb]] w (RV fun v w' => (∃ r : Nat, v = .int .i64 r ∧ Parts g n r) ∧ Drawn w w') := by
  have HF := Lib.hid hF; clear hF
  have HM := Lib.hid hmono; clear hmono
  go_enter Tryz.func102, Tryz.ntmps102
  go_wp2
  go_loopw [5, 6] (fun a b wr => ∃ i j : Nat, i ≤ j ∧ j ≤ n ∧ a = .int .i64 (i : Nat) ∧ b = .int .i64 (j : Nat) ∧ Hid ((∀ q, q < i → g q = false) ∧ ∀ q, j ≤ q → q < n → g q = true) ∧ Drawn w wr) (fun a b _ => (intOf b).toNat - (intOf a).toNat)
  case atStart => exact ⟨0, n, by omega, by omega, rfl, rfl, Lib.hid ⟨fun q hq => by omega, fun q h1 h2 => by omega⟩, Drawn.refl _⟩
  case round =>
    obtain ⟨i, j, hij, hjn, rfl, rfl, hq, m, rfl⟩ := hrel
    by_cases hlt : (i : Int) < (j : Int)
    · obtain ⟨h, hh⟩ : ∃ h, (i + j) / 2 = h := ⟨_, rfl⟩
      have h1 : i ≤ h := by omega
      have h2 : h < j := by omega
      have e1 : Hid (((i : Int) + (j : Int)) / 2 = (h : Int)) := Lib.hid (by omega)
      clear hh
      cases hg : g h
      · have Hg := Lib.hid hg; clear hg
        go_wp2_with fail
        rw [e1.out]
        go_wp2_with fail
        refine (HF.out h (by omega) _).mono ?_
        rintro e w1 ⟨rfl, n1, rfl⟩
        rw [Hg.out]
        go_wp2_with fail
        go_roundw
        case rel =>
          refine ⟨h + 1, j, by omega, hjn, by go_num, rfl, Lib.hid ⟨fun q hq2 => ?_, hq.out.2⟩, _, rfl⟩
          cases hgq : g q
          · rfl
          · have := HM.out q h (by omega) (by omega) hgq
            rw [Hg.out] at this
            cases this
        case measure => simp [intOf]; omega
      · have Hg := Lib.hid hg; clear hg
        go_wp2_with fail
        rw [e1.out]
        go_wp2_with fail
        refine (HF.out h (by omega) _).mono ?_
        rintro e w1 ⟨rfl, n1, rfl⟩
        rw [Hg.out]
        go_wp2_with fail
        go_roundw
        case rel => exact ⟨i, h, h1, by omega, rfl, rfl, Lib.hid ⟨hq.out.1, fun q h3 h4 => HM.out h q h3 h4 Hg.out⟩, _, rfl⟩
        case measure => simp [intOf]; omega
    · go_wp2
      go_ret
      exact RV.mk ⟨⟨i, rfl, by omega, hq.out.1, fun q h1 h2 => hq.out.2 q (by omega) h2⟩, _, rfl⟩
end Go.Proofs.YtnicbhmeigpjkaaGreatDoor
namespace Go.Proofs.YtnicbhmeigpjkaaGreatDoor
open Go.RowKit

/-- the front of an own row is one -/
theorem own_front {w : World} {base size n c g k : Nat} {e : TypeId} {xs : List Value} (h : w.ownsRow base e size (.slice (some ⟨g, 0, none⟩) n c) n xs) (hk : k ≤ n) : w.ownsRow base e size (.slice (some ⟨g, 0, none⟩) k c) k (xs.take (k * size)) := by
  obtain ⟨h0, h⟩ := h
  rcases h with ⟨h, _⟩ | ⟨g', cap, cur, ev, hb, hg, h1, h2, h3, h4⟩
  · cases h
  · injection ev with e1 _ e3
    injection e1 with e1
    injection e1 with e1 _ _
    subst e1 e3
    have hks : k * size ≤ n * size := Nat.mul_le_mul_right _ hk
    refine ⟨by rw [List.length_take]; omega, .inr ⟨g, c, cur, rfl, hb, hg, by omega, h2, h3, ?_⟩⟩
    rw [← h4, List.take_take, Nat.min_eq_left hks]
/-- a cell behind the row's end -/
theorem own_behind {w : World} {base size n c g k : Nat} {e : TypeId} {xs : List Value} (h : w.ownsRow base e size (.slice (some ⟨g, 0, none⟩) n c) n xs) (hk : n * size ≤ k) (u : Value) : (w.setCell ⟨g, k, none⟩ u).ownsRow base e size (.slice (some ⟨g, 0, none⟩) n c) n xs := by
  obtain ⟨h0, h⟩ := h
  rcases h with ⟨h, _⟩ | ⟨g', cap, cur, ev, hb, hg, h1, h2, h3, h4⟩
  · cases h
  · injection ev with e1 _ e3
    injection e1 with e1
    injection e1 with e1 _ _
    subst e1 e3
    refine ⟨h0, .inr ⟨g, c, cur.setIfInBounds k u, rfl, hb, ?_, h1, h2, by simpa using h3, ?_⟩⟩
    · have hb2 : Blk w g e cur := hg
      exact hb2.set k u
    · rw [Array.toList_setIfInBounds, List.take_set_of_le (by omega)]
      exact h4
/-- the cells behind the row's end are there, and not frozen -/
theorem own_room {w : World} {base size n c g k : Nat} {e : TypeId} {xs : List Value} (h : w.ownsRow base e size (.slice (some ⟨g, 0, none⟩) n c) n xs) (hk : k < c * size) : (∃ u, w.cell? ⟨g, k, none⟩ = some u) ∧ w.frozen? ⟨g, k, none⟩ = false := by
  obtain ⟨_, h⟩ := h
  rcases h with ⟨h, _⟩ | ⟨g', cap, cur, ev, hb, hg, h1, h2, h3, h4⟩
  · cases h
  · injection ev with e1 _ e3
    injection e1 with e1
    injection e1 with e1 _ _
    subst e1 e3
    have hb2 : Blk w g e cur := hg
    exact ⟨⟨cur[k]'(by omega), by rw [hb2.cell k]; simp⟩, hb2.frozen k⟩
/-- cells behind the row's end, many -/
theorem own_behinds {base size n c g : Nat} {e : TypeId} {xs : List Value} : ∀ (vs : List Value) (o : Nat) (w : World), w.ownsRow base e size (.slice (some ⟨g, 0, none⟩) n c) n xs → n * size ≤ o → (w.setCells g o vs).ownsRow base e size (.slice (some ⟨g, 0, none⟩) n c) n xs
  | [], _, _, h, _ => h
  | v :: r, o, _, h, ho => own_behinds r (o + 1) _ (own_behind h ho v) (by omega)
theorem below_setCells {B : Nat} {a : World} {g : Nat} (hg : B ≤ g) : ∀ (vs : List Value) (o : Nat) (w : World), Below B a w → Below B a (w.setCells g o vs)
  | [], _, _, h => h
  | v :: r, o, _, h => below_setCells hg r (o + 1) _ (h.setCell hg v)
theorem only_setCells {g : Nat} {a : World} : ∀ (vs : List Value) (o : Nat) (w : World), Only g a w → Only g a (w.setCells g o vs)
  | [], _, _, h => h
  | v :: r, o, _, h => only_setCells r (o + 1) _ (h.set o v)
end Go.Proofs.YtnicbhmeigpjkaaGreatDoor
