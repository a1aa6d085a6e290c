/- Texts of the proof of HouseAcks, joined (by merge.py). Conditions: each theorem's own hypotheses. -/
import Derived.Test.YtihjgbhnlejhfaaGreatDoorHouseAcksP5
import Derived.Test.YtihjgbhnlejhfaaGreatDoorHouseAcksP9
import Derived.Test.YtihjgbhnlejhfaaGreatDoorHouseAcksP32
import Derived.StringKeys
import Derived.Lib.SliceRun
namespace Go.Proofs.YtihjgbhnlejhfaaGreatDoor
open Go.RowKit Go.ChangeMaps
open Go.WideMaps (KeyLaw)

theorem strKey : KeyLaw Tryz.prog 9 := Go.WideMaps.string_law Tryz.underlying9
theorem str_keyed (s : ByteArray) (hs : s.size ≤ maxLen) : keyOf Tryz.prog 9 (.string s) = some (.string s.data.toList) := by
  have hu := Tryz.underlying9
  unfold keyOf
  simp only [hu]
  unfold mapKey
  simp only [hu]
  rw [if_pos hs]
theorem own_keepS {w w' : World} {base size n : Nat} {e : TypeId} {v : Value} {xs : List Value} (h : w.ownsRow base e size v n xs) (hk : ∀ q, v.ownBlock = some q → w'.heap[q]? = w.heap[q]?) : w'.ownsRow base e size v n xs := by
  refine ⟨h.1, ?_⟩
  rcases h.2 with hn | ⟨g, cap, cur, rfl, hb, hg, h1, h2, h3, h4⟩
  · exact .inl hn
  · exact .inr ⟨g, cap, cur, rfl, hb, (hk g rfl).trans hg, h1, h2, h3, h4⟩
theorem own_kindS {w : World} {base size n : Nat} {e : TypeId} {v : Value} {xs : List Value} (h : w.ownsRow base e size v n xs) : ∀ q, v.ownBlock = some q → ∃ cs, w.heap[q]? = some (.cells cs e (0, 0)) := by
  intro q hq
  rcases h.2 with ⟨rfl, _⟩ | ⟨g, cap, cur, rfl, hb, hg, _⟩
  · cases hq
  · cases hq; exact ⟨cur, hg⟩
/-- a series' two rows -/
def SerOwn (w : World) (base : Nat) (v : Value) (y : Ser) : Prop :=
  ∃ A n c A' n' c', v = .agg #[.slice A n c, .slice A' n' c'] ∧ y.1.length = n ∧ y.2.length = n' ∧ w.ownsRow base 85 2 (.slice A n c) n (labCs y.1) ∧ w.ownsRow base 26 2 (.slice A' n' c') n' (smpCs y.2)
/-- kinds of blocks that a store writes -/
def StKind (t : TypeId) : Prop := t = 134 ∨ t = 175 ∨ t = 5
/-- what a store's methods leave alone: what lay before the store, and blocks of other kinds -/
structure OutB (base : Nat) (w w' : World) : Prop where
  os : w'.os = w.os
  tape : w'.tape = w.tape
  output : w'.output = w.output
  size : w.heap.size ≤ w'.heap.size
  low : ∀ k, k < base → w'.heap[k]? = w.heap[k]?
  kinds : ∀ (k : Nat) (cs : Array Value) (t : TypeId) (fr : Nat × Nat), w.heap[k]? = some (Obj.cells cs t fr) → ¬ StKind t → w'.heap[k]? = w.heap[k]?
theorem OutB.refl (base : Nat) (w : World) : OutB base w w := ⟨rfl, rfl, rfl, Nat.le_refl _, fun _ _ => rfl, fun _ _ _ _ _ _ => rfl⟩
theorem OutB.trans {base : Nat} {a b c : World} (h : OutB base a b) (k : OutB base b c) : OutB base a c :=
  ⟨k.os.trans h.os, k.tape.trans h.tape, k.output.trans h.output, Nat.le_trans h.size k.size, fun q hq => (k.low q hq).trans (h.low q hq), fun q cs t fr hq ht => (k.kinds q cs t fr ((h.kinds q cs t fr hq ht).trans hq) ht).trans (h.kinds q cs t fr hq ht)⟩
theorem OutB.of {base : Nat} {w w' : World} (h : Below w.heap.size w w') (hb : base ≤ w.heap.size) : OutB base w w' :=
  ⟨h.os, h.tape, h.output, h.size, fun k hk => h.block k (Nat.lt_of_lt_of_le hk hb), fun k _ _ _ hk _ => h.block k (Array.getElem?_eq_some_iff.1 hk).1⟩
theorem OutB.below {base : Nat} {w w' : World} (h : OutB base w w') : Below base w w' := ⟨h.os, h.tape, h.output, h.size, fun k hk => h.low k hk⟩
theorem OutB.blk {base : Nat} {w w' : World} {g : Nat} {t : TypeId} {cs : Array Value} (h : OutB base w w') (hk : Blk w g t cs) (ht : ¬ StKind t) : Blk w' g t cs := (h.kinds g cs t _ hk ht).trans hk
theorem OutB.own {base b2 size n : Nat} {w w' : World} {e : TypeId} {v : Value} {xs : List Value} (h : OutB base w w') (ho : w.ownsRow b2 e size v n xs) (ht : ¬ StKind e) : w'.ownsRow b2 e size v n xs :=
  own_keepS ho fun q hq => by
    obtain ⟨cs, hc⟩ := own_kindS ho q hq
    exact h.kinds q cs e _ hc ht
/-- the blocks that a store is made of: its object, its map, its disk, the disk's bytes -/
def footS (w : World) (g : Nat) : List Nat :=
  g :: ((match w.cell? ⟨g, 0, none⟩ with | some (.map (some b)) => [b] | _ => []) ++ (match w.cell? ⟨g, 1, none⟩ with
    | some (.pointer (some a)) => a.block :: (match w.cell? ⟨a.block, 0, none⟩ with | some (.slice (some r) _ _) => [r.block] | _ => [])
    | _ => []))
/-- what the methods of the store at g leave alone: all but that store's own blocks -/
structure OutS (base g : Nat) (w w' : World) : Prop extends OutB base w w' where
  block : ∀ k, k < w.heap.size → k ∉ footS w g → w'.heap[k]? = w.heap[k]?
  grow : ∀ k, k ∈ footS w' g → k ∈ footS w g ∨ w.heap.size ≤ k
theorem OutS.refl (base g : Nat) (w : World) : OutS base g w w := ⟨OutB.refl base w, fun _ _ _ => rfl, fun _ h => .inl h⟩
theorem OutS.trans {base g : Nat} {a b c : World} (h : OutS base g a b) (k : OutS base g b c) : OutS base g a c :=
  ⟨h.toOutB.trans k.toOutB, fun q hq hn => (k.block q (Nat.lt_of_lt_of_le hq h.size) fun hm => by
    rcases h.grow q hm with e | e
    · exact hn e
    · omega).trans (h.block q hq hn), fun q hq => by
    rcases k.grow q hq with e | e
    · exact h.grow q e
    · exact .inr (Nat.le_trans h.size e)⟩
theorem SerOwn.keep {w w' : World} {base : Nat} {v : Value} {y : Ser} (h : SerOwn w base v y) (hk : ∀ (e : TypeId) (size n : Nat) (u : Value) (xs : List Value), ¬ StKind e → w.ownsRow base e size u n xs → w'.ownsRow base e size u n xs) : SerOwn w' base v y := by
  obtain ⟨A, n, c, A', n', c', h1, h2, h3, h4, h5⟩ := h
  exact ⟨A, n, c, A', n', c', h1, h2, h3, hk _ _ _ _ _ (by unfold StKind; decide) h4, hk _ _ _ _ _ (by unfold StKind; decide) h5⟩
theorem SerOwn.next {w w' : World} {base : Nat} {v : Value} {y : Ser} (h : SerOwn w base v y) (hb : Below w.heap.size w w') : SerOwn w' base v y := h.keep fun _ _ _ _ _ _ h => own_next h hb
theorem SerOwn.out {w w' : World} {b2 base : Nat} {v : Value} {y : Ser} (h : SerOwn w base v y) (hb : OutB b2 w w') : SerOwn w' base v y := h.keep fun _ _ _ _ _ ht h => hb.own h ht
theorem SerOwn.less {w : World} {base b2 : Nat} {v : Value} {y : Ser} (h : SerOwn w base v y) (hb : b2 ≤ base) : SerOwn w b2 v y := by
  obtain ⟨A, n, c, A', n', c', h1, h2, h3, h4, h5⟩ := h
  exact ⟨A, n, c, A', n', c', h1, h2, h3, own_less h4 hb, own_less h5 hb⟩
/-- the map's entries -/
inductive StRows (w : World) (base : Nat) : List (Value × Value) → StD → Prop
  | nil : StRows w base [] []
  | cons {k : ByteArray} {v : Value} {y : Ser} {kvs : List (Value × Value)} {st : StD} : SerOwn w base v y → StRows w base kvs st → StRows w base ((.string k, v) :: kvs) ((k, y) :: st)
theorem StRows.keep {w w' : World} {base : Nat} {kvs : List (Value × Value)} {st : StD} (h : StRows w base kvs st) (hk : ∀ v y, SerOwn w base v y → SerOwn w' base v y) : StRows w' base kvs st := by
  induction h with
  | nil => exact .nil
  | cons h1 _ ih => exact .cons (hk _ _ h1) ih
theorem StRows.len {w : World} {base : Nat} {kvs : List (Value × Value)} {st : StD} (h : StRows w base kvs st) : kvs.length = st.length := by
  induction h with
  | nil => rfl
  | cons _ _ ih => simp [ih]
theorem StRows.keys {w : World} {base : Nat} {kvs : List (Value × Value)} {st : StD} (h : StRows w base kvs st) : kvs.map (·.1) = st.map (fun p => Value.string p.1) := by
  induction h with
  | nil => rfl
  | cons _ _ ih => simp [ih]
theorem StRows.none {w : World} {base : Nat} {kvs : List (Value × Value)} {st : StD} (h : StRows w base kvs st) {k : ByteArray} (hn : ∀ p ∈ kvs, p.1 ≠ .string k) : ∀ p ∈ st, p.1 ≠ k := by
  intro p hp e
  have h1 : Value.string p.1 ∈ st.map (fun p => Value.string p.1) := List.mem_map.2 ⟨p, hp, rfl⟩
  rw [← h.keys] at h1
  obtain ⟨q, hq, e2⟩ := List.mem_map.1 h1
  exact hn q hq (by rw [e2, e])
theorem StRows.mem {w : World} {base : Nat} {kvs : List (Value × Value)} {st : StD} (h : StRows w base kvs st) {k : ByteArray} {v : Value} (hm : (.string k, v) ∈ kvs) : ∃ y, (k, y) ∈ st ∧ SerOwn w base v y := by
  induction h with
  | nil => cases hm
  | cons h1 _ ih =>
    rcases List.mem_cons.1 hm with e | e
    · injection e with e1 e2
      injection e1 with e1
      subst e1 e2
      exact ⟨_, List.mem_cons_self, h1⟩
    · obtain ⟨y, hy, hs⟩ := ih e
      exact ⟨y, List.mem_cons_of_mem _ hy, hs⟩
theorem StRows.split {w : World} {base : Nat} {st : StD} : ∀ {pre post : List (Value × Value)} {k : ByteArray} {v : Value}, StRows w base (pre ++ (.string k, v) :: post) st → ∃ sp y sq, st = sp ++ (k, y) :: sq ∧ StRows w base pre sp ∧ StRows w base post sq
  | [], post, k, v, h => by
    cases h with
    | cons h1 h2 => exact ⟨[], _, _, rfl, .nil, h2⟩
  | p :: pre, post, k, v, h => by
    cases h with
    | cons h1 h2 =>
      obtain ⟨sp, y, sq, rfl, h3, h4⟩ := StRows.split h2
      exact ⟨_ :: sp, y, sq, rfl, .cons h1 h3, h4⟩
theorem StRows.app {w : World} {base : Nat} {a b : List (Value × Value)} {s t : StD} (h : StRows w base a s) (k : StRows w base b t) : StRows w base (a ++ b) (s ++ t) := by
  induction h with
  | nil => exact k
  | cons h1 _ ih => exact .cons h1 ih
theorem StRows.put {w : World} {base : Nat} {kvs kvs' : List (Value × Value)} {st : StD} (h : StRows w base kvs st) (hn : (kvs.map (·.1)).Nodup) {k : ByteArray} {v : Value} {y : Ser} (hs : SerOwn w base v y) (hp : PutV kvs (.string k) v kvs') : StRows w base kvs' (putSt st k y) := by
  rcases hp with ⟨pre, v0, post, rfl, rfl⟩ | ⟨h1, rfl⟩
  · obtain ⟨sp, y0, sq, rfl, h3, h4⟩ := StRows.split h
    have hq : ∀ p ∈ sp, p.1 ≠ k := h3.none fun p hp e => by
      rw [List.map_append, List.map_cons] at hn
      obtain ⟨_, _, h5⟩ := List.nodup_append.1 hn
      exact h5 p.1 (List.mem_map_of_mem hp) _ List.mem_cons_self e
    rw [put_some hq]
    exact h3.app (.cons hs h4)
  · rw [put_none (h.none h1)]
    exact h.app (.cons hs .nil)
/-- a store: its object, its map, its disk -/
structure StAt (w : World) (base g b dg : Nat) (A : Option Addr) (c : Nat) (es : Array MapEntry) (clock : Nat) (kvs : List (Value × Value)) (dk : List Nat) (sf : Int) (st : StD) : Prop where
  obj : Blk w g 134 #[.map (some b), .pointer (some ⟨dg, 0, none⟩)]
  mp : w.heap[b]? = some (.map es clock)
  shape : MpS Tryz.prog 9 es clock kvs
  rows : StRows w base kvs st
  disk : DiskAt w base dg A c dk sf
  og : base ≤ g
  ob : base ≤ b
  od : base ≤ dg
theorem StAt.next {w w' : World} {base g b dg : Nat} {A : Option Addr} {c : Nat} {es : Array MapEntry} {clock : Nat} {kvs : List (Value × Value)} {dk : List Nat} {sf : Int} {st : StD} (h : StAt w base g b dg A c es clock kvs dk sf st) (hb : Below w.heap.size w w') : StAt w' base g b dg A c es clock kvs dk sf st where
  obj := h.obj.next hb
  mp := (hb.block b (Array.getElem?_eq_some_iff.1 h.mp).1).trans h.mp
  shape := h.shape
  rows := h.rows.keep fun _ _ k => k.next hb
  disk := ⟨h.disk.1.next hb, own_next h.disk.2 hb⟩
  og := h.og
  ob := h.ob
  od := h.od
theorem StAt.foot {w : World} {base g b dg : Nat} {A : Option Addr} {c : Nat} {es : Array MapEntry} {clock : Nat} {kvs : List (Value × Value)} {dk : List Nat} {sf : Int} {st : StD} (h : StAt w base g b dg A c es clock kvs dk sf st) : footS w g = g :: b :: dg :: (A.map Addr.block).toList := by
  have h0 : w.cell? ⟨g, 0, none⟩ = some (.map (some b)) := h.obj.cell 0
  have h1 : w.cell? ⟨g, 1, none⟩ = some (.pointer (some ⟨dg, 0, none⟩)) := h.obj.cell 1
  have h2 : w.cell? ⟨dg, 0, none⟩ = some (.slice A dk.length c) := h.disk.1.cell 0
  unfold footS
  rw [h0, h1]
  simp only []
  rw [h2]
  cases A <;> rfl
theorem OutS.of {w w' : World} {base g b dg : Nat} {A : Option Addr} {c : Nat} {es : Array MapEntry} {clock : Nat} {kvs : List (Value × Value)} {dk : List Nat} {sf : Int} {st : StD} (h : Below w.heap.size w w') (hb : base ≤ w.heap.size) (hS : StAt w base g b dg A c es clock kvs dk sf st) : OutS base g w w' :=
  ⟨OutB.of h hb, fun k hk _ => h.block k hk, fun k hk => by
    rw [(hS.next h).foot, ← hS.foot] at hk
    exact .inl hk⟩
theorem StAt.size {w : World} {base g b dg : Nat} {A : Option Addr} {c : Nat} {es : Array MapEntry} {clock : Nat} {kvs : List (Value × Value)} {dk : List Nat} {sf : Int} {st : StD} (h : StAt w base g b dg A c es clock kvs dk sf st) : es.size = st.length := by
  rw [← h.rows.len, ← h.shape.pairs, List.length_map, Array.length_toList]
theorem StAt.nodup {w : World} {base g b dg : Nat} {A : Option Addr} {c : Nat} {es : Array MapEntry} {clock : Nat} {kvs : List (Value × Value)} {dk : List Nat} {sf : Int} {st : StD} (h : StAt w base g b dg A c es clock kvs dk sf st) : (kvs.map (·.1)).Nodup := by
  rw [← h.shape.pairs, List.map_map]
  exact h.shape.stamped.2.2
theorem StAt.keysNodup {w : World} {base g b dg : Nat} {A : Option Addr} {c : Nat} {es : Array MapEntry} {clock : Nat} {kvs : List (Value × Value)} {dk : List Nat} {sf : Int} {st : StD} (h : StAt w base g b dg A c es clock kvs dk sf st) : (st.map (·.1)).Nodup := by
  have h1 := h.nodup
  rw [h.rows.keys] at h1
  have h2 : (st.map (fun p => Value.string p.1)) = (st.map (·.1)).map Value.string := by rw [List.map_map]; rfl
  rw [h2] at h1
  exact (List.pairwise_map.1 h1).imp fun h e => h (by rw [e])
def StM (w : World) (base g : Nat) (dk : List Nat) (sf : Int) (st : StD) : Prop := ∃ b dg A c es clock kvs, StAt w base g b dg A c es clock kvs dk sf st
theorem StM.next {w w' : World} {base g : Nat} {dk : List Nat} {sf : Int} {st : StD} (h : StM w base g dk sf st) (hb : Below w.heap.size w w') : StM w' base g dk sf st := by
  obtain ⟨b, dg, A, c, es, clock, kvs, h⟩ := h
  exact ⟨b, dg, A, c, es, clock, kvs, h.next hb⟩
theorem OutS.ofM {w w' : World} {base g : Nat} {dk : List Nat} {sf : Int} {st : StD} (h : Below w.heap.size w w') (hb : base ≤ w.heap.size) (hS : StM w base g dk sf st) : OutS base g w w' := by
  obtain ⟨_, _, _, _, _, _, _, hS⟩ := hS
  exact OutS.of h hb hS
theorem StM.nodup {w : World} {base g : Nat} {dk : List Nat} {sf : Int} {st : StD} (h : StM w base g dk sf st) : (st.map (·.1)).Nodup := by
  obtain ⟨b, dg, A, c, es, clock, kvs, h⟩ := h
  exact h.keysNodup
end Go.Proofs.YtihjgbhnlejhfaaGreatDoor
namespace Go.Proofs.YtihjgbhnlejhfaaGreatDoor
open Go.RowKit

theorem elCLab : Elem Tryz.prog 24 85 2 32 := Elem.mk' (z := .agg #[.string ⟨#[]⟩, .string ⟨#[]⟩]) Tryz.underlying24 (by kernel_rfl) rfl (by decide)
set_option maxRecDepth 1000000 in
set_option maxHeartbeats 1000000 in
theorem cloneCLab_any (A : Option Addr) (n c : Nat) (xs : List Value) (hl : xs.length = n * 2) (h1 : ∀ u ∈ xs, u.oneCell' = true) (hA : A = none → n = 0 ∧ c = 0) (hmax : n * 32 ≤ 140737488355328) (w : World) (h : Has w w.heap.size A xs) :
    Calls Tryz.prog 81 #[.slice A n c] w (RV fun v w' => ∃ A' c', v = .slice A' n c' ∧ w'.ownsRow w.heap.size 85 2 (.slice A' n c') n xs ∧ Below w.heap.size w w') := by
  have hq := fun (w : World) (a : Option Addr) (n c n' c' : Nat) => Lib.run_eql_slice_nil (P := Tryz.prog) w 24 85 a n c n' c' Tryz.underlying24
  cases A with
  | none =>
    obtain ⟨rfl, rfl⟩ := hA rfl
    go_enter Tryz.func81, Tryz.ntmps81
    go_wp2
    go_ret
    exact RV.mk ⟨none, 0, rfl, ⟨hl, .inl ⟨rfl, rfl⟩⟩, Below.refl _ _⟩
  | some ad =>
    go_enter Tryz.func81, Tryz.ntmps81
    go_wp2_with (at_builtin; refine wpList_spread rfl _ _ _ rfl elCLab rfl (World.ownsRow_made (base := w.heap.size) w #[] 0 (Nat.le_refl _) (Nat.zero_le _) rfl) rfl ((h.keep fun p hp => World.cell?_alloc_lt w _ p hp)) ?_ ?c1 ?c2 ?c3 ?c4 ?c5; intro A' c' w1 hown hgrow hbel)
    case c1 => exact hl
    case c2 => exact h1
    case c3 => omega
    case c4 => unfold maxLen; omega
    case c5 => simp
    go_ret
    rw [Nat.zero_add, List.nil_append] at hown
    exact RV.mk ⟨A', c', rfl, hown, ((Below.refl _ _).alloc (Nat.le_refl _) _).trans hbel⟩
theorem elCSmp : Elem Tryz.prog 43 26 2 16 := Elem.mk' (z := .agg #[.int .i64 0, .int .i64 0]) Tryz.underlying43 (by kernel_rfl) rfl (by decide)
set_option maxRecDepth 1000000 in
set_option maxHeartbeats 1000000 in
theorem cloneCSmp_any (A : Option Addr) (n c : Nat) (xs : List Value) (hl : xs.length = n * 2) (h1 : ∀ u ∈ xs, u.oneCell' = true) (hA : A = none → n = 0 ∧ c = 0) (hmax : n * 16 ≤ 140737488355328) (w : World) (h : Has w w.heap.size A xs) :
    Calls Tryz.prog 82 #[.slice A n c] w (RV fun v w' => ∃ A' c', v = .slice A' n c' ∧ w'.ownsRow w.heap.size 26 2 (.slice A' n c') n xs ∧ Below w.heap.size w w') := by
  have hq := fun (w : World) (a : Option Addr) (n c n' c' : Nat) => Lib.run_eql_slice_nil (P := Tryz.prog) w 43 26 a n c n' c' Tryz.underlying43
  cases A with
  | none =>
    obtain ⟨rfl, rfl⟩ := hA rfl
    go_enter Tryz.func82, Tryz.ntmps82
    go_wp2
    go_ret
    exact RV.mk ⟨none, 0, rfl, ⟨hl, .inl ⟨rfl, rfl⟩⟩, Below.refl _ _⟩
  | some ad =>
    go_enter Tryz.func82, Tryz.ntmps82
    go_wp2_with (at_builtin; refine wpList_spread rfl _ _ _ rfl elCSmp rfl (World.ownsRow_made (base := w.heap.size) w #[] 0 (Nat.le_refl _) (Nat.zero_le _) rfl) rfl ((h.keep fun p hp => World.cell?_alloc_lt w _ p hp)) ?_ ?c1 ?c2 ?c3 ?c4 ?c5; intro A' c' w1 hown hgrow hbel)
    case c1 => exact hl
    case c2 => exact h1
    case c3 => omega
    case c4 => unfold maxLen; omega
    case c5 => simp
    go_ret
    rw [Nat.zero_add, List.nil_append] at hown
    exact RV.mk ⟨A', c', rfl, hown, ((Below.refl _ _).alloc (Nat.le_refl _) _).trans hbel⟩
theorem labCs_oneC (l : List Lab) : ∀ u ∈ labCs l, u.oneCell' = true := by
  intro u hu
  unfold labCs at hu
  obtain ⟨x, _, h⟩ := List.mem_flatMap.1 hu
  simp [labC] at h
  rcases h with rfl | rfl <;> rfl
theorem smpCs_oneC (l : List Smp) : ∀ u ∈ smpCs l, u.oneCell' = true := by
  intro u hu
  unfold smpCs at hu
  obtain ⟨x, _, h⟩ := List.mem_flatMap.1 hu
  simp [smpC] at h
  rcases h with rfl | rfl <;> rfl
end Go.Proofs.YtihjgbhnlejhfaaGreatDoor
namespace Go.Proofs.YtihjgbhnlejhfaaGreatDoor
open Go.RowKit

theorem lnew_any (w : World) : Calls Tryz.prog 86 #[] w (R1 (.pointer (some ⟨w.heap.size, 0, none⟩)) (fun w' => w' = w.alloc (.cells #[.slice none 0 0, .int .i64 0] 175))) := by
  go_enter Tryz.func86, Tryz.ntmps86
  go_wp2_with fail
  go_ret
  exact R1.mk rfl rfl
def StNewP (w : World) (v : Value) (w' : World) : Prop := ∃ g, v = .pointer (some ⟨g, 0, none⟩) ∧ StM w' w.heap.size g [] 0 [] ∧ Below w.heap.size w w'
theorem snew_any (w : World) : Calls Tryz.prog 62 #[] w (RV (StNewP w)) := by
  have hmk : ∀ w : World, (Instr.makeMap 96 none).run Tryz.prog w = .ok (.map (some w.heap.size)) (w.alloc (.map #[] 0)) := fun _ => by kernel_rfl
  have hF := Lib.hid (fun (w : World) => show StM (((w.alloc (.map #[] 0)).alloc (.cells #[.slice none 0 0, .int .i64 0] 175)).alloc (.cells #[.map (some w.heap.size), .pointer (some ⟨w.heap.size + 1, 0, none⟩)] 134)) w.heap.size (w.heap.size + 2) [] 0 [] from
    ⟨w.heap.size, w.heap.size + 1, none, 0, #[], 0, [], {
      obj := Blk.newD _ _ _ _ (by simp)
      mp := ((Below.heap_alloc _ _ _ (by simp; omega)).trans (Below.heap_alloc _ _ _ (by simp))).trans (heap_alloc_new w _)
      shape := MpS.empty _ _ _
      rows := .nil
      disk := ⟨(Blk.newD _ _ _ _ (by simp)).alloc _, World.ownsRow_nil _ _ _ _⟩
      og := by omega
      ob := Nat.le_refl _
      od := by omega }⟩)
  have hB := Lib.hid (show Below w.heap.size w (((w.alloc (.map #[] 0)).alloc (.cells #[.slice none 0 0, .int .i64 0] 175)).alloc (.cells #[.map (some w.heap.size), .pointer (some ⟨w.heap.size + 1, 0, none⟩)] 134)) from
    (((Below.refl _ _).alloc (Nat.le_refl _) _).alloc (by simp) _).alloc (by simp; omega) _)
  go_enter Tryz.func62, Tryz.ntmps62
  go_wp2_with fail
  refine (lnew_any _).mono ?_
  rintro e w1 ⟨rfl, rfl⟩
  go_wp2_with fail
  go_ret
  exact RV.mk ⟨_, rfl, hF.out w, hB.out⟩
end Go.Proofs.YtihjgbhnlejhfaaGreatDoor
