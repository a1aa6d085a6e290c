/- Texts of the proof of StoreKeeps, joined (by merge.py). Conditions: each theorem's own hypotheses. -/
import Derived.Test.YtdnlnkbnfiamiaaGreatDoorStoreKeepsP4
import Derived.Test.YtdnlnkbnfiamiaaGreatDoorStoreKeepsP8
import Derived.Test.YtdnlnkbnfiamiaaGreatDoorStoreKeepsP14
import Derived.Test.YtdnlnkbnfiamiaaGreatDoorStoreKeepsP22
import Derived.StringKeys
import Derived.Lib.SliceRun
import Derived.Deep.RegionHeldLaw
import Derived.Lib.AppendZeros
import Derived.OwnWalk
namespace Go.Proofs.YtdnlnkbnfiamiaaGreatDoor
open Go.RowKit Go.ChangeMaps
open Go.WideMaps (KeyLaw)

theorem strKey : KeyLaw Tryz.prog 9 := Go.WideMaps.string_law Tryz.underlying9
theorem str_keyed (s : ByteArray) (hs : s.size ≤ maxLen) : keyOf Tryz.prog 9 (.string s) = some (.string s.data.toList) := by
  have hu := Tryz.underlying9
  unfold keyOf
  simp only [hu]
  unfold mapKey
  simp only [hu]
  rw [if_pos hs]
theorem own_keepS {w w' : World} {base size n : Nat} {e : TypeId} {v : Value} {xs : List Value} (h : w.ownsRow base e size v n xs) (hk : ∀ q, v.ownBlock = some q → w'.heap[q]? = w.heap[q]?) : w'.ownsRow base e size v n xs := by
  refine ⟨h.1, ?_⟩
  rcases h.2 with hn | ⟨g, cap, cur, rfl, hb, hg, h1, h2, h3, h4⟩
  · exact .inl hn
  · exact .inr ⟨g, cap, cur, rfl, hb, (hk g rfl).trans hg, h1, h2, h3, h4⟩
theorem own_kindS {w : World} {base size n : Nat} {e : TypeId} {v : Value} {xs : List Value} (h : w.ownsRow base e size v n xs) : ∀ q, v.ownBlock = some q → ∃ cs, w.heap[q]? = some (.cells cs e (0, 0)) := by
  intro q hq
  rcases h.2 with ⟨rfl, _⟩ | ⟨g, cap, cur, rfl, hb, hg, _⟩
  · cases hq
  · cases hq; exact ⟨cur, hg⟩
/-- a series' two rows -/
def SerOwn (w : World) (base : Nat) (v : Value) (y : Ser) : Prop :=
  ∃ A n c A' n' c', v = .agg #[.slice A n c, .slice A' n' c'] ∧ y.1.length = n ∧ y.2.length = n' ∧ w.ownsRow base 73 2 (.slice A n c) n (labCs y.1) ∧ w.ownsRow base 27 2 (.slice A' n' c') n' (smpCs y.2)
/-- kinds of blocks that a store writes -/
def StKind (t : TypeId) : Prop := t = 70 ∨ t = 109 ∨ t = 5
/-- what a store's methods leave alone: what lay before the store, and blocks of other kinds -/
structure OutS (base : Nat) (w w' : World) : Prop where
  os : w'.os = w.os
  tape : w'.tape = w.tape
  output : w'.output = w.output
  size : w.heap.size ≤ w'.heap.size
  low : ∀ k, k < base → w'.heap[k]? = w.heap[k]?
  kinds : ∀ (k : Nat) (cs : Array Value) (t : TypeId) (fr : Nat × Nat), w.heap[k]? = some (Obj.cells cs t fr) → ¬ StKind t → w'.heap[k]? = w.heap[k]?
theorem OutS.refl (base : Nat) (w : World) : OutS base w w := ⟨rfl, rfl, rfl, Nat.le_refl _, fun _ _ => rfl, fun _ _ _ _ _ _ => rfl⟩
theorem OutS.trans {base : Nat} {a b c : World} (h : OutS base a b) (k : OutS base b c) : OutS base a c :=
  ⟨k.os.trans h.os, k.tape.trans h.tape, k.output.trans h.output, Nat.le_trans h.size k.size, fun q hq => (k.low q hq).trans (h.low q hq), fun q cs t fr hq ht => (k.kinds q cs t fr ((h.kinds q cs t fr hq ht).trans hq) ht).trans (h.kinds q cs t fr hq ht)⟩
theorem OutS.of {base : Nat} {w w' : World} (h : Below w.heap.size w w') (hb : base ≤ w.heap.size) : OutS base w w' :=
  ⟨h.os, h.tape, h.output, h.size, fun k hk => h.block k (Nat.lt_of_lt_of_le hk hb), fun k _ _ _ hk _ => h.block k (Array.getElem?_eq_some_iff.1 hk).1⟩
theorem OutS.below {base : Nat} {w w' : World} (h : OutS base w w') : Below base w w' := ⟨h.os, h.tape, h.output, h.size, fun k hk => h.low k hk⟩
theorem OutS.blk {base : Nat} {w w' : World} {g : Nat} {t : TypeId} {cs : Array Value} (h : OutS base w w') (hk : Blk w g t cs) (ht : ¬ StKind t) : Blk w' g t cs := (h.kinds g cs t _ hk ht).trans hk
theorem OutS.own {base b2 size n : Nat} {w w' : World} {e : TypeId} {v : Value} {xs : List Value} (h : OutS base w w') (ho : w.ownsRow b2 e size v n xs) (ht : ¬ StKind e) : w'.ownsRow b2 e size v n xs :=
  own_keepS ho fun q hq => by
    obtain ⟨cs, hc⟩ := own_kindS ho q hq
    exact h.kinds q cs e _ hc ht
theorem SerOwn.keep {w w' : World} {base : Nat} {v : Value} {y : Ser} (h : SerOwn w base v y) (hk : ∀ (e : TypeId) (size n : Nat) (u : Value) (xs : List Value), ¬ StKind e → w.ownsRow base e size u n xs → w'.ownsRow base e size u n xs) : SerOwn w' base v y := by
  obtain ⟨A, n, c, A', n', c', h1, h2, h3, h4, h5⟩ := h
  exact ⟨A, n, c, A', n', c', h1, h2, h3, hk _ _ _ _ _ (by unfold StKind; decide) h4, hk _ _ _ _ _ (by unfold StKind; decide) h5⟩
theorem SerOwn.next {w w' : World} {base : Nat} {v : Value} {y : Ser} (h : SerOwn w base v y) (hb : Below w.heap.size w w') : SerOwn w' base v y := h.keep fun _ _ _ _ _ _ h => own_next h hb
theorem SerOwn.out {w w' : World} {b2 base : Nat} {v : Value} {y : Ser} (h : SerOwn w base v y) (hb : OutS b2 w w') : SerOwn w' base v y := h.keep fun _ _ _ _ _ ht h => hb.own h ht
theorem SerOwn.less {w : World} {base b2 : Nat} {v : Value} {y : Ser} (h : SerOwn w base v y) (hb : b2 ≤ base) : SerOwn w b2 v y := by
  obtain ⟨A, n, c, A', n', c', h1, h2, h3, h4, h5⟩ := h
  exact ⟨A, n, c, A', n', c', h1, h2, h3, own_less h4 hb, own_less h5 hb⟩
/-- the map's entries -/
inductive StRows (w : World) (base : Nat) : List (Value × Value) → StD → Prop
  | nil : StRows w base [] []
  | cons {k : ByteArray} {v : Value} {y : Ser} {kvs : List (Value × Value)} {st : StD} : SerOwn w base v y → StRows w base kvs st → StRows w base ((.string k, v) :: kvs) ((k, y) :: st)
theorem StRows.keep {w w' : World} {base : Nat} {kvs : List (Value × Value)} {st : StD} (h : StRows w base kvs st) (hk : ∀ v y, SerOwn w base v y → SerOwn w' base v y) : StRows w' base kvs st := by
  induction h with
  | nil => exact .nil
  | cons h1 _ ih => exact .cons (hk _ _ h1) ih
theorem StRows.len {w : World} {base : Nat} {kvs : List (Value × Value)} {st : StD} (h : StRows w base kvs st) : kvs.length = st.length := by
  induction h with
  | nil => rfl
  | cons _ _ ih => simp [ih]
theorem StRows.keys {w : World} {base : Nat} {kvs : List (Value × Value)} {st : StD} (h : StRows w base kvs st) : kvs.map (·.1) = st.map (fun p => Value.string p.1) := by
  induction h with
  | nil => rfl
  | cons _ _ ih => simp [ih]
theorem StRows.none {w : World} {base : Nat} {kvs : List (Value × Value)} {st : StD} (h : StRows w base kvs st) {k : ByteArray} (hn : ∀ p ∈ kvs, p.1 ≠ .string k) : ∀ p ∈ st, p.1 ≠ k := by
  intro p hp e
  have h1 : Value.string p.1 ∈ st.map (fun p => Value.string p.1) := List.mem_map.2 ⟨p, hp, rfl⟩
  rw [← h.keys] at h1
  obtain ⟨q, hq, e2⟩ := List.mem_map.1 h1
  exact hn q hq (by rw [e2, e])
theorem StRows.mem {w : World} {base : Nat} {kvs : List (Value × Value)} {st : StD} (h : StRows w base kvs st) {k : ByteArray} {v : Value} (hm : (.string k, v) ∈ kvs) : ∃ y, (k, y) ∈ st ∧ SerOwn w base v y := by
  induction h with
  | nil => cases hm
  | cons h1 _ ih =>
    rcases List.mem_cons.1 hm with e | e
    · injection e with e1 e2
      injection e1 with e1
      subst e1 e2
      exact ⟨_, List.mem_cons_self, h1⟩
    · obtain ⟨y, hy, hs⟩ := ih e
      exact ⟨y, List.mem_cons_of_mem _ hy, hs⟩
theorem StRows.split {w : World} {base : Nat} {st : StD} : ∀ {pre post : List (Value × Value)} {k : ByteArray} {v : Value}, StRows w base (pre ++ (.string k, v) :: post) st → ∃ sp y sq, st = sp ++ (k, y) :: sq ∧ StRows w base pre sp ∧ StRows w base post sq
  | [], post, k, v, h => by
    cases h with
    | cons h1 h2 => exact ⟨[], _, _, rfl, .nil, h2⟩
  | p :: pre, post, k, v, h => by
    cases h with
    | cons h1 h2 =>
      obtain ⟨sp, y, sq, rfl, h3, h4⟩ := StRows.split h2
      exact ⟨_ :: sp, y, sq, rfl, .cons h1 h3, h4⟩
theorem StRows.app {w : World} {base : Nat} {a b : List (Value × Value)} {s t : StD} (h : StRows w base a s) (k : StRows w base b t) : StRows w base (a ++ b) (s ++ t) := by
  induction h with
  | nil => exact k
  | cons h1 _ ih => exact .cons h1 ih
theorem StRows.put {w : World} {base : Nat} {kvs kvs' : List (Value × Value)} {st : StD} (h : StRows w base kvs st) (hn : (kvs.map (·.1)).Nodup) {k : ByteArray} {v : Value} {y : Ser} (hs : SerOwn w base v y) (hp : PutV kvs (.string k) v kvs') : StRows w base kvs' (putSt st k y) := by
  rcases hp with ⟨pre, v0, post, rfl, rfl⟩ | ⟨h1, rfl⟩
  · obtain ⟨sp, y0, sq, rfl, h3, h4⟩ := StRows.split h
    have hq : ∀ p ∈ sp, p.1 ≠ k := h3.none fun p hp e => by
      rw [List.map_append, List.map_cons] at hn
      obtain ⟨_, _, h5⟩ := List.nodup_append.1 hn
      exact h5 p.1 (List.mem_map_of_mem hp) _ List.mem_cons_self e
    rw [put_some hq]
    exact h3.app (.cons hs h4)
  · rw [put_none (h.none h1)]
    exact h.app (.cons hs .nil)
/-- a store: its object, its map, its disk -/
structure StAt (w : World) (base g b dg : Nat) (A : Option Addr) (c : Nat) (es : Array MapEntry) (clock : Nat) (kvs : List (Value × Value)) (dk : List Nat) (sf : Int) (st : StD) : Prop where
  obj : Blk w g 70 #[.map (some b), .pointer (some ⟨dg, 0, none⟩)]
  mp : w.heap[b]? = some (.map es clock)
  shape : MpS Tryz.prog 9 es clock kvs
  rows : StRows w base kvs st
  disk : DiskAt w base dg A c dk sf
  og : base ≤ g
  ob : base ≤ b
  od : base ≤ dg
theorem StAt.next {w w' : World} {base g b dg : Nat} {A : Option Addr} {c : Nat} {es : Array MapEntry} {clock : Nat} {kvs : List (Value × Value)} {dk : List Nat} {sf : Int} {st : StD} (h : StAt w base g b dg A c es clock kvs dk sf st) (hb : Below w.heap.size w w') : StAt w' base g b dg A c es clock kvs dk sf st where
  obj := h.obj.next hb
  mp := (hb.block b (Array.getElem?_eq_some_iff.1 h.mp).1).trans h.mp
  shape := h.shape
  rows := h.rows.keep fun _ _ k => k.next hb
  disk := ⟨h.disk.1.next hb, own_next h.disk.2 hb⟩
  og := h.og
  ob := h.ob
  od := h.od
theorem StAt.size {w : World} {base g b dg : Nat} {A : Option Addr} {c : Nat} {es : Array MapEntry} {clock : Nat} {kvs : List (Value × Value)} {dk : List Nat} {sf : Int} {st : StD} (h : StAt w base g b dg A c es clock kvs dk sf st) : es.size = st.length := by
  rw [← h.rows.len, ← h.shape.pairs, List.length_map, Array.length_toList]
theorem StAt.nodup {w : World} {base g b dg : Nat} {A : Option Addr} {c : Nat} {es : Array MapEntry} {clock : Nat} {kvs : List (Value × Value)} {dk : List Nat} {sf : Int} {st : StD} (h : StAt w base g b dg A c es clock kvs dk sf st) : (kvs.map (·.1)).Nodup := by
  rw [← h.shape.pairs, List.map_map]
  exact h.shape.stamped.2.2
theorem StAt.keysNodup {w : World} {base g b dg : Nat} {A : Option Addr} {c : Nat} {es : Array MapEntry} {clock : Nat} {kvs : List (Value × Value)} {dk : List Nat} {sf : Int} {st : StD} (h : StAt w base g b dg A c es clock kvs dk sf st) : (st.map (·.1)).Nodup := by
  have h1 := h.nodup
  rw [h.rows.keys] at h1
  have h2 : (st.map (fun p => Value.string p.1)) = (st.map (·.1)).map Value.string := by rw [List.map_map]; rfl
  rw [h2] at h1
  exact (List.pairwise_map.1 h1).imp fun h e => h (by rw [e])
def StM (w : World) (base g : Nat) (dk : List Nat) (sf : Int) (st : StD) : Prop := ∃ b dg A c es clock kvs, StAt w base g b dg A c es clock kvs dk sf st
theorem StM.next {w w' : World} {base g : Nat} {dk : List Nat} {sf : Int} {st : StD} (h : StM w base g dk sf st) (hb : Below w.heap.size w w') : StM w' base g dk sf st := by
  obtain ⟨b, dg, A, c, es, clock, kvs, h⟩ := h
  exact ⟨b, dg, A, c, es, clock, kvs, h.next hb⟩
theorem StM.nodup {w : World} {base g : Nat} {dk : List Nat} {sf : Int} {st : StD} (h : StM w base g dk sf st) : (st.map (·.1)).Nodup := by
  obtain ⟨b, dg, A, c, es, clock, kvs, h⟩ := h
  exact h.keysNodup
end Go.Proofs.YtdnlnkbnfiamiaaGreatDoor
namespace Go.Proofs.YtdnlnkbnfiamiaaGreatDoor
open Go.RowKit

theorem elCLab : Elem Tryz.prog 25 73 2 32 := Elem.mk' (z := .agg #[.string ⟨#[]⟩, .string ⟨#[]⟩]) Tryz.underlying25 (by kernel_rfl) rfl (by decide)
set_option maxRecDepth 1000000 in
set_option maxHeartbeats 1000000 in
theorem cloneCLab_any (A : Option Addr) (n c : Nat) (xs : List Value) (hl : xs.length = n * 2) (h1 : ∀ u ∈ xs, u.oneCell' = true) (hA : A = none → n = 0 ∧ c = 0) (hmax : n * 32 ≤ 140737488355328) (w : World) (h : Has w w.heap.size A xs) :
    Calls Tryz.prog 30 #[.slice A n c] w (RV fun v w' => ∃ A' c', v = .slice A' n c' ∧ w'.ownsRow w.heap.size 73 2 (.slice A' n c') n xs ∧ Below w.heap.size w w') := by
  have hq := fun (w : World) (a : Option Addr) (n c n' c' : Nat) => Lib.run_eql_slice_nil (P := Tryz.prog) w 25 73 a n c n' c' Tryz.underlying25
  cases A with
  | none =>
    obtain ⟨rfl, rfl⟩ := hA rfl
    go_enter Tryz.func30, Tryz.ntmps30
    go_wp2
    go_ret
    exact RV.mk ⟨none, 0, rfl, ⟨hl, .inl ⟨rfl, rfl⟩⟩, Below.refl _ _⟩
  | some ad =>
    go_enter Tryz.func30, Tryz.ntmps30
    go_wp2_with (at_builtin; refine wpList_spread rfl _ _ _ rfl elCLab rfl (World.ownsRow_made (base := w.heap.size) w #[] 0 (Nat.le_refl _) (Nat.zero_le _) rfl) rfl ((h.keep fun p hp => World.cell?_alloc_lt w _ p hp)) ?_ ?c1 ?c2 ?c3 ?c4 ?c5; intro A' c' w1 hown hgrow hbel)
    case c1 => exact hl
    case c2 => exact h1
    case c3 => omega
    case c4 => unfold maxLen; omega
    case c5 => simp
    go_ret
    rw [Nat.zero_add, List.nil_append] at hown
    exact RV.mk ⟨A', c', rfl, hown, ((Below.refl _ _).alloc (Nat.le_refl _) _).trans hbel⟩
theorem elCSmp : Elem Tryz.prog 40 27 2 16 := Elem.mk' (z := .agg #[.int .i64 0, .int .i64 0]) Tryz.underlying40 (by kernel_rfl) rfl (by decide)
set_option maxRecDepth 1000000 in
set_option maxHeartbeats 1000000 in
theorem cloneCSmp_any (A : Option Addr) (n c : Nat) (xs : List Value) (hl : xs.length = n * 2) (h1 : ∀ u ∈ xs, u.oneCell' = true) (hA : A = none → n = 0 ∧ c = 0) (hmax : n * 16 ≤ 140737488355328) (w : World) (h : Has w w.heap.size A xs) :
    Calls Tryz.prog 31 #[.slice A n c] w (RV fun v w' => ∃ A' c', v = .slice A' n c' ∧ w'.ownsRow w.heap.size 27 2 (.slice A' n c') n xs ∧ Below w.heap.size w w') := by
  have hq := fun (w : World) (a : Option Addr) (n c n' c' : Nat) => Lib.run_eql_slice_nil (P := Tryz.prog) w 40 27 a n c n' c' Tryz.underlying40
  cases A with
  | none =>
    obtain ⟨rfl, rfl⟩ := hA rfl
    go_enter Tryz.func31, Tryz.ntmps31
    go_wp2
    go_ret
    exact RV.mk ⟨none, 0, rfl, ⟨hl, .inl ⟨rfl, rfl⟩⟩, Below.refl _ _⟩
  | some ad =>
    go_enter Tryz.func31, Tryz.ntmps31
    go_wp2_with (at_builtin; refine wpList_spread rfl _ _ _ rfl elCSmp rfl (World.ownsRow_made (base := w.heap.size) w #[] 0 (Nat.le_refl _) (Nat.zero_le _) rfl) rfl ((h.keep fun p hp => World.cell?_alloc_lt w _ p hp)) ?_ ?c1 ?c2 ?c3 ?c4 ?c5; intro A' c' w1 hown hgrow hbel)
    case c1 => exact hl
    case c2 => exact h1
    case c3 => omega
    case c4 => unfold maxLen; omega
    case c5 => simp
    go_ret
    rw [Nat.zero_add, List.nil_append] at hown
    exact RV.mk ⟨A', c', rfl, hown, ((Below.refl _ _).alloc (Nat.le_refl _) _).trans hbel⟩
theorem elCPut : Elem Tryz.prog 22 29 3 40 := Elem.mk' (z := .agg #[.slice none 0 0, .int .i64 0, .int .i64 0]) Tryz.underlying22 (by kernel_rfl) rfl (by decide)
set_option maxRecDepth 1000000 in
set_option maxHeartbeats 1000000 in
theorem cloneCPut_any (A : Option Addr) (n c : Nat) (xs : List Value) (hl : xs.length = n * 3) (h1 : ∀ u ∈ xs, u.oneCell' = true) (hA : A = none → n = 0 ∧ c = 0) (hmax : n * 40 ≤ 140737488355328) (w : World) (h : Has w w.heap.size A xs) :
    Calls Tryz.prog 8 #[.slice A n c] w (RV fun v w' => ∃ A' c', v = .slice A' n c' ∧ w'.ownsRow w.heap.size 29 3 (.slice A' n c') n xs ∧ Below w.heap.size w w') := by
  have hq := fun (w : World) (a : Option Addr) (n c n' c' : Nat) => Lib.run_eql_slice_nil (P := Tryz.prog) w 22 29 a n c n' c' Tryz.underlying22
  cases A with
  | none =>
    obtain ⟨rfl, rfl⟩ := hA rfl
    go_enter Tryz.func8, Tryz.ntmps8
    go_wp2
    go_ret
    exact RV.mk ⟨none, 0, rfl, ⟨hl, .inl ⟨rfl, rfl⟩⟩, Below.refl _ _⟩
  | some ad =>
    go_enter Tryz.func8, Tryz.ntmps8
    go_wp2_with (at_builtin; refine wpList_spread rfl _ _ _ rfl elCPut rfl (World.ownsRow_made (base := w.heap.size) w #[] 0 (Nat.le_refl _) (Nat.zero_le _) rfl) rfl ((h.keep fun p hp => World.cell?_alloc_lt w _ p hp)) ?_ ?c1 ?c2 ?c3 ?c4 ?c5; intro A' c' w1 hown hgrow hbel)
    case c1 => exact hl
    case c2 => exact h1
    case c3 => omega
    case c4 => unfold maxLen; omega
    case c5 => simp
    go_ret
    rw [Nat.zero_add, List.nil_append] at hown
    exact RV.mk ⟨A', c', rfl, hown, ((Below.refl _ _).alloc (Nat.le_refl _) _).trans hbel⟩
theorem labCs_oneC (l : List Lab) : ∀ u ∈ labCs l, u.oneCell' = true := by
  intro u hu
  unfold labCs at hu
  obtain ⟨x, _, h⟩ := List.mem_flatMap.1 hu
  simp [labC] at h
  rcases h with rfl | rfl <;> rfl
theorem smpCs_oneC (l : List Smp) : ∀ u ∈ smpCs l, u.oneCell' = true := by
  intro u hu
  unfold smpCs at hu
  obtain ⟨x, _, h⟩ := List.mem_flatMap.1 hu
  simp [smpC] at h
  rcases h with rfl | rfl <;> rfl
end Go.Proofs.YtdnlnkbnfiamiaaGreatDoor
namespace Go.Proofs.YtdnlnkbnfiamiaaGreatDoor
open Go.RowKit

theorem lnew_any (w : World) : Calls Tryz.prog 50 #[] w (R1 (.pointer (some ⟨w.heap.size, 0, none⟩)) (fun w' => w' = w.alloc (.cells #[.slice none 0 0, .int .i64 0] 109))) := by
  go_enter Tryz.func50, Tryz.ntmps50
  go_wp2_with fail
  go_ret
  exact R1.mk rfl rfl
def StNewP (w : World) (v : Value) (w' : World) : Prop := ∃ g, v = .pointer (some ⟨g, 0, none⟩) ∧ StM w' w.heap.size g [] 0 [] ∧ Below w.heap.size w w'
theorem snew_any (w : World) : Calls Tryz.prog 23 #[] w (RV (StNewP w)) := by
  have hmk : ∀ w : World, (Instr.makeMap 67 none).run Tryz.prog w = .ok (.map (some w.heap.size)) (w.alloc (.map #[] 0)) := fun _ => by kernel_rfl
  have hF := Lib.hid (fun (w : World) => show StM (((w.alloc (.map #[] 0)).alloc (.cells #[.slice none 0 0, .int .i64 0] 109)).alloc (.cells #[.map (some w.heap.size), .pointer (some ⟨w.heap.size + 1, 0, none⟩)] 70)) w.heap.size (w.heap.size + 2) [] 0 [] from
    ⟨w.heap.size, w.heap.size + 1, none, 0, #[], 0, [], {
      obj := Blk.newD _ _ _ _ (by simp)
      mp := ((Below.heap_alloc _ _ _ (by simp; omega)).trans (Below.heap_alloc _ _ _ (by simp))).trans (heap_alloc_new w _)
      shape := MpS.empty _ _ _
      rows := .nil
      disk := ⟨(Blk.newD _ _ _ _ (by simp)).alloc _, World.ownsRow_nil _ _ _ _⟩
      og := by omega
      ob := Nat.le_refl _
      od := by omega }⟩)
  have hB := Lib.hid (show Below w.heap.size w (((w.alloc (.map #[] 0)).alloc (.cells #[.slice none 0 0, .int .i64 0] 109)).alloc (.cells #[.map (some w.heap.size), .pointer (some ⟨w.heap.size + 1, 0, none⟩)] 70)) from
    (((Below.refl _ _).alloc (Nat.le_refl _) _).alloc (by simp) _).alloc (by simp; omega) _)
  go_enter Tryz.func23, Tryz.ntmps23
  go_wp2_with fail
  refine (lnew_any _).mono ?_
  rintro e w1 ⟨rfl, rfl⟩
  go_wp2_with fail
  go_ret
  exact RV.mk ⟨_, rfl, hF.out w, hB.out⟩
end Go.Proofs.YtdnlnkbnfiamiaaGreatDoor
namespace Go.Proofs.YtdnlnkbnfiamiaaGreatDoor
open Go.RowKit

theorem putCs_len (l : List PutE) : (putCs l).length = l.length * 3 := flat_len (f := putC) (C := 3) (fun _ => rfl) l
theorem putCs_0 {l : List PutE} {k : Nat} (h : k < l.length) : (putCs l)[k * 3]? = some (.slice (at_ l k).t.A (at_ l k).t.l.length (at_ l k).t.c) := flat_at (f := putC) (C := 3) (fun _ => rfl) h (r := 0) (by decide)
theorem putCs_1 {l : List PutE} {k : Nat} (h : k < l.length) : (putCs l)[k * 3 + 1]? = some (.int .i64 (at_ l k).x.t) := flat_at (f := putC) (C := 3) (fun _ => rfl) h (r := 1) (by decide)
theorem putCs_2 {l : List PutE} {k : Nat} (h : k < l.length) : (putCs l)[k * 3 + 2]? = some (.int .i64 (at_ l k).x.v) := flat_at (f := putC) (C := 3) (fun _ => rfl) h (r := 2) (by decide)
theorem putCs_one (l : List PutE) : ∀ u ∈ putCs l, u.oneCell' = true := by
  intro u hu
  simp only [putCs, List.mem_flatMap] at hu
  obtain ⟨b, _, hb⟩ := hu
  simp [putC] at hb
  rcases hb with rfl | rfl | rfl <;> rfl
theorem putCs_app (l m : List PutE) : putCs (l ++ m) = putCs l ++ putCs m := by simp [putCs]
theorem putCs_set (l : List PutE) (k : Nat) (e : PutE) : (((putCs l).set (k * 3) (.slice e.t.A e.t.l.length e.t.c)).set (k * 3 + 1) (.int .i64 e.x.t)).set (k * 3 + 2) (.int .i64 e.x.v) = putCs (l.set k e) := by
  induction l generalizing k with
  | nil => rfl
  | cons x l ih =>
    cases k with
    | zero => rfl
    | succ k =>
      rw [List.set_cons_succ]
      show (((Value.slice x.t.A x.t.l.length x.t.c :: Value.int .i64 x.x.t :: Value.int .i64 x.x.v :: putCs l).set ((k + 1) * 3) _).set ((k + 1) * 3 + 1) _).set ((k + 1) * 3 + 2) _ = Value.slice x.t.A x.t.l.length x.t.c :: Value.int .i64 x.x.t :: Value.int .i64 x.x.v :: putCs (l.set k e)
      rw [← ih, show (k + 1) * 3 = k * 3 + 1 + 1 + 1 from by omega]
      rfl
end Go.Proofs.YtdnlnkbnfiamiaaGreatDoor
namespace Go.Proofs.YtdnlnkbnfiamiaaGreatDoor
open Go.RowKit

theorem at_setP {α : Type} [Inhabited α] (l : List α) (i j : Nat) (x : α) : at_ (l.set i x) j = if i = j ∧ j < l.length then x else at_ l j := by
  unfold at_
  rw [List.getD_eq_getElem?_getD, List.getElem?_set]
  by_cases h : i = j
  · subst h
    by_cases h2 : i < l.length
    · simp [h2]
    · simp [h2]
  · simp [h]
/-- the places below i and their mirrors have been swapped -/
def Mir (l O : List PutE) (i : Nat) : Prop := O.length = l.length ∧ ∀ q, q < l.length → at_ O q = if q < i ∨ l.length ≤ q + i then at_ l (l.length - 1 - q) else at_ l q
theorem Mir.start (l : List PutE) : Mir l l 0 := ⟨rfl, fun q hq => by rw [if_neg (by omega)]⟩
theorem Mir.step {l O : List PutE} {i j : Nat} (h : Mir l O i) (hij : i < j) (hj : j + i + 1 = l.length) : Mir l ((O.set i (at_ l j)).set j (at_ l i)) (i + 1) := by
  refine ⟨by rw [List.length_set, List.length_set]; exact h.1, fun q hq => ?_⟩
  rw [at_setP, at_setP, List.length_set, h.1]
  by_cases h1 : j = q
  · subst h1
    rw [if_pos ⟨rfl, hq⟩, if_pos (by omega), show l.length - 1 - j = i from by omega]
  · rw [if_neg (fun g => h1 g.1)]
    by_cases h2 : i = q
    · subst h2
      rw [if_pos ⟨rfl, hq⟩, if_pos (by omega), show l.length - 1 - i = j from by omega]
    · rw [if_neg (fun g => h2 g.1), h.2 q hq]
      by_cases h3 : q < i ∨ l.length ≤ q + i
      · rw [if_pos h3, if_pos (by omega)]
      · rw [if_neg h3, if_neg (by omega)]
theorem Mir.get {l O : List PutE} {i j : Nat} (h : Mir l O i) (hij : i < j) (hj : j + i + 1 = l.length) : at_ O i = at_ l i ∧ at_ O j = at_ l j :=
  ⟨by rw [h.2 i (by omega), if_neg (by omega)], by rw [h.2 j (by omega), if_neg (by omega)]⟩
theorem Mir.done {l O : List PutE} {i : Nat} (h : Mir l O i) (hi : l.length ≤ 2 * i + 1) : O = l.reverse := by
  apply List.ext_getElem
  · rw [h.1, List.length_reverse]
  · intro q h1 h2
    have hq : q < l.length := by rw [← h.1]; exact h1
    have := h.2 q hq
    rw [at_eq h1] at this
    rw [this, List.getElem_reverse]
    by_cases h3 : q < i ∨ l.length ≤ q + i
    · rw [if_pos h3, at_eq (by omega)]
    · rw [if_neg h3, at_eq hq]
      congr 1
      omega

set_option maxRecDepth 1000000 in
set_option maxHeartbeats 8000000 in
theorem revP_any {base n c : Nat} {A : Option Addr} (l : List PutE) (hn : l.length = n) (w : World) (hbase : base ≤ w.heap.size) (hown : w.ownsRow base 29 3 (.slice A n c) n (putCs l)) :
    Calls Tryz.prog 9 #[.slice A n c] w (R1 (.tuple #[]) (fun w' => w'.ownsRow base 29 3 (.slice A n c) n (putCs l.reverse) ∧ w.grownBy w' (Value.slice A n c).ownBlock)) := by
  have hnm : n ≤ 9223372036854775807 := by have := own_len hown; unfold maxLen at this; omega
  have Hn := Lib.hid hn
  have e0 : IntKind.i64.wrap ((n : Int) - 1) = (n : Int) - 1 := IntWalk.i64_in _ (by omega)
  clear hn
  go_enter Tryz.func9, Tryz.ntmps9
  go_wp2_with fail
  go_loopw [2, 3] (fun a b wr => ∃ (i : Nat) (O : List PutE), i ≤ n ∧ a = .int .i64 (i : Nat) ∧ b = .int .i64 ((n : Int) - 1 - i) ∧ Hid (Mir l O i) ∧ wr.ownsRow base 29 3 (.slice A n c) n (putCs O) ∧ w.grownBy wr (Value.slice A n c).ownBlock) (fun a _ _ => n - (intOf a).toNat)
  case atStart => exact ⟨0, l, by omega, rfl, int_eq (by omega), Lib.hid (Mir.start l), hown, World.grownBy.refl w _⟩
  case round =>
    obtain ⟨i, O, hi, rfl, rfl, hm, ho, hg⟩ := hrel
    by_cases hlt : (i : Int) < (n : Int) - 1 - (i : Int)
    · obtain ⟨j, hj⟩ : ∃ j : Nat, j + i + 1 = n := ⟨n - 1 - i, by omega⟩
      have ej : (n : Int) - 1 - (i : Int) = (j : Int) := by omega
      rw [ej] at hlt ⊢
      have hij : i < j := by omega
      have Hj := Lib.hid hj
      have Hst := Lib.hid (hm.out.step hij (by rw [Hn.out]; exact hj))
      obtain ⟨g1, g2⟩ := hm.out.get hij (by rw [Hn.out]; exact hj)
      obtain ⟨g, cap, ev, hgb, hgs⟩ := ho.form (by omega)
      injection ev with e1 e2 e3
      subst e1 e3
      have hOl := Lib.hid (show O.length = n by rw [hm.out.1, Hn.out])
      have hi2 : i < n := by omega
      have hj2 : j < n := by omega
      have a0 := (ho.cellAt (i * 3) (by omega)).trans (putCs_0 (by rw [hOl.out]; exact hi2))
      have a1 := (ho.cellAt (i * 3 + 1) (by omega)).trans (putCs_1 (by rw [hOl.out]; exact hi2))
      have a2 := (ho.cellAt (i * 3 + 2) (by omega)).trans (putCs_2 (by rw [hOl.out]; exact hi2))
      have b0 := (ho.cellAt (j * 3) (by omega)).trans (putCs_0 (by rw [hOl.out]; exact hj2))
      have b1 := (ho.cellAt (j * 3 + 1) (by omega)).trans (putCs_1 (by rw [hOl.out]; exact hj2))
      have b2 := (ho.cellAt (j * 3 + 2) (by omega)).trans (putCs_2 (by rw [hOl.out]; exact hj2))
      rw [g1] at a0 a1 a2
      rw [g2] at b0 b1 b2
      obtain ⟨x, hx⟩ : ∃ x, at_ l i = x := ⟨_, rfl⟩
      obtain ⟨y, hy⟩ : ∃ y, at_ l j = y := ⟨_, rfl⟩
      rw [hx] at a0 a1 a2 Hst
      rw [hy] at b0 b1 b2 Hst
      clear g1 g2 hx hy ej hj
      have f0 := ho.frozenAt (i * 3)
      have f1 := ho.frozenAt (i * 3 + 1)
      have f4 := ho.frozenAt (i * 3 + 2)
      have f2 := ho.frozenAt (j * 3)
      have f3 := ho.frozenAt (j * 3 + 1)
      have f5 := ho.frozenAt (j * 3 + 2)
      have ei : IntKind.i64.wrap ((i : Int) + 1) = (i : Int) + 1 := IntWalk.i64_in _ (by omega)
      have ejw : IntKind.i64.wrap ((j : Int) - 1) = (j : Int) - 1 := IntWalk.i64_in _ (by omega)
      have r1 : (i : Int) < (n : Int) := by omega
      have r2 : (j : Int) < (n : Int) := by omega
      obtain ⟨s1, q1⟩ := ho.stored (i * 3) (.slice y.t.A y.t.l.length y.t.c)
      obtain ⟨s2, q2⟩ := s1.stored (i * 3 + 1) (.int .i64 y.x.t)
      obtain ⟨s3, q3⟩ := s2.stored (i * 3 + 2) (.int .i64 y.x.v)
      obtain ⟨s5, q5⟩ := s3.stored (j * 3) (.slice x.t.A x.t.l.length x.t.c)
      obtain ⟨s6, q6⟩ := s5.stored (j * 3 + 1) (.int .i64 x.x.t)
      obtain ⟨s4, q4⟩ := s6.stored (j * 3 + 2) (.int .i64 x.x.v)
      rw [putCs_set, putCs_set] at s4
      go_wp2_with fail
      go_region
      have S4 := Lib.hid s4
      have Q4 := Lib.hid (World.grownBy.trans hg (World.grownBy.trans (World.grownBy.trans (World.grownBy.trans (World.grownBy.trans (World.grownBy.trans q1 q2) q3) q5) q6) q4))
      obtain ⟨W9, hW9⟩ : ∃ W9, (((((wr.setCell ⟨g, i * 3, none⟩ (.slice y.t.A y.t.l.length y.t.c)).setCell ⟨g, i * 3 + 1, none⟩ (.int .i64 y.x.t)).setCell ⟨g, i * 3 + 2, none⟩ (.int .i64 y.x.v)).setCell ⟨g, j * 3, none⟩ (.slice x.t.A x.t.l.length x.t.c)).setCell ⟨g, j * 3 + 1, none⟩ (.int .i64 x.x.t)).setCell ⟨g, j * 3 + 2, none⟩ (.int .i64 x.x.v) = W9 := ⟨_, rfl⟩
      rw [hW9] at S4 Q4 ⊢
      clear hW9
      clear s1 s2 s3 s5 s6 s4 q1 q2 q3 q5 q6 q4 a0 a1 a2 b0 b1 b2 f0 f1 f2 f3 f4 f5 ho hg
      go_wp2_with fail
      go_roundw
      case rel => exact ⟨i + 1, (O.set i y).set j x, by omega, by go_num, int_eq (by have := Hj.out; clear ei ejw; omega), Hst, S4.out, ⟨Q4.out.os, Q4.out.tape, Q4.out.output, Q4.out.size, Q4.out.block⟩⟩
      case measure => simp [intOf]; omega
    · go_wp2_with fail
      have hO := hm.out.done (by rw [Hn.out]; omega)
      exact bodyPost_end (v := .tuple #[]) (results_none rfl _ _ _) rfl (R1.mk rfl ⟨by rw [← hO]; exact ho, hg⟩)
end Go.Proofs.YtdnlnkbnfiamiaaGreatDoor
namespace Go.Proofs.YtdnlnkbnfiamiaaGreatDoor
open Go.RowKit

theorem elPtM : Elem Tryz.prog 22 29 3 40 := Elem.mk' (z := .agg #[.slice none 0 0, .int .i64 0, .int .i64 0]) Tryz.underlying22 (by kernel_rfl) rfl (by decide)
theorem infoPtM : (Tryz.prog.info? 29).map (fun i => (i.zero, i.size, i.bytes)) = some (some (.agg #[.slice none 0 0, .int .i64 0, .int .i64 0]), 3, 40) := by kernel_rfl
theorem putCsM_app (l m : List PutE) : putCs (l ++ m) = putCs l ++ putCs m := by simp [putCs]
theorem putCsM_one (l : List PutE) : ∀ u ∈ putCs l, u.oneCell' = true := by
  intro u hu
  simp only [putCs, List.mem_flatMap] at hu
  obtain ⟨b, _, hb⟩ := hu
  simp [putC] at hb
  rcases hb with rfl | rfl | rfl <;> rfl
theorem zeros_sizeP (cs : Array Value) (n : Nat) : (Builtin.zeroCells cs n).size = n * cs.size := by simp [Builtin.zeroCells]

set_option maxRecDepth 1000000 in
set_option maxHeartbeats 4000000 in
theorem growP_any (n : Nat) (hn : n ≤ 7036874417760) (w : World) :
    Calls Tryz.prog 32 #[.slice none 0 0, .int .i64 n] w (RV fun v w' => ∃ A c, v = .slice A 0 c ∧ w'.ownsRow w.heap.size 29 3 (.slice A 0 c) 0 [] ∧ n ≤ c ∧ Below w.heap.size w w') := by
  rcases Nat.eq_zero_or_pos n with rfl | hp
  · go_enter Tryz.func32, Tryz.ntmps32
    go_wp2_with fail
    go_ret
    exact RV.mk ⟨none, 0, rfl, ⟨rfl, .inl ⟨rfl, rfl⟩⟩, Nat.le_refl _, Below.refl _ _⟩
  · have e0 : IntKind.i64.wrap (n : Int) = (n : Int) := IntWalk.i64_in _ (by omega)
    have h1 : ¬ (n : Int) < 0 := by omega
    have h2 : (0 : Int) < (n : Int) := by omega
    obtain ⟨i0, i1, i2, i3, i4⟩ := info_parts infoPtM
    have hrun := fun ty => Lib.run_append_nil_zeros (P := Tryz.prog) w 22 3 ty 29 i0 (.agg #[.slice none 0 0, .int .i64 0, .int .i64 0]) .i64 .i64 Tryz.underlying22 Tryz.underlying3 i1 i2 n hp (by omega) (by omega) (by rw [i4]; omega)
    have hge := grownCap_ge w n 0 29
    have hle := grownCap_le_maxLen w n 0 29 (by unfold maxLen; omega)
    obtain ⟨cp, hcp⟩ : ∃ cp, grownCap w n 0 29 = cp := ⟨_, rfl⟩
    rw [hcp] at hge hle
    obtain ⟨cs, hcs⟩ : ∃ cs, Builtin.zeroCells (Value.agg #[.slice none 0 0, .int .i64 0, .int .i64 0]).cells n ++ Builtin.zeroCells (Value.agg #[.slice none 0 0, .int .i64 0, .int .i64 0]).cells (cp - n) = cs := ⟨_, rfl⟩
    have hsz : cs.size = cp * 3 := by
      rw [← hcs]
      rw [Array.size_append, zeros_sizeP, zeros_sizeP, ← Nat.add_mul]
      show (n + (cp - n)) * 3 = cp * 3
      omega
    simp only [hcp, hcs] at hrun
    have HR := Lib.hid hrun
    clear hcp hcs hrun
    go_enter Tryz.func32, Tryz.ntmps32
    go_wp2_with (at_builtin; refine Lib.wpList_append_run _ rfl _ _ _ _ rfl _ _ rfl rfl _ _ (HR.out _) ?_)
    go_ret
    refine RV.mk ⟨some ⟨w.heap.size, 0, none⟩, cp, rfl, ⟨rfl, .inr ⟨w.heap.size, cp, cs, rfl, Nat.le_refl _, heap_alloc_new w.drew _, Nat.zero_le _, hle, hsz, ?_⟩⟩, hge, ?_⟩
    · simp
    · exact (below_drewN (Below.refl w.heap.size w) 1).alloc (Nat.le_refl _) _

set_option maxRecDepth 1000000 in
set_option maxHeartbeats 8000000 in
theorem concatP_any (A : Option Addr) (n c : Nat) (l : List PutE) (B : Option Addr) (m c' : Nat) (k : List PutE) (hn : l.length = n) (hm : k.length = m) (hnb : n ≤ 3518437208780) (hmb : m ≤ 3518437208780) (hA : A = none → c = 0) (hnc : n ≤ c) (hB : B = none → c' = 0) (hmc : m ≤ c') (w : World)
    (h : Has w w.heap.size A (putCs l)) (h' : Has w w.heap.size B (putCs k)) (ad : Addr) (hbl : ad.block < w.heap.size) (v0 : w.cell? ad = some (.slice A n c)) (v1 : w.cell? (ad.add 1) = some (.slice B m c')) :
    Calls Tryz.prog 13 #[.slice (some ad) 2 2] w (RV fun v w' => ∃ A' c'', v = .slice A' (n + m) c'' ∧ Has w' w'.heap.size A' (putCs (l ++ k)) ∧ Below w.heap.size w w') := by
  have Hn := Lib.hid hn; clear hn
  have Hm := Lib.hid hm; clear hm
  have z1 : ad.add 0 = ad := by unfold Addr.add; rw [if_pos rfl]
  obtain ⟨t, ht⟩ : ∃ t, n + m = t := ⟨_, rfl⟩
  have HT := Lib.hid ht
  have e1 : IntKind.i64.wrap (n : Int) = (n : Int) := IntWalk.i64_in _ (by omega)
  have e2 : IntKind.i64.wrap ((n : Int) + (m : Int)) = (t : Int) := (IntWalk.i64_in _ (by omega)).trans (by omega)
  have htb : t ≤ 7036874417760 := by omega
  rw [ht]
  clear ht
  have v1' : w.cell? ⟨ad.block, ad.off + 1, none⟩ = some (.slice B m c') := by rw [← v1]; congr 1
  go_enter Tryz.func13, Tryz.ntmps13
  go_wp2_with fail
  go_loopw [3, 11] (fun s i wr => ∃ j : Nat, j ≤ 2 ∧ i = .int .i64 (j : Nat) ∧ s = .int .i64 (if j = 0 then 0 else if j = 1 then (n : Int) else (t : Int)) ∧ wr = w) (fun _ i _ => 2 - (intOf i).toNat)
  case atStart => exact ⟨0, by omega, rfl, rfl, rfl⟩
  case round =>
    obtain ⟨j, hj, rfl, rfl, rfl⟩ := hrel
    rcases (show j = 0 ∨ j = 1 ∨ j = 2 by omega) with rfl | rfl | rfl
    · go_wp2_with fail
      go_roundw
      case rel => exact ⟨1, by omega, by go_num, rfl, by trivial⟩
      case measure => simp [intOf]
    · go_wp2_with fail
      go_roundw
      case rel => exact ⟨2, by omega, by go_num, rfl, by trivial⟩
      case measure => simp [intOf]
    · obtain ⟨W0, rfl⟩ : ∃ W0, W0 = wr := ⟨_, rfl⟩
      go_wp2_with fail
      refine (growP_any t htb _).mono ?_
      rintro e w2 ⟨v, rfl, A3, c3, rfl, hown3, htc3, hb2⟩
      obtain ⟨bs, hbs⟩ : ∃ bs, W0.heap.size = bs := ⟨_, rfl⟩
      have hbb : bs ≤ w2.heap.size := by rw [← hbs]; exact hb2.size
      rw [hbs] at hown3
      obtain ⟨i0, i1, i2, i3, i4⟩ := info_parts infoPtM
      have HV0 := Lib.hid (fun (w' : World) (hb : Below W0.heap.size W0 w') => (hb.cell (p := ad) hbl).trans v0)
      have HV1 := Lib.hid (fun (w' : World) (hb : Below W0.heap.size W0 w') => (hb.cell (p := ⟨ad.block, ad.off + 1, none⟩) hbl).trans v1')
      have HBS := Lib.hid hbs
      clear hbs v0 v1 v1'
      go_wp2_with fail
      go_loopw [6, 8, 27] (fun o _ i wq => ∃ (j : Nat) (A4 : Option Addr) (c4 : Nat), j ≤ 2 ∧ i = .int .i64 (j : Nat) ∧ o = .slice A4 (if j = 0 then 0 else if j = 1 then n else t) c4 ∧ t ≤ c4 ∧ wq.ownsRow bs 29 3 (.slice A4 (if j = 0 then 0 else if j = 1 then n else t) c4) (if j = 0 then 0 else if j = 1 then n else t) (putCs (if j = 0 then [] else if j = 1 then l else l ++ k)) ∧ Below W0.heap.size W0 wq ∧ bs ≤ wq.heap.size) (fun _ _ i _ => 2 - (intOf i).toNat)
      case atStart => exact ⟨0, A3, c3, by omega, rfl, rfl, htc3, hown3, hb2, hbb⟩
      case round =>
        obtain ⟨wq, rfl⟩ : ∃ wq, wq = wr := ⟨_, rfl⟩
        obtain ⟨j, A4, c4, hj, rfl, rfl, htc, hown, hbr, hbs⟩ := hrel
        have v0 := HV0.out _ hbr
        have v1 := HV1.out _ hbr
        rcases (show j = 0 ∨ j = 1 ∨ j = 2 by omega) with rfl | rfl | rfl
        · have hown : wq.ownsRow bs 29 3 (.slice A4 0 c4) 0 [] := hown
          rcases hown.2 with ⟨hv, hz⟩ | ⟨g, cap, cur, hv, hbg, hgg, hnc2, hcm, hcs, htk⟩
          · injection hv with hv1 hv2 hv3
            subst hv1 hv3
            have hn0 : n = 0 := by have := HT.out; omega
            have hm0 : m = 0 := by have := HT.out; omega
            have HN0 := Lib.hid hn0
            have HM0 := Lib.hid hm0
            clear hn0 hm0 hv2 hz
            go_wp2_with (at_builtin; refine wpList_spread rfl _ _ _ rfl elPtM rfl hown rfl (by exact h.next hbr) ?_ ?c1 ?c2 ?c3 ?c4 ?c5; intro A5 c5 w5 hown5 hgrow5 hbel5)
            case c1 => rw [putCs_len, Hn.out]
            case c2 => exact putCsM_one _
            case c3 => have := HN0.out; have := HM0.out; have := HT.out; omega
            case c4 => unfold maxLen; omega
            have h55 : t ≤ c5 := by have := HN0.out; have := HM0.out; have := HT.out; omega
            have HO := Lib.hid hown5
            have HB := Lib.hid hbel5
            clear hown5 hbel5 hgrow5
            go_wp2_with fail
            go_roundw
            case rel => exact ⟨1, A5, c5, by omega, by go_num, by show _ = Value.slice _ n _; simp, h55, by have := HO.out; simpa using this, by exact hbr.trans (HB.out.mono (by rw [HBS.out]; exact Nat.le_refl _)), by have := HB.out.size; omega⟩
            case measure => simp [intOf]
          · injection hv with hv1 hv2 hv3
            subst hv1 hv3
            clear hv2
            have hone := putCsM_one l
            have hsl : (putCs l).length = n * 3 := by rw [putCs_len, Hn.out]
            have hcells : ∀ ad', A = some ad' → ∀ j u, (putCs l)[j]? = some u → wq.cell? (ad'.add j) = some u := fun ad' e j u hu => by
              obtain ⟨ad2, e2, _, hcc⟩ := (h.next hbr) (by intro e; rw [e] at hu; simp at hu)
              rw [e] at e2; injection e2 with e2; rw [e2]; exact hcc j u hu
            have hnil : A = none → n = 0 ∧ c = 0 := fun e => by have := hA e; omega
            have HS := Lib.hid hsl
            have HC := Lib.hid hcells
            clear hsl hcells
            have hfit : 0 + n ≤ c4 := by have := HT.out; omega
            go_wp2_with (at_builtin; refine wpList_append_fits_any _ rfl _ _ _ rfl bs 29 i0 3 Tryz.underlying22 i1 i3 g _ c4 _ rfl hown A n c (putCs l) rfl HS.out hnil HC.out hone hfit ?_; intro w5 hown5 hgrow5)
            have hbel5 := grown_below hown hgrow5 hbs
            have HO := Lib.hid hown5
            have HB := Lib.hid hbel5
            clear hown5 hbel5 hgrow5
            go_wp2_with fail
            go_roundw
            case rel => exact ⟨1, some ⟨g, 0, none⟩, c4, by omega, by go_num, by show _ = Value.slice _ n _; simp, htc, by have := HO.out; simpa using this, by exact hbr.trans (HB.out.mono (by rw [HBS.out]; exact Nat.le_refl _)), by have := HB.out.size; omega⟩
            case measure => simp [intOf]
        · have hown : wq.ownsRow bs 29 3 (.slice A4 n c4) n (putCs l) := hown
          rcases hown.2 with ⟨hv, hz⟩ | ⟨g, cap, cur, hv, hbg, hgg, hnc2, hcm, hcs, htk⟩
          · injection hv with hv1 hv2 hv3
            subst hv1 hv3
            have hn0 : n = 0 := by have := HT.out; omega
            have hm0 : m = 0 := by have := HT.out; omega
            have HN0 := Lib.hid hn0
            have HM0 := Lib.hid hm0
            clear hn0 hm0 hv2 hz
            go_wp2_with (at_builtin; refine wpList_spread rfl _ _ _ rfl elPtM rfl hown rfl (by exact h'.next hbr) ?_ ?c1 ?c2 ?c3 ?c4 ?c5; intro A5 c5 w5 hown5 hgrow5 hbel5)
            case c1 => rw [putCs_len, Hm.out]
            case c2 => exact putCsM_one _
            case c3 => have := HN0.out; have := HM0.out; have := HT.out; omega
            case c4 => unfold maxLen; omega
            have h55 : t ≤ c5 := by have := HN0.out; have := HM0.out; have := HT.out; omega
            have HO := Lib.hid hown5
            have HB := Lib.hid hbel5
            clear hown5 hbel5 hgrow5
            go_wp2_with fail
            go_roundw
            case rel => exact ⟨2, A5, c5, by omega, by go_num, by show _ = Value.slice _ t _; rw [← HT.out], h55, by have := HO.out; rw [HT.out] at this; show World.ownsRow _ _ _ _ (.slice _ t _) t (putCs (l ++ k)); rw [putCsM_app]; exact this, by exact hbr.trans (HB.out.mono (by rw [HBS.out]; exact Nat.le_refl _)), by have := HB.out.size; omega⟩
            case measure => simp [intOf]
          · injection hv with hv1 hv2 hv3
            subst hv1 hv3
            clear hv2
            have hone := putCsM_one k
            have hsl : (putCs k).length = m * 3 := by rw [putCs_len, Hm.out]
            have hcells : ∀ ad', B = some ad' → ∀ j u, (putCs k)[j]? = some u → wq.cell? (ad'.add j) = some u := fun ad' e j u hu => by
              obtain ⟨ad2, e2, _, hcc⟩ := (h'.next hbr) (by intro e; rw [e] at hu; simp at hu)
              rw [e] at e2; injection e2 with e2; rw [e2]; exact hcc j u hu
            have hnil : B = none → m = 0 ∧ c' = 0 := fun e => by have := hB e; omega
            have HS := Lib.hid hsl
            have HC := Lib.hid hcells
            clear hsl hcells
            have hfit : n + m ≤ c4 := by have := HT.out; omega
            go_wp2_with (at_builtin; refine wpList_append_fits_any _ rfl _ _ _ rfl bs 29 i0 3 Tryz.underlying22 i1 i3 g _ c4 _ rfl hown B m c' (putCs k) rfl HS.out hnil HC.out hone hfit ?_; intro w5 hown5 hgrow5)
            have hbel5 := grown_below hown hgrow5 hbs
            have HO := Lib.hid hown5
            have HB := Lib.hid hbel5
            clear hown5 hbel5 hgrow5
            go_wp2_with fail
            go_roundw
            case rel => exact ⟨2, some ⟨g, 0, none⟩, c4, by omega, by go_num, by show _ = Value.slice _ t _; rw [← HT.out], htc, by have := HO.out; rw [HT.out] at this; show World.ownsRow _ _ _ _ (.slice _ t _) t (putCs (l ++ k)); rw [putCsM_app]; exact this, by exact hbr.trans (HB.out.mono (by rw [HBS.out]; exact Nat.le_refl _)), by have := HB.out.size; omega⟩
            case measure => simp [intOf]
        · have hown : wq.ownsRow bs 29 3 (.slice A4 t c4) t (putCs (l ++ k)) := hown
          have HO := Lib.hid (Has.of_own hown)
          clear hown
          go_wp2_with fail
          go_ret
          exact RV.mk ⟨A4, c4, rfl, HO.out, hbr⟩
end Go.Proofs.YtdnlnkbnfiamiaaGreatDoor
