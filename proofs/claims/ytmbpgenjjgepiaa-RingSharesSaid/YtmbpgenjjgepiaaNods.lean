/- What the laws' helper sameNodes tells. Conditions: rows lie in their cells. -/
import Derived.Test.YtmbpgenjjgepiaaEqU64
import Derived.Test.YtmbpgenjjgepiaaOpen
namespace Go.Proofs.Ytmbpgenjjgepiaa
open Go.RowKit

theorem toList_eq {a b : ByteArray} (h : a.toList = b.toList) : a = b := by
  rw [Lib.toList_data, Lib.toList_data] at h
  cases a; cases b
  simp only [] at h
  rw [Array.toList_inj.1 h]

structure Nod where
  nm : ByteArray
  tk : List Nat
instance : Inhabited Nod := ⟨⟨⟨#[]⟩, []⟩⟩
theorem Nod.same {a b : Nod} : a = b ↔ a.nm = b.nm ∧ a.tk = b.tk := by cases a; cases b; simp
instance : DecidableEq Nod := fun a b => if h : a.nm = b.nm ∧ a.tk = b.tk then isTrue (Nod.same.2 h) else isFalse (fun e => h (Nod.same.1 e))

/-- a row of tokens: its address, its capacity, its numbers -/
structure Row where
  A : Option Addr
  c : Nat
  l : List Nat
instance : Inhabited Row := ⟨⟨none, 0, []⟩⟩
def Row.ok (w : World) (x : Row) : Prop := x.l.length ≤ x.c ∧ x.c ≤ maxLen ∧ (x.A = none → x.c = 0) ∧ Has w w.heap.size x.A (u64s x.l)
theorem Row.ok.next {w w' : World} {x : Row} (h : x.ok w) (hb : Below w.heap.size w w') : x.ok w' := ⟨h.1, h.2.1, h.2.2.1, h.2.2.2.next hb⟩
structure NodE where
  nm : ByteArray
  t : Row
instance : Inhabited NodE := ⟨⟨⟨#[]⟩, default⟩⟩
def NodE.x (e : NodE) : Nod := ⟨e.nm, e.t.l⟩
def nodC (e : NodE) : List Value := [.string e.nm, .slice e.t.A e.t.l.length e.t.c]
def nodCs (L : List NodE) : List Value := L.flatMap nodC
theorem nodCs_0 {l : List NodE} {k : Nat} (h : k < l.length) : (nodCs l)[k * 2]? = some (.string (at_ l k).nm) := flat_at (f := nodC) (C := 2) (fun _ => rfl) h (r := 0) (by decide)
theorem nodCs_1 {l : List NodE} {k : Nat} (h : k < l.length) : (nodCs l)[k * 2 + 1]? = some (.slice (at_ l k).t.A (at_ l k).t.l.length (at_ l k).t.c) := flat_at (f := nodC) (C := 2) (fun _ => rfl) h (r := 1) (by decide)

set_option maxRecDepth 1000000 in
set_option maxHeartbeats 4000000 in
theorem sameNode1_any (a b : ByteArray) (s t : Row) (w : World) (hs : s.ok w) (ht : t.ok w) :
    Calls Try.prog 37 #[.agg #[.string a, .slice s.A s.l.length s.c], .agg #[.string b, .slice t.A t.l.length t.c]] w (R1 (.bool (decide (a = b) && decide (s.l = t.l))) (Below w.heap.size w)) := by
  obtain ⟨A, c, l⟩ := s
  obtain ⟨B, d, m⟩ := t
  obtain ⟨h1, h2, h3, h4⟩ := hs
  obtain ⟨i1, i2, i3, i4⟩ := ht
  simp only [] at h1 h2 h3 h4 i1 i2 i3 i4 ⊢
  obtain ⟨w0, hw0⟩ : ∃ w0, (w.alloc (.cells #[.string a, .slice A l.length c] 34)).alloc (.cells #[.string b, .slice B m.length d] 34) = w0 := ⟨_, rfl⟩
  have hb0 : Below w.heap.size w w0 := by rw [← hw0]; exact ((Below.refl _ _).alloc (Nat.le_refl _) _).alloc (by simp) _
  have ka : Blk w0 w.heap.size 34 #[.string a, .slice A l.length c] := by rw [← hw0]; exact (Blk.new _ _ _).alloc _
  have kb : Blk w0 (w.heap.size + 1) 34 #[.string b, .slice B m.length d] := by rw [← hw0]; have := Blk.new (w.alloc (.cells #[.string a, .slice A l.length c] 34)) 34 #[.string b, .slice B m.length d]; simpa using this
  have H1 := Lib.hid (h4.next hb0)
  have H2 := Lib.hid (i4.next hb0)
  have HW := Lib.hid hw0; clear hw0
  have p0 : w0.cell? ⟨w.heap.size, 0, none⟩ = some (.string a) := ka.cell 0
  have p1 : w0.cell? ⟨w.heap.size, 1, none⟩ = some (.slice A l.length c) := ka.cell 1
  have q0 : w0.cell? ⟨w.heap.size + 1, 0, none⟩ = some (.string b) := kb.cell 0
  have q1 : w0.cell? ⟨w.heap.size + 1, 1, none⟩ = some (.slice B m.length d) := kb.cell 1
  by_cases hab : a = b
  · subst hab
    go_enter Try.func37, Try.ntmps37
    go_wp2_with fail
    rw [HW.out]
    refine (equalU64_any A B _ _ c d l m rfl rfl (by omega) (by omega) _ (by exact H1.out) (by exact H2.out)).mono ?_
    rintro e w3 ⟨rfl, n3, rfl⟩
    go_wp2_with fail
    go_ret
    exact R1.mk (bool_eq (by simp)) (below_drewN hb0 _)
  · have dab := Lib.hid (show decide (a = b) = false from decide_eq_false hab)
    have hab' : ¬ a.toList = b.toList := fun h => hab (toList_eq h)
    clear hab
    go_enter Try.func37, Try.ntmps37
    go_wp2_with fail
    go_ret
    exact R1.mk (bool_eq (by rw [dab.out]; rfl)) (by rw [HW.out]; exact hb0)

theorem two_allocs (w : World) (o p : Obj) : Below w.heap.size w ((w.alloc o).alloc p) := ((Below.refl _ _).alloc (Nat.le_refl _) _).alloc (by simp) _
theorem map_take_succ {E X : Type} [Inhabited E] {f : E → X} {L M : List E} {j : Nat} (h : (L.take j).map f = (M.take j).map f) (h1 : j < L.length) (h2 : j < M.length) (e : f (at_ L j) = f (at_ M j)) : (L.take (j + 1)).map f = (M.take (j + 1)).map f := by
  rw [take_at h1, take_at h2, List.map_append, List.map_append, h, List.map_cons, List.map_cons, e]
theorem map_ne {E X : Type} [Inhabited E] {f : E → X} {L M : List E} {j : Nat} (h1 : j < L.length) (h2 : j < M.length) (e : ¬ f (at_ L j) = f (at_ M j)) : ¬ L.map f = M.map f := by
  intro h
  apply e
  have := congrArg (fun l => l[j]?) h
  simp only [List.getElem?_map, get?_at h1, get?_at h2, Option.map_some] at this
  exact Option.some.inj this

set_option maxRecDepth 1000000 in
set_option maxHeartbeats 4000000 in
theorem equalNodes_any (A B : Option Addr) (n m c d : Nat) (L M : List NodE) (hn : L.length = n) (hm : M.length = m) (hl : n ≤ maxLen) (hk : m ≤ maxLen) (w : World) (h : Has w w.heap.size A (nodCs L)) (h' : Has w w.heap.size B (nodCs M))
    (hL : ∀ e ∈ L, e.t.ok w) (hM : ∀ e ∈ M, e.t.ok w) :
    Calls Try.prog 36 #[.slice A n c, .slice B m d, .func (.func 37) #[] #[]] w (R1 (.bool (decide (L.map NodE.x = M.map NodE.x))) (Below w.heap.size w)) := by
  unfold maxLen at hl hk
  by_cases hnm : n = m
  · subst hnm
    have Hn := Lib.hid hn; clear hn
    have Hm := Lib.hid hm; clear hm
    go_enter Try.func36, Try.ntmps36
    go_wp2_with fail
    go_loopw [17] (fun i wr => ∃ j : Nat, j ≤ n ∧ i = .int .i64 (j : Nat) ∧ Hid ((L.take j).map NodE.x = (M.take j).map NodE.x) ∧ Below w.heap.size w wr) (fun i _ => n - (intOf i).toNat)
    case atStart => exact ⟨0, by omega, rfl, Lib.hid rfl, Below.refl _ _⟩
    case round =>
      obtain ⟨j, hj, rfl, heq, hb⟩ := hrel
      by_cases hlt : (j : Int) < (n : Int)
      · have l1 := Lib.hid (show j < L.length by rw [Hn.out]; omega)
        have l2 := Lib.hid (show j < M.length by rw [Hm.out]; omega)
        obtain ⟨ad, rfl, _, c0⟩ := (h.below hb).at (nodCs_0 l1.out)
        obtain ⟨ad', e, _, c1⟩ := (h.below hb).at (nodCs_1 l1.out)
        injection e with e
        subst e
        obtain ⟨bd, rfl, hbd, d0⟩ := (h'.below hb).at (nodCs_0 l2.out)
        obtain ⟨bd', e, _, d1⟩ := (h'.below hb).at (nodCs_1 l2.out)
        injection e with e
        subst e
        have c1 := cell_off c1 (by decide)
        have d1 := cell_off d1 (by decide)
        have K1 := Lib.hid ((hL _ (at_mem l1.out)).next hb)
        have K2 := Lib.hid ((hM _ (at_mem l2.out)).next hb)
        obtain ⟨p, hp⟩ : ∃ p, at_ L j = p := ⟨_, rfl⟩
        obtain ⟨q, hq⟩ : ∃ q, at_ M j = q := ⟨_, rfl⟩
        have Hp := Lib.hid hp
        have Hq := Lib.hid hq
        rw [hp] at c0 c1 K1
        rw [hq] at d0 d1 K2
        clear hp hq
        obtain ⟨a, s⟩ := p
        obtain ⟨b, t⟩ := q
        simp only [] at c0 c1 d0 d1
        have hbd' : bd.block < wr.heap.size := Nat.lt_of_lt_of_le hbd hb.size
        have d0' : ∀ o, (wr.alloc o).cell? (bd.add (j * 2)) = some (.string b) := fun o => by rw [World.cell?_alloc_lt _ _ _ (by rw [add_block]; exact hbd')]; exact d0
        have d1' : ∀ o, (wr.alloc o).cell? ⟨(bd.add (j * 2)).block, (bd.add (j * 2)).off + 1, none⟩ = some (.slice t.A t.l.length t.c) := fun o => by rw [World.cell?_alloc_lt _ _ _ (by rw [add_block]; exact hbd')]; exact d1
        by_cases e : (⟨a, s.l⟩ : Nod) = ⟨b, t.l⟩
        · have ee := Lib.hid (show (decide (a = b) && decide (s.l = t.l)) = true by obtain ⟨e1, e2⟩ := Nod.same.1 e; rw [decide_eq_true e1, decide_eq_true e2]; rfl)
          have E := Lib.hid e; clear e
          go_wp2_with fail
          refine (sameNode1_any a b s t _ ?k1 ?k2).mono ?_
          case k1 => exact K1.out.next (two_allocs _ _ _)
          case k2 => exact K2.out.next (two_allocs _ _ _)
          rw [ee.out]
          rintro e w3 ⟨rfl, hb3⟩
          go_wp2_with fail
          go_roundw
          case rel => exact ⟨j + 1, by omega, by go_num, Lib.hid (map_take_succ heq.out l1.out l2.out (by rw [Hp.out, Hq.out]; exact E.out)), (hb.trans ((two_allocs _ _ _).mono hb.size)).trans (hb3.mono (by have := hb.size; simp; omega))⟩
          case measure => simp [intOf]; omega
        · have ee := Lib.hid (show (decide (a = b) && decide (s.l = t.l)) = false by
            rw [Bool.eq_false_iff]; intro h1; simp only [Bool.and_eq_true, decide_eq_true_eq] at h1; exact e (Nod.same.2 h1))
          have E := Lib.hid (map_ne (f := NodE.x) l1.out l2.out (by rw [Hp.out, Hq.out]; exact e)); clear e
          go_wp2_with fail
          refine (sameNode1_any a b s t _ ?k1 ?k2).mono ?_
          case k1 => exact K1.out.next (two_allocs _ _ _)
          case k2 => exact K2.out.next (two_allocs _ _ _)
          rw [ee.out]
          rintro e w3 ⟨rfl, hb3⟩
          go_wp2_with fail
          go_ret
          exact R1.mk (bool_eq (by rw [eq_comm, decide_eq_false_iff_not]; exact E.out)) ((hb.trans ((two_allocs _ _ _).mono hb.size)).trans (hb3.mono (by have := hb.size; simp; omega)))
      · go_wp2_with fail
        go_ret
        exact R1.mk (bool_eq (by rw [eq_comm, decide_eq_true_iff]; have := heq.out; rwa [List.take_of_length_le (by rw [Hn.out]; omega), List.take_of_length_le (by rw [Hm.out]; omega)] at this)) hb
  · have f0 : ((n : Int) != (m : Int)) = true := by rw [bne_iff_ne]; omega
    have E := Lib.hid hnm; clear hnm
    go_enter Try.func36, Try.ntmps36
    go_wp2_with fail
    go_ret
    exact R1.mk (bool_eq (by rw [eq_comm, decide_eq_false_iff_not]; intro h1; apply E.out; rw [← hn, ← hm]; simpa using congrArg List.length h1)) (Below.refl _ _)

set_option maxRecDepth 1000000 in
theorem sameNodes_any (A B : Option Addr) (n m c d : Nat) (L M : List NodE) (hn : L.length = n) (hm : M.length = m) (hl : n ≤ maxLen) (hk : m ≤ maxLen) (w : World) (h : Has w w.heap.size A (nodCs L)) (h' : Has w w.heap.size B (nodCs M))
    (hL : ∀ e ∈ L, e.t.ok w) (hM : ∀ e ∈ M, e.t.ok w) :
    Calls Try.prog 22 #[.slice A n c, .slice B m d] w (R1 (.bool (decide (L.map NodE.x = M.map NodE.x))) (Below w.heap.size w)) := by
  obtain ⟨r, hr⟩ : ∃ r, decide (L.map NodE.x = M.map NodE.x) = r := ⟨_, rfl⟩
  have step := equalNodes_any A B n m c d L M hn hm hl hk w h h' hL hM
  rw [hr] at step ⊢
  have Step := Lib.hid step; clear step hr
  go_enter Try.func22, Try.ntmps22
  go_wp2_with fail
  refine Step.out.mono ?_
  rintro e w1 ⟨rfl, hb1⟩
  go_wp2_with fail
  go_ret
  exact R1.mk rfl hb1

theorem has_new (w : World) (cs : Array Value) (e : TypeId) {g : Nat} (hg : g = w.heap.size) : Has (w.alloc (.cells cs e)) (w.alloc (.cells cs e)).heap.size (some ⟨g, 0, none⟩) cs.toList := by subst hg; exact Has.fresh w cs e
theorem one_alloc (w : World) (o : Obj) : Below w.heap.size w (w.alloc o) := (Below.refl _ _).alloc (Nat.le_refl _) _
theorem four_allocs (w : World) (o p q r : Obj) : Below w.heap.size w ((((w.alloc o).alloc p).alloc q).alloc r) := bnext (two_allocs w o p) (two_allocs _ q r)
end Go.Proofs.Ytmbpgenjjgepiaa
