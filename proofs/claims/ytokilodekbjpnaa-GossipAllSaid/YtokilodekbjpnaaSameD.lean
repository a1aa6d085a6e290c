/- What the laws' helper sameClaims tells. Conditions: rows lie in their cells. -/
import Derived.Test.YtokilodekbjpnaaSameC
namespace Go.Proofs.Ytokilodekbjpnaa
open Go.RowKit

theorem clCs_0 {l : List ClE} {k : Nat} (h : k < l.length) : (clCs l)[k * 4]? = some (.int .i64 (at_ l k).v) := flat_at (f := clC) (C := 4) (fun _ => rfl) h (r := 0) (by decide)
theorem clCs_1 {l : List ClE} {k : Nat} (h : k < l.length) : (clCs l)[k * 4 + 1]? = some (.int .i64 (at_ l k).s) := flat_at (f := clC) (C := 4) (fun _ => rfl) h (r := 1) (by decide)
theorem clCs_2 {l : List ClE} {k : Nat} (h : k < l.length) : (clCs l)[k * 4 + 2]? = some (.string (at_ l k).nm) := flat_at (f := clC) (C := 4) (fun _ => rfl) h (r := 2) (by decide)
theorem clCs_3 {l : List ClE} {k : Nat} (h : k < l.length) : (clCs l)[k * 4 + 3]? = some (.slice (at_ l k).t.A (at_ l k).t.l.length (at_ l k).t.c) := flat_at (f := clC) (C := 4) (fun _ => rfl) h (r := 3) (by decide)

set_option maxRecDepth 1000000 in
set_option maxHeartbeats 4000000 in
theorem equalClaims_any (A B : Option Addr) (n m c d : Nat) (L M : List ClE) (hn : L.length = n) (hm : M.length = m) (hl : n ≤ maxLen) (hk : m ≤ maxLen) (w : World) (h : Has w w.heap.size A (clCs L)) (h' : Has w w.heap.size B (clCs M))
    (hL : ∀ e ∈ L, e.t.ok w) (hM : ∀ e ∈ M, e.t.ok w) :
    Calls Try.prog 50 #[.slice A n c, .slice B m d, .func (.func 51) #[] #[]] w (R1 (.bool (decide (L.map ClE.x = M.map ClE.x))) (Below w.heap.size w)) := by
  unfold maxLen at hl hk
  by_cases hnm : n = m
  · subst hnm
    have Hn := Lib.hid hn; clear hn
    have Hm := Lib.hid hm; clear hm
    go_enter Try.func50, Try.ntmps50
    go_wp2_with fail
    go_loopw [17] (fun i wr => ∃ j : Nat, j ≤ n ∧ i = .int .i64 (j : Nat) ∧ Hid ((L.take j).map ClE.x = (M.take j).map ClE.x) ∧ Below w.heap.size w wr) (fun i _ => n - (intOf i).toNat)
    case atStart => exact ⟨0, by omega, rfl, Lib.hid rfl, Below.refl _ _⟩
    case round =>
      obtain ⟨j, hj, rfl, heq, hb⟩ := hrel
      by_cases hlt : (j : Int) < (n : Int)
      · have l1 := Lib.hid (show j < L.length by rw [Hn.out]; omega)
        have l2 := Lib.hid (show j < M.length by rw [Hm.out]; omega)
        obtain ⟨ad, rfl, had, c0⟩ := (h.below hb).at (clCs_0 l1.out)
        obtain ⟨ad', e, _, c1⟩ := (h.below hb).at (clCs_1 l1.out)
        injection e with e
        subst e
        obtain ⟨ad', e, _, c2⟩ := (h.below hb).at (clCs_2 l1.out)
        injection e with e
        subst e
        obtain ⟨ad', e, _, c3⟩ := (h.below hb).at (clCs_3 l1.out)
        injection e with e
        subst e
        have c1 := cell_off c1 (by decide)
        have c2 := cell_off c2 (by decide)
        have c3 := cell_off c3 (by decide)
        obtain ⟨bd, rfl, hbd, d0⟩ := (h'.below hb).at (clCs_0 l2.out)
        obtain ⟨bd', e, _, d1⟩ := (h'.below hb).at (clCs_1 l2.out)
        injection e with e
        subst e
        obtain ⟨bd', e, _, d2⟩ := (h'.below hb).at (clCs_2 l2.out)
        injection e with e
        subst e
        obtain ⟨bd', e, _, d3⟩ := (h'.below hb).at (clCs_3 l2.out)
        injection e with e
        subst e
        have d1 := cell_off d1 (by decide)
        have d2 := cell_off d2 (by decide)
        have d3 := cell_off d3 (by decide)
        have K1 := Lib.hid ((hL _ (at_mem l1.out)).next hb)
        have K2 := Lib.hid ((hM _ (at_mem l2.out)).next hb)
        obtain ⟨p, hp⟩ : ∃ p, at_ L j = p := ⟨_, rfl⟩
        obtain ⟨q, hq⟩ : ∃ q, at_ M j = q := ⟨_, rfl⟩
        have Hp := Lib.hid hp
        have Hq := Lib.hid hq
        rw [hp] at c0 c1 c2 c3 K1
        rw [hq] at d0 d1 d2 d3 K2
        clear hp hq
        obtain ⟨v, s, a, x⟩ := p
        obtain ⟨v', s', b, y⟩ := q
        simp only [] at c0 c1 c2 c3 d0 d1 d2 d3
        have hbd' : bd.block < wr.heap.size := Nat.lt_of_lt_of_le hbd hb.size
        have d0' : ∀ o, (wr.alloc o).cell? (bd.add (j * 4)) = some (.int .i64 v') := fun o => by rw [World.cell?_alloc_lt _ _ _ (by rw [add_block]; exact hbd')]; exact d0
        have d1' : ∀ o, (wr.alloc o).cell? ⟨(bd.add (j * 4)).block, (bd.add (j * 4)).off + 1, none⟩ = some (.int .i64 s') := fun o => by rw [World.cell?_alloc_lt _ _ _ (by rw [add_block]; exact hbd')]; exact d1
        have d2' : ∀ o, (wr.alloc o).cell? ⟨(bd.add (j * 4)).block, (bd.add (j * 4)).off + 2, none⟩ = some (.string b) := fun o => by rw [World.cell?_alloc_lt _ _ _ (by rw [add_block]; exact hbd')]; exact d2
        have d3' : ∀ o, (wr.alloc o).cell? ⟨(bd.add (j * 4)).block, (bd.add (j * 4)).off + 3, none⟩ = some (.slice y.A y.l.length y.c) := fun o => by rw [World.cell?_alloc_lt _ _ _ (by rw [add_block]; exact hbd')]; exact d3
        by_cases e : (⟨v, s, a, x.l⟩ : Clm) = ⟨v', s', b, y.l⟩
        · have ee := Lib.hid (show decide ((⟨v, s, a, x.l⟩ : Clm) = ⟨v', s', b, y.l⟩) = true from decide_eq_true e)
          have E := Lib.hid e; clear e
          go_wp2_with fail
          refine (sameClaim1_any v s a x v' s' b y _ ?k1 ?k2).mono ?_
          case k1 => exact K1.out.next (two_allocs _ _ _)
          case k2 => exact K2.out.next (two_allocs _ _ _)
          rw [ee.out]
          rintro e w3 ⟨rfl, hb3⟩
          go_wp2_with fail
          go_roundw
          case rel => exact ⟨j + 1, by omega, by go_num, Lib.hid (map_take_succ heq.out l1.out l2.out (by rw [Hp.out, Hq.out]; exact E.out)), (hb.trans ((two_allocs _ _ _).mono hb.size)).trans (hb3.mono (by have := hb.size; simp; omega))⟩
          case measure => simp [intOf]; omega
        · have ee := Lib.hid (show decide ((⟨v, s, a, x.l⟩ : Clm) = ⟨v', s', b, y.l⟩) = false from decide_eq_false e)
          have E := Lib.hid (map_ne (f := ClE.x) l1.out l2.out (by rw [Hp.out, Hq.out]; exact e)); clear e
          go_wp2_with fail
          refine (sameClaim1_any v s a x v' s' b y _ ?k1 ?k2).mono ?_
          case k1 => exact K1.out.next (two_allocs _ _ _)
          case k2 => exact K2.out.next (two_allocs _ _ _)
          rw [ee.out]
          rintro e w3 ⟨rfl, hb3⟩
          go_wp2_with fail
          go_ret
          exact R1.mk (bool_eq (by rw [eq_comm, decide_eq_false_iff_not]; exact E.out)) ((hb.trans ((two_allocs _ _ _).mono hb.size)).trans (hb3.mono (by have := hb.size; simp; omega)))
      · go_wp2_with fail
        go_ret
        exact R1.mk (bool_eq (by rw [eq_comm, decide_eq_true_iff]; have := heq.out; rwa [List.take_of_length_le (by rw [Hn.out]; omega), List.take_of_length_le (by rw [Hm.out]; omega)] at this)) hb
  · have f0 : ((n : Int) != (m : Int)) = true := by rw [bne_iff_ne]; omega
    have E := Lib.hid hnm; clear hnm
    go_enter Try.func50, Try.ntmps50
    go_wp2_with fail
    go_ret
    exact R1.mk (bool_eq (by rw [eq_comm, decide_eq_false_iff_not]; intro h1; apply E.out; rw [← hn, ← hm]; simpa using congrArg List.length h1)) (Below.refl _ _)

set_option maxRecDepth 1000000 in
theorem sameClaims_any (A B : Option Addr) (n m c d : Nat) (L M : List ClE) (hn : L.length = n) (hm : M.length = m) (hl : n ≤ maxLen) (hk : m ≤ maxLen) (w : World) (h : Has w w.heap.size A (clCs L)) (h' : Has w w.heap.size B (clCs M))
    (hL : ∀ e ∈ L, e.t.ok w) (hM : ∀ e ∈ M, e.t.ok w) :
    Calls Try.prog 19 #[.slice A n c, .slice B m d] w (R1 (.bool (decide (L.map ClE.x = M.map ClE.x))) (Below w.heap.size w)) := by
  obtain ⟨r, hr⟩ : ∃ r, decide (L.map ClE.x = M.map ClE.x) = r := ⟨_, rfl⟩
  have step := equalClaims_any A B n m c d L M hn hm hl hk w h h' hL hM
  rw [hr] at step ⊢
  have Step := Lib.hid step; clear step hr
  go_enter Try.func19, Try.ntmps19
  go_wp2_with fail
  refine Step.out.mono ?_
  rintro e w1 ⟨rfl, hb1⟩
  go_wp2_with fail
  go_ret
  exact R1.mk rfl hb1
end Go.Proofs.Ytokilodekbjpnaa
