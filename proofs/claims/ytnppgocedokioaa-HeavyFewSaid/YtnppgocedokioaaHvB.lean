/- What Check of package heavy tells of a tally that is as the document wants it. Conditions: rows lie in their cells. -/
import Derived.Test.YtnppgocedokioaaHvA
namespace Go.Proofs.Ytnppgocedokioaa
open Go.RowKit

theorem sumH_app (l m : List Cn) : sumH (l ++ m) = sumH l + sumH m := by
  induction l with
  | nil => show _ = 0 + _; rw [List.nil_append]; omega
  | cons c l ih => show c.n + sumH (l ++ m) = c.n + sumH l + sumH m; rw [ih]; omega
theorem sumH_take {l : List Cn} (h : ∀ c ∈ l, 0 < c.n) (k : Nat) : 0 ≤ sumH (l.take k) ∧ sumH (l.take k) ≤ sumH l := by
  have h1 := sumH_nonneg (l := l.take k) (fun c hc => h c (List.mem_of_mem_take hc))
  have h2 := sumH_nonneg (l := l.drop k) (fun c hc => h c (List.mem_of_mem_drop hc))
  have h3 := sumH_app (l.take k) (l.drop k)
  rw [List.take_append_drop] at h3
  omega
theorem sumH_step {l : List Cn} {k : Nat} (h : k < l.length) : sumH (l.take (k + 1)) = sumH (l.take k) + (at_ l k).n := by
  rw [take_at h, sumH_app]
  show _ + ((at_ l k).n + 0) = _
  omega

set_option maxRecDepth 1000000 in
set_option maxHeartbeats 8000000 in
theorem hcheck_any (K N Off : Int) (A : Option Addr) (n c : Nat) (L : List Cn) (hn : L.length = n) (hok : OkHv ⟨K, L, N, Off⟩) (w : World) (h : Has w w.heap.size A (cnCs L)) :
    Calls Try.prog 14 #[.agg #[.int .i64 K, .slice A n c, .int .i64 N, .int .i64 Off]] w (R1 (.int .i64 0) (Below w.heap.size w)) := by
  obtain ⟨m1, m2, m3, m4, m5, m6⟩ := hok.more
  simp only [] at m1 m2 m3 m4 m5 m6
  have k1 : 1 ≤ K := hok.k1
  have k2 : K ≤ 64 := hok.k2
  have k3 : (n : Int) ≤ K := by rw [← hn]; exact hok.len
  have k4 : 0 ≤ N := hok.n0
  have k5 : N ≤ 1000000000 := hok.n1
  have k6 : 0 ≤ Off := hok.off
  have hsum : (K + 1) * Off + sumH L ≤ N := hok.sum
  obtain ⟨P, hP⟩ : ∃ P, (K + 1) * Off = P := ⟨_, rfl⟩
  rw [hP] at m5 m6 hsum
  have hPw : IntKind.i64.wrap ((K + 1) * Off) = P := by rw [hP]; exact IntWalk.i64_in _ (by omega)
  have HO := Lib.hid hok
  have HM := Lib.hid m2
  have Hn := Lib.hid hn
  have HP := Lib.hid hP
  clear hok m2 hn hP
  obtain ⟨S, hS⟩ : ∃ S, sumH L = S := ⟨_, rfl⟩
  rw [hS] at m3 m4 hsum
  have HS := Lib.hid hS
  clear hS
  have hb1 := one_alloc w (.cells #[.int .i64 K, .slice A n c, .int .i64 N, .int .i64 Off] 26)
  have hk1 : Blk (w.alloc (.cells #[.int .i64 K, .slice A n c, .int .i64 N, .int .i64 Off] 26)) w.heap.size 26 #[.int .i64 K, .slice A n c, .int .i64 N, .int .i64 Off] := Blk.new _ _ _
  have g1 : decide (1 ≤ K) = true := decide_eq_true (by omega)
  have g2 : decide (K ≤ 64) = true := decide_eq_true (by omega)
  have g3 : decide ((n : Int) ≤ K) = true := decide_eq_true (by omega)
  have g4 : decide (0 ≤ N) = true := decide_eq_true (by omega)
  have g5 : decide (N ≤ 1000000000) = true := decide_eq_true (by omega)
  have g6 : decide (0 ≤ Off) = true := decide_eq_true (by omega)
  have g7 : decide (Off ≤ N) = true := decide_eq_true (by omega)
  go_enter Try.func14, Try.ntmps14
  go_wp2_with fail
  go_loopw [3, 4, 48] (fun ok sm i wr => ∃ (k : Nat), k ≤ n ∧ i = .int .i64 (k : Nat) ∧ ok = .bool true ∧ sm = .int .i64 (sumH (L.take k)) ∧ Below w.heap.size w wr ∧ Blk wr w.heap.size 26 #[.int .i64 K, .slice A n c, .int .i64 N, .int .i64 Off]) (fun _ _ i _ => n + 5 - (intOf i).toNat)
  case atStart => exact ⟨0, by omega, rfl, rfl, rfl, hb1, hk1⟩
  case round =>
    clear hb1 hk1
    obtain ⟨k, hk, rfl, rfl, rfl, hbr, hkr⟩ := hrel
    have hbs := hbr.size
    have y0 : wr.cell? ⟨w.heap.size, 0, none⟩ = some (.int .i64 K) := hkr.cell 0
    have y1 : wr.cell? ⟨w.heap.size, 1, none⟩ = some (.slice A n c) := hkr.cell 1
    have y2 : wr.cell? ⟨w.heap.size, 2, none⟩ = some (.int .i64 N) := hkr.cell 2
    have y3 : wr.cell? ⟨w.heap.size, 3, none⟩ = some (.int .i64 Off) := hkr.cell 3
    have hlt0 := hkr.lt
    have hst := sumH_take (l := L) (fun c hc => (HO.out.each c hc).2) k
    rw [HS.out] at hst
    by_cases hlt : (k : Int) < (n : Int)
    · have l1 := Lib.hid (show k < L.length by rw [Hn.out]; omega)
      have hst1 := sumH_take (l := L) (fun c hc => (HO.out.each c hc).2) (k + 1)
      rw [HS.out] at hst1
      have hstep := sumH_step l1.out
      obtain ⟨ad, rfl, had, c0, c1⟩ := (h.below hbr).cnAt l1.out
      have he := HO.out.each _ (at_mem l1.out)
      have hm := HM.out _ (at_mem l1.out)
      obtain ⟨s0, hs0⟩ : ∃ s0, sumH (L.take k) = s0 := ⟨_, rfl⟩
      obtain ⟨s1, hs1⟩ : ∃ s1, sumH (L.take (k + 1)) = s1 := ⟨_, rfl⟩
      rw [hs1] at hst1 hstep
      rw [hs0] at hst hstep
      rw [hs0]
      have Hs1 := Lib.hid hs1
      clear hs0 hs1
      by_cases hk0 : k = 0
      · subst hk0
        obtain ⟨y, hy⟩ : ∃ y, at_ L 0 = y := ⟨_, rfl⟩
        rw [hy] at c0 c1 he hm hstep
        clear hy
        obtain ⟨yk, yn⟩ := y
        simp only [] at c0 c1 he hm hstep
        have c0 : wr.cell? ad = some (.string yk) := by simpa [Addr.add] using c0
        have c1 : wr.cell? ⟨ad.block, ad.off + 1, none⟩ = some (.int .i64 yn) := by simpa [Addr.add] using c1
        have kg : Blk (wr.alloc (.cells #[.string yk, .int .i64 yn] 72)) wr.heap.size 72 #[.string yk, .int .i64 yn] := Blk.new _ _ _
        have z0 : (wr.alloc (.cells #[.string yk, .int .i64 yn] 72)).cell? ⟨wr.heap.size, 0, none⟩ = some (.string yk) := kg.cell 0
        have z1 : (wr.alloc (.cells #[.string yk, .int .i64 yn] 72)).cell? ⟨wr.heap.size, 1, none⟩ = some (.int .i64 yn) := kg.cell 1
        have hkA := hkr.alloc (.cells #[.string yk, .int .i64 yn] 72)
        have x2 : (wr.alloc (.cells #[.string yk, .int .i64 yn] 72)).cell? ⟨w.heap.size, 2, none⟩ = some (.int .i64 N) := hkA.cell 2
        have hbA := hbr.alloc hbs (.cells #[.string yk, .int .i64 yn] 72)
        have q1 : decide ((yk.size : Int) ≤ 40) = true := decide_eq_true (by omega)
        have q1' : decide (yk.size ≤ 40) = true := decide_eq_true (by omega)
        have q2 : decide (0 < yn) = true := decide_eq_true (by omega)
        have q3 : decide (yn ≤ N) = true := decide_eq_true (by omega)
        go_wp2_with fail
        go_quiet (fail)
        have hkD := hkA.drewN nq
        have hbD := below_drewN hbA nq
        have z1' : ((wr.alloc (.cells #[.string yk, .int .i64 yn] 72)).drewN nq).cell? ⟨wr.heap.size, 1, none⟩ = some (.int .i64 yn) := z1
        go_wp2_with fail
        go_roundw
        case rel => exact ⟨0 + 1, by omega, by first | rfl | go_num, rfl, int_eq (by rw [Hs1.out]; omega), hbD, hkD⟩
        case measure => simp [intOf]
      · obtain ⟨j, hj⟩ : ∃ j, k = j + 1 := ⟨k - 1, by omega⟩
        have l2 := Lib.hid (show j < L.length by have := l1.out; omega)
        obtain ⟨ad', e, _, d0, _⟩ := (h.below hbr).cnAt l2.out
        injection e with e
        subst e
        have hlt2 := at_RiseH HO.out.rise (show j < k by omega) l1.out
        simp only [] at hlt2
        have e1 : IntKind.i64.wrap ((k : Int) - 1) = (j : Int) := IntWalk.i64_in _ (by omega) |>.trans (by omega)
        have p1 : (0 : Int) ≤ (j : Int) := by omega
        have p2 : (j : Int) < (n : Int) := by omega
        have p3 : decide ((k : Int) = 0) = false := decide_eq_false (by omega)
        have p4 : decide (k = 0) = false := decide_eq_false (by omega)
        have p5 : ((k : Int) == 0) = false := by rw [beq_eq_false_iff_ne]; omega
        have Hj := Lib.hid hj; clear hj
        obtain ⟨y, hy⟩ : ∃ y, at_ L k = y := ⟨_, rfl⟩
        obtain ⟨pv, hpv⟩ : ∃ pv, (at_ L j).k = pv := ⟨_, rfl⟩
        rw [hy] at c0 c1 he hm hstep hlt2
        rw [hpv] at d0 hlt2
        clear hy hpv
        obtain ⟨yk, yn⟩ := y
        simp only [] at c0 c1 he hm hstep hlt2
        have o1 : Op.bytesLess pv.toList yk.toList = true := by rw [nlt_bytes, decide_eq_true hlt2]
        clear hlt2
        have d0 : (wr.alloc (.cells #[.string yk, .int .i64 yn] 72)).cell? (ad.add (j * 2)) = some (.string pv) := ((one_alloc wr _).cell (p := ad.add (j * 2)) (by rw [add_block]; omega)).trans d0
        have kg : Blk (wr.alloc (.cells #[.string yk, .int .i64 yn] 72)) wr.heap.size 72 #[.string yk, .int .i64 yn] := Blk.new _ _ _
        have z0 : (wr.alloc (.cells #[.string yk, .int .i64 yn] 72)).cell? ⟨wr.heap.size, 0, none⟩ = some (.string yk) := kg.cell 0
        have z1 : (wr.alloc (.cells #[.string yk, .int .i64 yn] 72)).cell? ⟨wr.heap.size, 1, none⟩ = some (.int .i64 yn) := kg.cell 1
        have hkA := hkr.alloc (.cells #[.string yk, .int .i64 yn] 72)
        have x1 : (wr.alloc (.cells #[.string yk, .int .i64 yn] 72)).cell? ⟨w.heap.size, 1, none⟩ = some (.slice (some ad) n c) := hkA.cell 1
        have x2 : (wr.alloc (.cells #[.string yk, .int .i64 yn] 72)).cell? ⟨w.heap.size, 2, none⟩ = some (.int .i64 N) := hkA.cell 2
        have hbA := hbr.alloc hbs (.cells #[.string yk, .int .i64 yn] 72)
        have q1 : decide ((yk.size : Int) ≤ 40) = true := decide_eq_true (by omega)
        have q1' : decide (yk.size ≤ 40) = true := decide_eq_true (by omega)
        have q2 : decide (0 < yn) = true := decide_eq_true (by omega)
        have q3 : decide (yn ≤ N) = true := decide_eq_true (by omega)
        go_wp2_with fail
        go_quiet (fail)
        have hkD := hkA.drewN nq
        have hbD := below_drewN hbA nq
        have z1' : ((wr.alloc (.cells #[.string yk, .int .i64 yn] 72)).drewN nq).cell? ⟨wr.heap.size, 1, none⟩ = some (.int .i64 yn) := z1
        go_wp2_with fail
        go_roundw
        case rel => exact ⟨k + 1, by omega, by go_num, rfl, int_eq (by rw [Hs1.out]; omega), hbD, hkD⟩
        case measure => simp [intOf]; omega
    · have hkn : k = n := by omega
      have e1 : sumH (L.take k) = S := by rw [List.take_of_length_le (by rw [Hn.out]; omega)]; exact HS.out
      rw [e1]
      have p1 : decide (N < P + S) = false := decide_eq_false (by omega)
      clear hst e1
      go_wp2_with fail
      go_ret
      exact R1.mk rfl hbr
end Go.Proofs.Ytnppgocedokioaa
