/- What Pull of package bits computes. Conditions: bytes are bytes, at most 2 to the 47th; numbers fit their kinds. -/
import Derived.Test.YtkcfhfplppdnnaaDoorReader
namespace Go.Proofs.YtkcfhfplppdnnaaDoor
open Go.RowKit

/-- the answer and the error -/
def pullN (l : List Nat) (N p n : Int) : Nat × Int :=
  if chkB l N ≠ 0 then (0, 4) else if n < 0 ∨ 64 < n ∨ p < 0 then (0, 1) else if N - n < p then (0, 3) else (pullUp l p.toNat n.toNat, 0)
def R2e (x : Nat × Int) : Value := .tuple #[.int .u64 (x.1 : Nat), .int .i64 x.2]
theorem R2e.of {a b : Int} {x : Nat × Int} (ha : a = (x.1 : Nat)) (hb : b = x.2) : Value.tuple #[.int .u64 a, .int .i64 b] = R2e x := by rw [ha, hb]; rfl
theorem chkB_or (l : List Nat) (N : Int) : chkB l N = 0 ∨ chkB l N = 4 := by unfold chkB; split <;> simp
theorem chkB_ok {l : List Nat} {N : Int} (h : chkB l N = 0) : 0 ≤ N ∧ BOk l N.toNat := by
  unfold chkB at h
  split at h
  · assumption
  · simp at h

set_option maxRecDepth 1000000 in
set_option maxHeartbeats 2000000 in
theorem pull_any (A : Option Addr) (c : Nat) (l : List Nat) (N p n : Int) (hN : N ≤ 9223372036854775807) (hp : -9223372036854775808 ≤ p ∧ p ≤ 9223372036854775807) (hn : -9223372036854775808 ≤ n ∧ n ≤ 9223372036854775807) (hl : l.length ≤ 140737488355328) (hb : Bytes l) (w : World) (h : Has w w.heap.size A (u8s l)) :
    Calls Tryd.prog 22 #[.agg #[.slice A l.length c, .int .i64 N], .int .i64 p, .int .i64 n] w (R1 (R2e (pullN l N p n)) (Below w.heap.size w)) := by
  have hbx : Below w.heap.size w (w.alloc (.cells #[.slice A l.length c, .int .i64 N] 26)) := (Below.refl _ _).alloc (Nat.le_refl _) _
  rcases chkB_or l N with hk | hk
  · have Hk := Lib.hid hk
    obtain ⟨hN0, hBO⟩ := chkB_ok hk
    clear hk
    by_cases h1 : n < 0 ∨ 64 < n ∨ p < 0
    · have E := Lib.hid (show pullN l N p n = (0, 1) by unfold pullN; rw [if_neg (by rw [Hk.out]; simp), if_pos h1])
      rw [E.out]
      rcases (show n < 0 ∨ (0 ≤ n ∧ 64 < n) ∨ (0 ≤ n ∧ n ≤ 64 ∧ p < 0) by omega) with h2 | ⟨h2, h3⟩ | ⟨h2, h3, h4⟩
      all_goals
        clear h1
        go_enter Tryd.func22, Tryd.ntmps22
        go_wp2_with fail
        refine (bcheck_any A c l N hN hl _ (h.next hbx)).mono ?_
        rintro e w1 ⟨rfl, hb1⟩
        rw [Hk.out]
        go_wp2_with fail
        go_ret2
        exact R1.mk rfl (bnext hbx hb1)
    · obtain ⟨k, rfl⟩ := Int.eq_ofNat_of_zero_le (show 0 ≤ n by omega)
      obtain ⟨q, rfl⟩ := Int.eq_ofNat_of_zero_le (show 0 ≤ p by omega)
      obtain ⟨m, rfl⟩ := Int.eq_ofNat_of_zero_le hN0
      have q1 : (0 : Int) ≤ (k : Int) := by omega
      have q2 : (k : Int) ≤ 64 := by omega
      have q3 : (0 : Int) ≤ (q : Int) := by omega
      by_cases h2 : (m : Int) - (k : Int) < (q : Int)
      · have E := Lib.hid (show pullN l m q k = (0, 3) by unfold pullN; rw [if_neg (by rw [Hk.out]; simp), if_neg h1, if_pos h2])
        rw [E.out]
        clear h1
        go_enter Tryd.func22, Tryd.ntmps22
        go_wp2_with fail
        refine (bcheck_any A c l m hN hl _ (h.next hbx)).mono ?_
        rintro e w1 ⟨rfl, hb1⟩
        have hc1 : w1.cell? ⟨w.heap.size, 1, none⟩ = some (.int .i64 (m : Nat)) := (Blk.next (Blk.new w _ _) hb1).cell 1
        rw [Hk.out]
        go_wp2_with fail
        go_ret2
        exact R1.mk rfl (bnext hbx hb1)
      · have E := Lib.hid (show pullN l m q k = (pullUp l q k, 0) by unfold pullN; rw [if_neg (by rw [Hk.out]; simp), if_neg h1, if_neg h2]; rfl)
        rw [E.out]
        have h2' : (q : Int) ≤ (m : Int) - (k : Int) := by omega
        clear h1 h2
        go_enter Tryd.func22, Tryd.ntmps22
        go_wp2_with fail
        refine (bcheck_any A c l m hN hl _ (h.next hbx)).mono ?_
        rintro e w1 ⟨rfl, hb1⟩
        have hbk := Blk.next (Blk.new w 26 #[.slice A l.length c, .int .i64 (m : Nat)]) hb1
        have hc0 : w1.cell? ⟨w.heap.size, 0, none⟩ = some (.slice A l.length c) := hbk.cell 0
        have hc1 : w1.cell? ⟨w.heap.size, 1, none⟩ = some (.int .i64 (m : Nat)) := hbk.cell 1
        rw [Hk.out]
        go_wp2_with fail
        have hb2 := bnext hbx hb1
        have hqm : q + k ≤ m := by omega
        refine (rtake_any A c l m q false k (by omega) w1.heap.size hBO.1 (by omega) hl hb _ ((h.next hb2).alloc (Nat.le_refl _) _) (Blk.new w1 _ _)).mono ?_
        rintro e w3 ⟨v, rfl, hv, hB3, ho3⟩
        rw [if_pos hqm] at hv
        subst hv
        go_wp2_with fail
        go_ret2
        exact R1.mk rfl (bnext hb2 (((Below.refl _ _).alloc (Nat.le_refl _) _).trans (ho3.below (by simp) (Nat.le_refl _))))
  · have Hk := Lib.hid hk
    have E := Lib.hid (show pullN l N p n = (0, 4) by unfold pullN; rw [if_pos (by rw [hk]; simp)])
    clear hk
    rw [E.out]
    go_enter Tryd.func22, Tryd.ntmps22
    go_wp2_with fail
    refine (bcheck_any A c l N hN hl _ (h.next hbx)).mono ?_
    rintro e w1 ⟨rfl, hb1⟩
    rw [Hk.out]
    go_wp2_with fail
    go_ret2
    exact R1.mk rfl (bnext hbx hb1)
end Go.Proofs.YtkcfhfplppdnnaaDoor
