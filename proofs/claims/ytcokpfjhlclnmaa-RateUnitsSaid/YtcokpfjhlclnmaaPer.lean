/- What Per of package rate computes. Conditions: the arguments fit their kinds. -/
import Derived.Test.YtcokpfjhlclnmaaGrown
import Derived.Test.YtcokpfjhlclnmaaRange
import Derived.Test.YtcokpfjhlclnmaaMul
namespace Go.Proofs.Ytcokpfjhlclnmaa
open Go.RowKit

def timeB (t : Int) : Bool := decide (-1152921504606846976 ≤ t) && decide (t ≤ 1152921504606846976)
set_option maxRecDepth 1000000 in
set_option maxHeartbeats 400000 in
theorem time_any (t : Int) (w : World) : Calls Try.prog 63 #[.int .i64 t] w (R1 (.bool (timeB t)) (Drawn w)) := by
  by_cases h1 : -1152921504606846976 ≤ t
  · go_enter Try.func63, Try.ntmps63
    go_wp2
    go_ret
    exact R1.mk (bool_eq (by unfold timeB; simp; exact fun _ => h1)) (Drawn.refl _)
  · go_enter Try.func63, Try.ntmps63
    go_wp2
    go_ret
    exact R1.mk (bool_eq (by unfold timeB; simp; omega)) (Drawn.refl _)

def perBad (a b u : Int) : Bool := decide (b ≤ a) || !timeB a || !timeB b || decide (u < 1) || decide (1099511627776 < u)
def perIn (r : List Smp) (u : Int) : Int × Int :=
  if r.length < 2 then (0, 13) else
    let p := (grUp r (r.length - 1)).1 * u.toNat
    if 9223372036854775808 ≤ p then (0, 2) else ((p : Int) / ((at_ r (r.length - 1)).t - (at_ r 0).t), 0)
def perN (l : List Smp) (a b u : Int) : Int × Int :=
  if (grN l).2.2 ≠ 0 then (0, (grN l).2.2) else if perBad a b u then (0, 1) else perIn (rangeN l a b) u
def R2i (x : Int × Int) : Value := .tuple #[.int .i64 x.1, .int .i64 x.2]
theorem R2i.of {a b : Int} {x : Int × Int} (ha : a = x.1) (hb : b = x.2) : Value.tuple #[.int .i64 a, .int .i64 b] = R2i x := by rw [ha, hb]; rfl
theorem grN_err {l : List Smp} (h : (grN l).2.2 ≠ 0) : grN l = (0, 0, (grN l).2.2) := by
  unfold grN at *
  split
  · rfl
  · rename_i h1
    rw [if_neg h1] at h
    split
    · rename_i h2
      rw [if_pos h2] at h
      simp at h
    · rfl
theorem grN_fine {l : List Smp} (h : (grN l).2.2 = 0) : chkS l = 0 ∧ posS l = true := by
  unfold grN at h
  split at h
  · rename_i h1; exact absurd h h1
  · rename_i h1
    split at h
    · exact ⟨by simpa using h1, by assumption⟩
    · simp at h

set_option maxRecDepth 1000000 in
set_option maxHeartbeats 1000000 in
theorem per_err (A : Option Addr) (c : Nat) (l : List Smp) (hs : Smps l) (hl : l.length ≤ maxLen) (a b u z : Int) (f1 : (z != 0) = true) (HG : Hid (grN l = (0, 0, z))) (w : World) (h : Has w w.heap.size A (smpCs l)) :
    Calls Try.prog 38 #[.slice A l.length c, .int .i64 a, .int .i64 b, .int .i64 u] w (R1 (R2i (0, z)) (Below w.heap.size w)) := by
  go_enter Try.func38, Try.ntmps38
  go_wp2_with fail
  refine (grown_any A c l hs hl _ h).mono ?_
  rintro e w1 ⟨rfl, hb1⟩
  rw [HG.out, R3i]
  go_wp2_with fail
  go_ret2
  exact R1.mk rfl hb1

set_option maxRecDepth 1000000 in
set_option maxHeartbeats 4000000 in
theorem per_bad (A : Option Addr) (c : Nat) (l : List Smp) (hs : Smps l) (hl : l.length ≤ maxLen) (a b u : Int) (hg : (grN l).2.2 = 0) (hbad : perBad a b u = true) (w : World) (h : Has w w.heap.size A (smpCs l)) :
    Calls Try.prog 38 #[.slice A l.length c, .int .i64 a, .int .i64 b, .int .i64 u] w (R1 (R2i (0, 1)) (Below w.heap.size w)) := by
  rcases hx : grN l with ⟨x, y, z⟩
  rw [hx] at hg
  simp only at hg
  subst hg
  have HX := Lib.hid hx; clear hx
  unfold perBad at hbad
  rcases (show (b ≤ a) ∨ (a < b ∧ timeB a = false) ∨ (a < b ∧ timeB a = true ∧ timeB b = false) ∨ (a < b ∧ timeB a = true ∧ timeB b = true ∧ u < 1) ∨ (a < b ∧ timeB a = true ∧ timeB b = true ∧ 1 ≤ u ∧ 1099511627776 < u) by
    cases h1 : timeB a <;> cases h2 : timeB b <;> simp [h1, h2] at hbad <;> simp <;> omega) with k | ⟨k, k1⟩ | ⟨k, k1, k2⟩ | ⟨k, k1, k2, k3⟩ | ⟨k, k1, k2, k3, k4⟩
  all_goals clear hbad
  all_goals try have K1 := Lib.hid k1
  all_goals try have K2 := Lib.hid k2
  all_goals try clear k1
  all_goals try clear k2
  all_goals
    go_enter Try.func38, Try.ntmps38
    go_wp2_with fail
    refine (grown_any A c l hs hl _ h).mono ?_
    rintro e w1 ⟨rfl, hb1⟩
    rw [HX.out, R3i]
    go_wp2_with fail
  · go_ret2
    exact R1.mk rfl hb1
  all_goals
    refine (time_any a _).mono ?_
    rintro e w2 ⟨rfl, n2, rfl⟩
    rw [K1.out]
    go_wp2_with fail
  · go_ret2
    exact R1.mk rfl (below_drewN hb1 _)
  all_goals
    refine (time_any b _).mono ?_
    rintro e w2 ⟨rfl, n3, rfl⟩
    rw [K2.out]
    go_wp2_with fail
    go_ret2
    exact R1.mk rfl (below_drewN hb1 _)

theorem rangeN_mem {l : List Smp} {a b : Int} {s : Smp} (h : s ∈ rangeN l a b) : s ∈ l ∧ a ≤ s.t ∧ s.t < b := by
  unfold rangeN at h
  split at h
  · cases h
  · rw [List.mem_filter] at h
    have := h.2
    simp [inS] at this
    exact ⟨h.1, this⟩
theorem rangeN_pair {l : List Smp} (hk : chkS l = 0) (a b : Int) : (rangeN l a b).Pairwise (fun x y => x.t < y.t) := by
  have hord := (chkS_ok hk).2
  unfold rangeN
  rw [if_neg (by rw [hk]; simp)]
  refine List.Pairwise.filter _ ?_
  rw [List.pairwise_iff_getElem]
  intro i j hi hj hij
  have h1 := ord_mono hord (show i + 1 ≤ j by omega) hj
  have h2 := ordUp_step hord (show i < l.length - 1 by omega)
  rw [at_eq hj] at h1
  rw [at_eq hi] at h2
  omega
theorem ordUp_of {l : List Smp} (h : l.Pairwise (fun x y => x.t < y.t)) : ∀ k, k ≤ l.length - 1 → ordUp l k = true := by
  intro k
  induction k with
  | zero => intro _; rfl
  | succ k ih =>
    intro hk
    rw [List.pairwise_iff_getElem] at h
    have := h k (k + 1) (by omega) (by omega) (by omega)
    simp [ordUp, ih (by omega), at_eq (show k < l.length by omega), at_eq (show k + 1 < l.length by omega), this]
theorem rangeN_fine {l : List Smp} (hk : chkS l = 0) (hp : posS l = true) (a b : Int) : chkS (rangeN l a b) = 0 ∧ posS (rangeN l a b) = true := by
  have hlen : (rangeN l a b).length ≤ l.length := by
    unfold rangeN
    split
    · simp
    · exact List.length_filter_le _ _
  refine ⟨?_, ?_⟩
  · unfold chkS
    rw [if_neg (by have := (chkS_ok hk).1; omega), if_pos (ordUp_of (rangeN_pair hk a b) _ (Nat.le_refl _))]
  · unfold posS at *
    rw [List.all_eq_true] at *
    exact fun s hs => hp s (rangeN_mem hs).1

set_option maxRecDepth 1000000 in
set_option maxHeartbeats 4000000 in
theorem per_in (A : Option Addr) (c : Nat) (l : List Smp) (hs : Smps l) (hlc : l.length ≤ c) (hc : c ≤ maxLen) (a b u : Int) (hg : (grN l).2.2 = 0) (hbad : perBad a b u = false) (w : World) (h : Has w w.heap.size A (smpCs l)) :
    Calls Try.prog 38 #[.slice A l.length c, .int .i64 a, .int .i64 b, .int .i64 u] w (R1 (R2i (perIn (rangeN l a b) u)) (Below w.heap.size w)) := by
  have hl : l.length ≤ maxLen := by omega
  obtain ⟨hk0, hpos⟩ := grN_fine hg
  obtain ⟨hk1, hpos1⟩ := rangeN_fine hk0 hpos a b
  have hlr := (chkS_ok hk1).1
  rcases hx : grN l with ⟨x, y, z⟩
  rw [hx] at hg
  simp only at hg
  subst hg
  have HX := Lib.hid hx; clear hx
  unfold perBad at hbad
  simp only [Bool.or_eq_false_iff, decide_eq_false_iff_not, Bool.not_eq_false'] at hbad
  obtain ⟨⟨⟨⟨k, k1⟩, k2⟩, k3⟩, k4⟩ := hbad
  have ta : -1152921504606846976 ≤ a ∧ a ≤ 1152921504606846976 := by simpa [timeB] using k1
  have tb : -1152921504606846976 ≤ b ∧ b ≤ 1152921504606846976 := by simpa [timeB] using k2
  have k : a < b := by omega
  have k3 : 1 ≤ u := by omega
  have k4 : u ≤ 1099511627776 := by omega
  have K1 := Lib.hid k1; clear k1
  have K2 := Lib.hid k2; clear k2
  obtain ⟨r, hr⟩ : ∃ r, rangeN l a b = r := ⟨_, rfl⟩
  have hrs : Smps r := fun s hm => hs s (rangeN_mem (by rw [hr]; exact hm)).1
  have hmem : ∀ i, i < r.length → a ≤ (at_ r i).t ∧ (at_ r i).t < b := fun i hi => (rangeN_mem (show at_ r i ∈ rangeN l a b by rw [hr]; exact at_mem hi)).2
  have hpair := rangeN_pair hk0 a b
  rw [hr] at hk1 hpos1 hlr hpair
  have hG := grN_ok hk1 hpos1
  rw [hr]
  have HR := Lib.hid hr; clear hr
  have HK0 := Lib.hid hk0; clear hk0
  have HG := Lib.hid hG; clear hG hk1 hpos hpos1
  obtain ⟨U, rfl⟩ := Int.eq_ofNat_of_zero_le (show 0 ≤ u by omega)
  have HP := Lib.hid hpair; clear hpair
  have HM := Lib.hid hmem; clear hmem
  by_cases h2 : (r.length : Int) < 2
  · have E := Lib.hid (show perIn r U = (0, 13) by unfold perIn; rw [if_pos (by omega)])
    rw [E.out]
    go_enter Try.func38, Try.ntmps38
    go_wp2_with fail
    refine (grown_any A c l hs hl _ h).mono ?_
    rintro e w1 ⟨rfl, hb1⟩
    rw [HX.out, R3i]
    go_wp2_with fail
    refine (time_any a _).mono ?_
    rintro e w2 ⟨rfl, n2, rfl⟩
    rw [K1.out]
    go_wp2_with fail
    refine (time_any b _).mono ?_
    rintro e w2 ⟨rfl, n3, rfl⟩
    rw [K2.out]
    go_wp2_with fail
    refine (range_any A c l hlc hc a b _ (by exact h.next (below_drewN hb1 _))).mono ?_
    rintro e w3 ⟨v, rfl, A3, c3, rfl, hown3, hb3⟩
    have hb3 := bnext (below_drewN hb1 _) hb3
    rw [HR.out] at hown3 ⊢
    go_wp2_with fail
    go_ret2
    exact R1.mk rfl hb3
  have h2' : (2 : Int) ≤ (r.length : Int) := by omega
  have hlt := grUp_lt r (r.length - 1)
  rcases hxx : grUp r (r.length - 1) with ⟨X, Y⟩
  rw [hxx] at HG hlt
  simp only at hlt
  have m0 := HM.out 0 (by omega)
  have m1 := HM.out (r.length - 1) (by omega)
  have hd : (at_ r 0).t < (at_ r (r.length - 1)).t := by
    have := HP.out
    rw [List.pairwise_iff_getElem] at this
    have := this 0 (r.length - 1) (by omega) (by omega) (by omega)
    rwa [at_eq (show 0 < r.length by omega), at_eq (show r.length - 1 < r.length by omega)]
  have hUn : ((U : Int)).toNat = U := by omega
  have hprod : X * U < 18446744073709551616 * 1099511627777 := Nat.mul_lt_mul_of_lt_of_le hlt.1 (by omega) (by omega)
  have HX2 := Lib.hid hxx; clear hxx
  obtain ⟨P, hP⟩ : ∃ P, X * U = P := ⟨_, rfl⟩
  obtain ⟨hi, hhi⟩ : ∃ q, X * U / 18446744073709551616 = q := ⟨_, rfl⟩
  obtain ⟨lo, hlo⟩ : ∃ q, X * U % 18446744073709551616 = q := ⟨_, rfl⟩
  have EP : Hid (perIn r U = if 9223372036854775808 ≤ P then (0, 2) else ((P : Int) / ((at_ r (r.length - 1)).t - (at_ r 0).t), 0)) := Lib.hid (by
    unfold perIn
    rw [if_neg (by omega), HX2.out, hUn]
    simp only [hP])
  rw [hP] at hhi hlo hprod
  have hhl : 18446744073709551616 * hi + lo = P := by omega
  have hlo2 : lo < 18446744073709551616 := by omega
  have hhi : Hid (X * U / 18446744073709551616 = hi) := Lib.hid (by rw [hP]; exact hhi)
  have hlo : Hid (X * U % 18446744073709551616 = lo) := Lib.hid (by rw [hP]; exact hlo)
  clear hP
  rcases (show (0 < hi) ∨ (hi = 0 ∧ 9223372036854775808 ≤ P) ∨ (hi = 0 ∧ P < 9223372036854775808) by omega) with g1 | ⟨g1, g2⟩ | ⟨g1, g2⟩
  · have E := Lib.hid (EP.out.trans (if_pos (by omega)))
    have f1 : (0 : Int) < (hi : Int) := by omega
    have Hhl := Lib.hid hhl; clear hhl g1
    rw [E.out]
    go_enter Try.func38, Try.ntmps38
    go_wp2_with fail
    refine (grown_any A c l hs hl _ h).mono ?_
    rintro e w1 ⟨rfl, hb1⟩
    rw [HX.out, R3i]
    go_wp2_with fail
    refine (time_any a _).mono ?_
    rintro e w2 ⟨rfl, n2, rfl⟩
    rw [K1.out]
    go_wp2_with fail
    refine (time_any b _).mono ?_
    rintro e w2 ⟨rfl, n3, rfl⟩
    rw [K2.out]
    go_wp2_with fail
    refine (range_any A c l hlc hc a b _ (by exact h.next (below_drewN hb1 _))).mono ?_
    rintro e w3 ⟨v, rfl, A3, c3, rfl, hown3, hb3⟩
    have hb3 := bnext (below_drewN hb1 _) hb3
    rw [HR.out] at hown3 ⊢
    go_wp2_with fail
    refine (grown_any A3 c3 r hrs (by unfold maxLen; omega) _ (Has.of_own hown3)).mono ?_
    rintro e w4 ⟨rfl, hb4⟩
    rw [HG.out, R3i]
    have hown4 := own_next hown3 hb4
    have hb4 := bnext hb3 hb4
    go_wp2_with fail
    refine (Try.bits_Mul64 X U hlt.1 (by omega) _).mono ?_
    rintro e w5 ⟨rfl, rfl⟩
    rw [hhi.out, hlo.out]
    go_wp2_with fail
    go_ret2
    exact R1.mk rfl hb4
  · have E := Lib.hid (EP.out.trans (if_pos g2))
    have f1 : (hi : Int) ≤ 0 := by omega
    have f2 : ((lo : Int) / 9223372036854775808 == 1) = true := by rw [beq_iff_eq]; omega
    have Hhl := Lib.hid hhl; clear hhl g1 g2
    rw [E.out]
    go_enter Try.func38, Try.ntmps38
    go_wp2_with fail
    refine (grown_any A c l hs hl _ h).mono ?_
    rintro e w1 ⟨rfl, hb1⟩
    rw [HX.out, R3i]
    go_wp2_with fail
    refine (time_any a _).mono ?_
    rintro e w2 ⟨rfl, n2, rfl⟩
    rw [K1.out]
    go_wp2_with fail
    refine (time_any b _).mono ?_
    rintro e w2 ⟨rfl, n3, rfl⟩
    rw [K2.out]
    go_wp2_with fail
    refine (range_any A c l hlc hc a b _ (by exact h.next (below_drewN hb1 _))).mono ?_
    rintro e w3 ⟨v, rfl, A3, c3, rfl, hown3, hb3⟩
    have hb3 := bnext (below_drewN hb1 _) hb3
    rw [HR.out] at hown3 ⊢
    go_wp2_with fail
    refine (grown_any A3 c3 r hrs (by unfold maxLen; omega) _ (Has.of_own hown3)).mono ?_
    rintro e w4 ⟨rfl, hb4⟩
    rw [HG.out, R3i]
    have hown4 := own_next hown3 hb4
    have hb4 := bnext hb3 hb4
    go_wp2_with fail
    refine (Try.bits_Mul64 X U hlt.1 (by omega) _).mono ?_
    rintro e w5 ⟨rfl, rfl⟩
    rw [hhi.out, hlo.out]
    go_wp2_with fail
    go_ret2
    exact R1.mk rfl hb4
  · have E := Lib.hid (EP.out.trans (if_neg (by omega)))
    have f1 : (hi : Int) ≤ 0 := by omega
    have f2 : ((lo : Int) / 9223372036854775808 == 1) = false := by rw [beq_eq_false_iff_ne]; omega
    have hPl : P = lo := by omega
    rw [hPl] at E
    have f3 : (lo : Int) ≤ 9223372036854775807 := by omega
    have Hhl := Lib.hid hhl; clear hhl g1 g2 hPl hprod EP
    rw [E.out]
    go_enter Try.func38, Try.ntmps38
    go_wp2_with fail
    refine (grown_any A c l hs hl _ h).mono ?_
    rintro e w1 ⟨rfl, hb1⟩
    rw [HX.out, R3i]
    go_wp2_with fail
    refine (time_any a _).mono ?_
    rintro e w2 ⟨rfl, n2, rfl⟩
    rw [K1.out]
    go_wp2_with fail
    refine (time_any b _).mono ?_
    rintro e w2 ⟨rfl, n3, rfl⟩
    rw [K2.out]
    go_wp2_with fail
    refine (range_any A c l hlc hc a b _ (by exact h.next (below_drewN hb1 _))).mono ?_
    rintro e w3 ⟨v, rfl, A3, c3, rfl, hown3, hb3⟩
    have hb3 := bnext (below_drewN hb1 _) hb3
    rw [HR.out] at hown3 ⊢
    go_wp2_with fail
    refine (grown_any A3 c3 r hrs (by unfold maxLen; omega) _ (Has.of_own hown3)).mono ?_
    rintro e w4 ⟨rfl, hb4⟩
    rw [HG.out, R3i]
    have hown4 := own_next hown3 hb4
    have hb4 := bnext hb3 hb4
    go_wp2_with fail
    refine (Try.bits_Mul64 X U hlt.1 (by omega) _).mono ?_
    rintro e w5 ⟨rfl, rfl⟩
    rw [hhi.out, hlo.out]
    go_wp2_with fail
    obtain ⟨ad, rfl, _, c1⟩ := (Has.of_own hown4).at (smpCs_t (show r.length - 1 < r.length by omega))
    obtain ⟨ad', e, _, c2⟩ := (Has.of_own hown4).at (smpCs_t (show 0 < r.length by omega))
    injection e with e
    subst e
    have c2 : w5.cell? ad = some (.int .i64 (at_ r 0).t) := by simpa [Addr.add] using c2
    have e1 : IntKind.i64.wrap ((r.length : Int) - 1) = (r.length : Int) - 1 := IntWalk.i64_in _ (by omega)
    have e2 : ((r.length : Int) - 1).toNat = r.length - 1 := by omega
    have e3 : IntKind.i64.wrap ((at_ r (r.length - 1)).t - (at_ r 0).t) = (at_ r (r.length - 1)).t - (at_ r 0).t := IntWalk.i64_in _ (by omega)
    have e4 : IntKind.i64.wrap (lo : Int) = (lo : Int) := IntWalk.i64_in _ (by omega)
    have e5 : IntKind.i64.wrap ((lo : Int).tdiv ((at_ r (r.length - 1)).t - (at_ r 0).t)) = (lo : Int) / ((at_ r (r.length - 1)).t - (at_ r 0).t) := IntWalk.i64_quo _ _ (by omega)
    have q1 : (1 : Int) ≤ (r.length : Int) := by omega
    have q2 : (0 : Int) < (r.length : Int) := by omega
    have q3 : (r.length : Int) - 1 < (r.length : Int) := by omega
    have q4 : ¬ ((at_ r (r.length - 1)).t - (at_ r 0).t = 0) := by omega
    go_wp2_with fail
    go_quiet (fail)
    go_wp2
    go_ret2
    refine R1.mk (R2i.of ?_ rfl) (below_drewN hb4 _)
    exact IntWalk.wrap64_in _ ⟨by have := Int.ediv_nonneg (show (0 : Int) ≤ (lo : Int) by omega) (show (0 : Int) ≤ (at_ r (r.length - 1)).t - (at_ r 0).t by omega); omega, by have := Int.ediv_le_self ((at_ r (r.length - 1)).t - (at_ r 0).t) (show (0 : Int) ≤ (lo : Int) by omega); omega⟩

theorem per_any (A : Option Addr) (c : Nat) (l : List Smp) (hs : Smps l) (hlc : l.length ≤ c) (hc : c ≤ maxLen) (a b u : Int) (w : World) (h : Has w w.heap.size A (smpCs l)) :
    Calls Try.prog 38 #[.slice A l.length c, .int .i64 a, .int .i64 b, .int .i64 u] w (R1 (R2i (perN l a b u)) (Below w.heap.size w)) := by
  unfold perN
  by_cases hg : (grN l).2.2 = 0
  · rw [if_neg (by rw [hg]; simp)]
    cases hb : perBad a b u
    · exact per_in A c l hs hlc hc a b u hg hb w h
    · exact per_bad A c l hs (by omega) a b u hg hb w h
  · rw [if_pos hg]
    have hG := grN_err hg
    obtain ⟨z, hz⟩ : ∃ z, (grN l).2.2 = z := ⟨_, rfl⟩
    rw [hz] at hG hg ⊢
    have f1 : (z != 0) = true := by rw [bne_iff_ne]; exact hg
    have HG := Lib.hid hG
    clear hG hz hg
    exact per_err A c l hs (by omega) a b u z f1 HG w h
end Go.Proofs.Ytcokpfjhlclnmaa
