/- What Grown of package rate computes. Conditions: measures fit their kind. -/
import Derived.Test.YtcokpfjhlclnmaaSmp
namespace Go.Proofs.Ytcokpfjhlclnmaa
open Go.RowKit

/-- after k steps: the sum, and how often anew -/
def grUp (l : List Smp) : Nat → Nat × Nat
  | 0 => (0, 0)
  | k + 1 => if (at_ l (k + 1)).v < (at_ l k).v then (((grUp l k).1 + (at_ l (k + 1)).v.toNat) % 18446744073709551616, (grUp l k).2 + 1)
    else (((grUp l k).1 + ((at_ l (k + 1)).v - (at_ l k).v).toNat) % 18446744073709551616, (grUp l k).2)
def posS (l : List Smp) : Bool := l.all fun s => decide (0 ≤ s.v)
def grN (l : List Smp) : Nat × Nat × Int := if chkS l ≠ 0 then (0, 0, chkS l) else if posS l then ((grUp l (l.length - 1)).1, (grUp l (l.length - 1)).2, 0) else (0, 0, 6)
def R3i (x : Nat × Nat × Int) : Value := .tuple #[.int .u64 (x.1 : Nat), .int .i64 (x.2.1 : Nat), .int .i64 x.2.2]
theorem R3i.of {a b c : Int} {x : Nat × Nat × Int} (ha : a = (x.1 : Nat)) (hb : b = (x.2.1 : Nat)) (hc : c = x.2.2) : Value.tuple #[.int .u64 a, .int .i64 b, .int .i64 c] = R3i x := by rw [ha, hb, hc]; rfl
theorem grUp_lt (l : List Smp) (k : Nat) : (grUp l k).1 < 18446744073709551616 ∧ (grUp l k).2 ≤ k := by
  induction k with
  | zero => exact ⟨by show 0 < _; decide, Nat.le_refl _⟩
  | succ k ih =>
    rw [grUp]
    split
    · exact ⟨Nat.mod_lt _ (by decide), by simp only []; omega⟩
    · exact ⟨Nat.mod_lt _ (by decide), by simp only []; omega⟩
theorem posS_at {l : List Smp} (h : posS l = true) (k : Nat) : 0 ≤ (at_ l k).v := by
  rcases Nat.lt_or_ge k l.length with h1 | h1
  · have := List.all_eq_true.1 h _ (at_mem h1)
    simpa using this
  · simp only [at_, List.getD, List.getElem?_eq_none h1, Option.getD_none]
    decide
theorem gr_sum (s : Nat) {d : Int} (h : 0 ≤ d) : IntKind.u64.wrap ((s : Int) + d) = (((s + d.toNat) % 18446744073709551616 : Nat) : Int) := by rw [IntKind.wrap_u64]; omega

theorem grN_ok {l : List Smp} (h1 : chkS l = 0) (h2 : posS l = true) : grN l = ((grUp l (l.length - 1)).1, (grUp l (l.length - 1)).2, 0) := by
  unfold grN
  rw [if_neg (by rw [h1]; simp), if_pos h2]

set_option maxRecDepth 1000000 in
set_option maxHeartbeats 2000000 in
theorem grown_any (A : Option Addr) (c : Nat) (l : List Smp) (hs : Smps l) (hl : l.length ≤ maxLen) (w : World) (h : Has w w.heap.size A (smpCs l)) :
    Calls Try.prog 62 #[.slice A l.length c] w (R1 (R3i (grN l)) (Below w.heap.size w)) := by
  by_cases hc : chkS l = 0
  case neg =>
    have E := Lib.hid (show grN l = (0, 0, chkS l) by unfold grN; rw [if_pos hc])
    obtain ⟨z, hz⟩ : ∃ z, chkS l = z := ⟨_, rfl⟩
    have hz0 : (z != 0) = true := by rw [bne_iff_ne, ← hz]; exact hc
    rw [hz] at E
    rw [E.out]
    have Hz := Lib.hid hz; clear hz hc
    go_enter Try.func62, Try.ntmps62
    go_wp2_with fail
    refine (scheck_any A c l hl _ (by exact h)).mono ?_
    rintro e w1 ⟨rfl, n1, rfl⟩
    rw [Hz.out]
    go_wp2_with fail
    go_ret3
    exact R1.mk rfl (below_drewN (Below.refl _ _) _)
  case pos =>
    have hlen : l.length ≤ 1000 := by
      unfold chkS at hc
      split at hc
      · simp at hc
      · omega
    have Hc := Lib.hid hc; clear hc
    unfold maxLen at hl
    go_enter Try.func62, Try.ntmps62
    go_wp2_with fail
    refine (scheck_any A c l hl _ (by exact h)).mono ?_
    rintro e w1 ⟨rfl, n1, rfl⟩
    rw [Hc.out]
    go_wp2_with fail
    go_loopw [18] (fun i wr => ∃ k : Nat, k ≤ l.length ∧ i = .int .i64 (k : Nat) ∧ Hid (∀ j, j < k → 0 ≤ (at_ l j).v) ∧ Below w.heap.size w wr) (fun i _ => l.length + 5 - (intOf i).toNat)
    case atStart => exact ⟨0, by omega, rfl, Lib.hid (fun j hj => by omega), below_drewN (Below.refl _ _) _⟩
    case round =>
      obtain ⟨k, hk, rfl, hpos, hbel⟩ := hrel
      have hbs := hbel.size
      by_cases hlt : (k : Int) < (l.length : Int)
      · obtain ⟨ad, rfl, _, c1⟩ := (h.below hbel).at (smpCs_t (show k < l.length by omega))
        obtain ⟨ad', e, _, c2⟩ := (h.below hbel).at (smpCs_v (show k < l.length by omega))
        injection e with e
        subst e
        have c2 := cell_off c2 (by decide)
        by_cases hv : (at_ l k).v < 0
        · go_wp2
          go_ret3
          have E : grN l = (0, 0, 6) := by
            unfold grN
            rw [if_neg (by rw [Hc.out]; simp), if_neg]
            intro hp
            have := posS_at hp k
            omega
          exact R1.mk (by rw [E]; rfl) (hbel.alloc hbs _)
        · have hv' : 0 ≤ (at_ l k).v := by omega
          go_wp2
          go_roundw
          case rel => exact ⟨k + 1, by omega, by go_num, Lib.hid (fun j hj => by rcases Nat.lt_or_ge j k with h1 | h1; exact hpos.out j h1; rw [show j = k by omega]; exact hv'), hbel.alloc hbs _⟩
          case measure => simp [intOf]; omega
      · have hp : posS l = true := by
          unfold posS
          rw [List.all_eq_true]
          intro s hs'
          obtain ⟨j, hj, rfl⟩ := List.getElem_of_mem hs'
          have := hpos.out j (by omega)
          rw [at_eq hj] at this
          simpa using this
        have E := Lib.hid (show grN l = ((grUp l (l.length - 1)).1, (grUp l (l.length - 1)).2, 0) by unfold grN; rw [if_neg (by rw [Hc.out]; simp), if_pos hp])
        have Hp := Lib.hid (posS_at hp); clear hp
        go_wp2
        obtain ⟨wo, rfl⟩ : ∃ wo : World, wo = wr := ⟨_, rfl⟩
        go_loopw [8, 9, 10] (fun s a i wq => ∃ j : Nat, j ≤ l.length - 1 ∧ i = .int .i64 ((j : Int) + 1) ∧ s = .int .u64 ((grUp l j).1 : Nat) ∧ a = .int .i64 ((grUp l j).2 : Nat) ∧ Below w.heap.size w wq) (fun _ _ i _ => l.length + 5 - (intOf i).toNat)
        case atStart => exact ⟨0, by omega, rfl, rfl, rfl, hbel⟩
        case round =>
          obtain ⟨j, hj, rfl, rfl, rfl, hbel2⟩ := hrel
          have hg := grUp_lt l j
          by_cases hlt2 : (j : Int) + 1 < (l.length : Int)
          · obtain ⟨ad, rfl, _, c1⟩ := (h.below hbel2).at (smpCs_v (show j < l.length by omega))
            obtain ⟨ad', e, _, c2⟩ := (h.below hbel2).at (smpCs_v (show j + 1 < l.length by omega))
            injection e with e
            subst e
            have c1 := cell_off c1 (by decide)
            have c2 := cell_off c2 (by decide)
            have p1 := Hp.out j
            have p2 := Hp.out (j + 1)
            have b1 := (hs.at j).2
            have b2 := (hs.at (j + 1)).2
            unfold in64 at b1 b2
            go_wp2
            have e1 : IntKind.i64.wrap ((j : Int) + 1 - 1) = (j : Int) := IntWalk.i64_in _ (by omega) |>.trans (by omega)
            have e2 : ((j : Int) + 1).toNat = j + 1 := by omega
            have q1 : (0 : Int) ≤ (j : Int) + 1 := by omega
            have q2 : (j : Int) < (l.length : Int) := by omega
            by_cases ht : (at_ l (j + 1)).v < (at_ l j).v
            · have E2 := Lib.hid (show grUp l (j + 1) = (((grUp l j).1 + (at_ l (j + 1)).v.toNat) % 18446744073709551616, (grUp l j).2 + 1) by rw [grUp, if_pos ht])
              go_quiet (fail)
              clear e1 e2 q1 q2
              go_wp2
              go_roundw
              case rel => exact ⟨j + 1, by omega, by go_num, int_eq (by rw [E2.out]; exact gr_sum _ p2), int_eq (by rw [E2.out]; go_num), below_drewN hbel2 _⟩
              case measure => simp [intOf]; omega
            · have E2 := Lib.hid (show grUp l (j + 1) = (((grUp l j).1 + ((at_ l (j + 1)).v - (at_ l j).v).toNat) % 18446744073709551616, (grUp l j).2) by rw [grUp, if_neg ht])
              have ht' : (at_ l j).v ≤ (at_ l (j + 1)).v := by omega
              have e3 : IntKind.i64.wrap ((at_ l (j + 1)).v - (at_ l j).v) = (at_ l (j + 1)).v - (at_ l j).v := IntWalk.i64_in _ (by omega)
              have e4 : IntKind.u64.wrap ((at_ l (j + 1)).v - (at_ l j).v) = (at_ l (j + 1)).v - (at_ l j).v := IntWalk.u64_in _ (by omega)
              go_quiet (fail)
              go_wp2
              go_quiet (fail)
              clear e1 e2 q1 q2 e3 e4
              go_wp2
              go_roundw
              case rel => exact ⟨j + 1, by omega, by go_num, int_eq (by rw [E2.out]; exact gr_sum _ (by omega)), int_eq (by rw [E2.out]), below_drewN hbel2 _⟩
              case measure => simp [intOf]; omega
          · go_wp2
            go_ret3
            exact R1.mk (R3i.of (by rw [E.out, show l.length - 1 = j by omega]) (by rw [E.out, show l.length - 1 = j by omega]) (by rw [E.out])) hbel2

theorem grown_any' (A : Option Addr) (n c : Nat) (l : List Smp) (hn : l.length = n) (hs : Smps l) (hl : l.length ≤ maxLen) (w : World) (h : Has w w.heap.size A (smpCs l)) :
    Calls Try.prog 62 #[.slice A n c] w (R1 (R3i (grN l)) (Below w.heap.size w)) := by
  subst hn
  exact grown_any A c l hs hl w h
end Go.Proofs.Ytcokpfjhlclnmaa
