/- What the functions of package hash compute: mixing, unmixing, the number of a text. Conditions: numbers fit their kinds. -/
import Derived.Test.YtdoinkflhjnflaaKit
namespace Go.Proofs.Ytdoinkflhjnflaa
open Go.RowKit

def mixN (u : Nat) : Nat :=
  let a := (u ^^^ u / 536870912) * 10321020848683521121 % 18446744073709551616
  let b := (a ^^^ a / 4294967296) * 7694936916205891629 % 18446744073709551616
  b ^^^ b / 268435456

theorem xor_lt64 {a b : Nat} (ha : a < 18446744073709551616) (hb : b < 18446744073709551616) : a ^^^ b < 18446744073709551616 := Nat.xor_lt_two_pow (n := 64) ha hb
theorem mixN_lt (u : Nat) : mixN u < 18446744073709551616 := by
  unfold mixN
  have h : ∀ a : Nat, a % 18446744073709551616 < 18446744073709551616 := fun a => Nat.mod_lt _ (by decide)
  exact xor_lt64 (h _) (Nat.lt_of_le_of_lt (Nat.div_le_self _ _) (h _))

set_option maxRecDepth 1000000 in
set_option maxHeartbeats 400000 in
theorem mix_any (u : Nat) (h : u < 18446744073709551616) (w : World) :
    Calls Try.prog 19 #[.int .u64 u] w (R1 (.int .u64 (mixN u : Nat)) (Drawn w)) := by
  have E : Hid ((bits .xor .u64 (IntKind.u64.wrap (bits .xor .u64 (IntKind.u64.wrap (bits .xor .u64 (u : Int) ((u : Int) / 536870912) * 10321020848683521121)) (IntKind.u64.wrap (bits .xor .u64 (u : Int) ((u : Int) / 536870912) * 10321020848683521121) / 4294967296) * 7694936916205891629))
      (IntKind.u64.wrap (bits .xor .u64 (IntKind.u64.wrap (bits .xor .u64 (u : Int) ((u : Int) / 536870912) * 10321020848683521121)) (IntKind.u64.wrap (bits .xor .u64 (u : Int) ((u : Int) / 536870912) * 10321020848683521121) / 4294967296) * 7694936916205891629) / 268435456)) = ((mixN u : Nat) : Int)) := by
    apply Lib.hid
    have hl : ∀ a : Nat, a % 18446744073709551616 < 18446744073709551616 := fun a => Nat.mod_lt _ (by decide)
    rw [show IntKind.u64.wrap (bits .xor .u64 (u : Int) ((u : Int) / 536870912) * 10321020848683521121) = (((u ^^^ u / 536870912) * 10321020848683521121 % 18446744073709551616 : Nat) : Int) from mixStep_u64 u 536870912 10321020848683521121 h]
    rw [show IntKind.u64.wrap (bits .xor .u64 (((u ^^^ u / 536870912) * 10321020848683521121 % 18446744073709551616 : Nat) : Int) ((((u ^^^ u / 536870912) * 10321020848683521121 % 18446744073709551616 : Nat) : Int) / 4294967296) * 7694936916205891629) = _ from mixStep_u64 _ 4294967296 7694936916205891629 (hl _)]
    exact xorShift_u64 _ 268435456 (hl _)
  go_enter Try.func19, Try.ntmps19
  go_wp2
  go_ret
  exact R1.mk (int_eq E.out) (Drawn.refl _)

/-- j turns of unturn's loop -/
def unN (u n : Nat) : Nat → Nat
  | 0 => u
  | j + 1 => u ^^^ unN u n j / 2 ^ n
theorem unN_lt {u n : Nat} (h : u < 18446744073709551616) (j : Nat) : unN u n j < 18446744073709551616 := by
  induction j with
  | zero => exact h
  | succ j ih => exact xor_lt64 h (Nat.lt_of_le_of_lt (Nat.div_le_self _ _) ih)

set_option maxRecDepth 1000000 in
set_option maxHeartbeats 400000 in
theorem unturn_any (u n J : Nat) (h : u < 18446744073709551616) (hn : 1 ≤ n) (hn2 : n < 64) (h1 : J * n < 64) (h2 : 64 ≤ J * n + n) (w : World) :
    Calls Try.prog 30 #[.int .u64 u, .int .i64 n] w (R1 (.int .u64 (unN u n J : Nat)) (Drawn w)) := by
  go_enter Try.func30, Try.ntmps30
  go_wp2
  go_loop [5, 6] (fun v k => ∃ j : Nat, j * n + n ≤ J * n + n ∧ j ≤ J ∧ k = .int .i64 ((j * n + n : Nat) : Int) ∧ v = .int .u64 (unN u n j : Nat)) (fun _ k => 200 - (intOf k).toNat)
  case atStart => exact ⟨0, by omega, by omega, by simp, rfl⟩
  case round =>
    obtain ⟨j, hj, hjJ, rfl, rfl⟩ := hrel
    by_cases hlt : ((j * n + n : Nat) : Int) < 64
    · have hx := unN_lt (n := n) h j
      go_wp2
      go_round
      case rel =>
        have hJ : j < J := by
          rcases Nat.lt_or_ge j J with h3 | h3
          · exact h3
          · have := Nat.mul_le_mul_right n h3; omega
        have hm : (j + 1) * n = j * n + n := by rw [Nat.succ_mul]
        have hJn := Nat.mul_le_mul_right n (show j + 1 ≤ J from hJ)
        refine ⟨j + 1, by omega, by omega, int_eq (by rw [hm]; push_cast; rfl), int_eq ?_⟩
        have e : ((unN u n j : Nat) : Int) / 2 ^ n = ((unN u n j / 2 ^ n : Nat) : Int) := by push_cast; rfl
        rw [e, bits_xor_u64_nat _ _ h (Nat.lt_of_le_of_lt (Nat.div_le_self _ _) hx)]
        rfl
      case measure => simp [intOf]; omega
    · go_wp2
      go_ret
      refine R1.mk (int_eq ?_) (Drawn.refl _)
      have hJ : J ≤ j := by
        rcases Nat.lt_or_ge j J with h3 | h3
        · have := Nat.mul_le_mul_right n (show j + 1 ≤ J from h3)
          rw [Nat.succ_mul] at this
          omega
        · exact h3
      rw [show j = J from by omega]

def inStep (a x : Nat) : Nat := x * ((18446744073709551618 - a * x % 18446744073709551616) % 18446744073709551616) % 18446744073709551616
def inN (a : Nat) : Nat → Nat
  | 0 => a
  | j + 1 => inStep a (inN a j)
theorem wrap_u64_nat (x : Nat) : IntKind.u64.wrap (x : Int) = ((x % 18446744073709551616 : Nat) : Int) := by rw [IntKind.wrap_u64]; omega
theorem inStep_eq (a x : Nat) : IntKind.u64.wrap ((x : Int) * IntKind.u64.wrap (2 - IntKind.u64.wrap ((a : Int) * (x : Int)))) = ((inStep a x : Nat) : Int) := by
  have h1 : IntKind.u64.wrap ((a : Int) * (x : Int)) = ((a * x % 18446744073709551616 : Nat) : Int) := by
    rw [← Int.natCast_mul, wrap_u64_nat]
  have hl : a * x % 18446744073709551616 < 18446744073709551616 := Nat.mod_lt _ (by decide)
  rw [h1]
  unfold inStep
  generalize a * x % 18446744073709551616 = r at hl
  have h2 : IntKind.u64.wrap (2 - (r : Int)) = (((18446744073709551618 - r) % 18446744073709551616 : Nat) : Int) := by
    rw [IntKind.wrap_u64]
    omega
  rw [h2, ← Int.natCast_mul, wrap_u64_nat]

set_option maxRecDepth 1000000 in
set_option maxHeartbeats 400000 in
theorem inverse_any (a : Nat) (w : World) :
    Calls Try.prog 31 #[.int .u64 a] w (R1 (.int .u64 (inN a 5 : Nat)) (Drawn w)) := by
  go_enter Try.func31, Try.ntmps31
  go_wp2
  go_loop [3, 5] (fun x k => ∃ j : Nat, j ≤ 5 ∧ k = .int .i64 (j : Nat) ∧ x = .int .u64 (inN a j : Nat)) (fun _ k => 5 - (intOf k).toNat)
  case atStart => exact ⟨0, by omega, rfl, rfl⟩
  case round =>
    obtain ⟨j, hj, rfl, rfl⟩ := hrel
    by_cases hlt : (j : Int) < 5
    · go_wp2
      go_round
      case rel => exact ⟨j + 1, by omega, by go_num, int_eq (inStep_eq _ _)⟩
      case measure => simp [intOf]; omega
    · go_wp2
      go_ret
      exact R1.mk (int_eq (by rw [show j = 5 from by omega])) (Drawn.refl _)

theorem in_second : inN 7694936916205891629 5 = 6263247216084901797 := by decide +kernel
theorem in_first : inN 10321020848683521121 5 = 6334239490909081505 := by decide +kernel

def unmixN (u : Nat) : Nat :=
  unN (unN (unN u 28 2 * 6263247216084901797 % 18446744073709551616) 32 1 * 6334239490909081505 % 18446744073709551616) 29 2
theorem unmixN_lt (u : Nat) : unmixN u < 18446744073709551616 := unN_lt (Nat.mod_lt _ (by decide)) _

theorem mul_second (x : Nat) : IntKind.u64.wrap ((x : Int) * 6263247216084901797) = ((x * 6263247216084901797 % 18446744073709551616 : Nat) : Int) := by
  rw [← wrap_u64_nat, Int.natCast_mul]; rfl
theorem mul_first (x : Nat) : IntKind.u64.wrap ((x : Int) * 6334239490909081505) = ((x * 6334239490909081505 % 18446744073709551616 : Nat) : Int) := by
  rw [← wrap_u64_nat, Int.natCast_mul]; rfl

set_option maxRecDepth 1000000 in
set_option maxHeartbeats 400000 in
theorem unmix_any (u : Nat) (h : u < 18446744073709551616) (w : World) :
    Calls Try.prog 18 #[.int .u64 u] w (R1 (.int .u64 (unmixN u : Nat)) (Drawn w)) := by
  obtain ⟨x1, hx1⟩ : ∃ x, x = unN u 28 2 := ⟨_, rfl⟩
  have l1 : x1 < 18446744073709551616 := hx1 ▸ unN_lt h 2
  obtain ⟨y1, hy1⟩ : ∃ y, y = x1 * 6263247216084901797 % 18446744073709551616 := ⟨_, rfl⟩
  have m1 : y1 < 18446744073709551616 := by omega
  obtain ⟨x2, hx2⟩ : ∃ x, x = unN y1 32 1 := ⟨_, rfl⟩
  have l2 : x2 < 18446744073709551616 := hx2 ▸ unN_lt m1 1
  obtain ⟨y2, hy2⟩ : ∃ y, y = x2 * 6334239490909081505 % 18446744073709551616 := ⟨_, rfl⟩
  have m2 : y2 < 18446744073709551616 := by omega
  have e : Hid (unmixN u = unN y2 29 2) := by subst hx1 hy1 hx2 hy2; exact rfl
  have H1 := Lib.hid hx1; clear hx1
  have G1 := Lib.hid hy1; clear hy1
  have H2 := Lib.hid hx2; clear hx2
  have G2 := Lib.hid hy2; clear hy2
  rw [e.out]
  go_enter Try.func18, Try.ntmps18
  go_wp2_with fail
  refine (unturn_any u 28 2 h (by omega) (by omega) (by omega) (by omega) _).mono ?_
  rintro e w1 ⟨rfl, n1, rfl⟩
  rw [← H1.out]
  go_wp2_with fail
  refine (inverse_any 7694936916205891629 _).mono ?_
  rintro e w2 ⟨rfl, n2, rfl⟩
  rw [in_second]
  go_wp2_with fail
  rw [mul_second, ← G1.out]
  refine (unturn_any y1 32 1 m1 (by omega) (by omega) (by omega) (by omega) _).mono ?_
  rintro e w1 ⟨rfl, n3, rfl⟩
  rw [← H2.out]
  go_wp2_with fail
  refine (inverse_any 10321020848683521121 _).mono ?_
  rintro e w2 ⟨rfl, n4, rfl⟩
  rw [in_first]
  go_wp2_with fail
  rw [mul_first, ← G2.out]
  refine (unturn_any y2 29 2 m2 (by omega) (by omega) (by omega) (by omega) _).mono ?_
  rintro e w1 ⟨rfl, n5, rfl⟩
  go_wp2_with fail
  go_ret
  exact R1.mk rfl ⟨_, rfl⟩

/-! ### The plain laws -/
theorem xor_div (a b n : Nat) : (a ^^^ b) / 2 ^ n = a / 2 ^ n ^^^ b / 2 ^ n := by
  rw [← Nat.shiftRight_eq_div_pow, ← Nat.shiftRight_eq_div_pow, ← Nat.shiftRight_eq_div_pow, Nat.shiftRight_xor_distrib]
theorem xor_cancel (a b : Nat) : (a ^^^ b) ^^^ b = a := by rw [Nat.xor_assoc, Nat.xor_self, Nat.xor_zero]
theorem unN_of (x n j : Nat) : unN (x ^^^ x / 2 ^ n) n j = x ^^^ x / 2 ^ (j * n + n) := by
  induction j with
  | zero => simp [unN]
  | succ j ih =>
    rw [unN, ih, xor_div, Nat.div_div_eq_div_mul, ← Nat.pow_add, show j * n + n + n = (j + 1) * n + n from by rw [Nat.succ_mul]]
    rw [Nat.xor_assoc, ← Nat.xor_assoc (x / 2 ^ n), Nat.xor_self, Nat.zero_xor]
theorem small_div {x m : Nat} (h : x < 18446744073709551616) (hm : 64 ≤ m) : x / 2 ^ m = 0 := by
  apply Nat.div_eq_of_lt
  exact Nat.lt_of_lt_of_le h (Nat.pow_le_pow_right (n := 2) (by decide) hm)
theorem unN_mix {x n J : Nat} (h : x < 18446744073709551616) (hJ : 64 ≤ J * n + n) : unN (x ^^^ x / 2 ^ n) n J = x := by
  rw [unN_of, small_div h hJ, Nat.xor_zero]
theorem unN_diff (u n j : Nat) : unN u n (j + 1) ^^^ unN u n j = u / 2 ^ (j * n + n) := by
  induction j with
  | zero =>
    show (u ^^^ u / 2 ^ n) ^^^ u = u / 2 ^ (0 * n + n)
    rw [Nat.zero_mul, Nat.zero_add, Nat.xor_comm, ← Nat.xor_assoc, Nat.xor_self, Nat.zero_xor]
  | succ j ih =>
    show (u ^^^ unN u n (j + 1) / 2 ^ n) ^^^ (u ^^^ unN u n j / 2 ^ n) = _
    rw [Nat.xor_comm u, Nat.xor_assoc, ← Nat.xor_assoc u, Nat.xor_self, Nat.zero_xor, ← xor_div, ih, Nat.div_div_eq_div_mul, ← Nat.pow_add, show j * n + n + n = (j + 1) * n + n from by rw [Nat.succ_mul]]
theorem mix_unN {u n J : Nat} (h : u < 18446744073709551616) (hJ : 64 ≤ J * n + n) : unN u n J ^^^ unN u n J / 2 ^ n = u := by
  have h1 := unN_diff u n J
  rw [small_div h hJ] at h1
  have h2 : unN u n (J + 1) = unN u n J := by
    have := congrArg (· ^^^ unN u n J) h1
    simpa [xor_cancel] using this
  have h3 : u ^^^ unN u n J / 2 ^ n = unN u n J := h2
  have h4 := congrArg (· ^^^ unN u n J / 2 ^ n) h3
  simp only [xor_cancel] at h4
  exact h4.symm
def shx (n x : Nat) : Nat := x ^^^ x / 2 ^ n
def mulm (c x : Nat) : Nat := x * c % 18446744073709551616
theorem mulm_lt (c x : Nat) : mulm c x < 18446744073709551616 := Nat.mod_lt _ (by decide)
theorem shx_lt {n x : Nat} (h : x < 18446744073709551616) : shx n x < 18446744073709551616 := xor_lt64 h (Nat.lt_of_le_of_lt (Nat.div_le_self _ _) h)
theorem mul_back {a c d : Nat} (ha : a < 18446744073709551616) (hcd : c * d % 18446744073709551616 = 1) : mulm d (mulm c a) = a := by
  unfold mulm
  rw [Nat.mod_mul_mod, Nat.mul_assoc, Nat.mul_mod, hcd, Nat.mul_one, Nat.mod_mod, Nat.mod_eq_of_lt ha]
theorem mixN_eq (u : Nat) : mixN u = shx 28 (mulm 7694936916205891629 (shx 32 (mulm 10321020848683521121 (shx 29 u)))) := rfl
theorem unmixN_eq (u : Nat) : unmixN u = unN (mulm 6334239490909081505 (unN (mulm 6263247216084901797 (unN u 28 2)) 32 1)) 29 2 := rfl
theorem un_sh {x n J : Nat} (h : x < 18446744073709551616) (hJ : 64 ≤ J * n + n) : unN (shx n x) n J = x := unN_mix h hJ
theorem sh_un {x n J : Nat} (h : x < 18446744073709551616) (hJ : 64 ≤ J * n + n) : shx n (unN x n J) = x := mix_unN h hJ
theorem unmix_mix {u : Nat} (h : u < 18446744073709551616) : unmixN (mixN u) = u := by
  rw [mixN_eq, unmixN_eq, un_sh (mulm_lt _ _) (by omega), mul_back (shx_lt (mulm_lt _ _)) (by decide +kernel), un_sh (mulm_lt _ _) (by omega), mul_back (shx_lt h) (by decide +kernel), un_sh h (by omega)]
theorem mix_unmix {u : Nat} (h : u < 18446744073709551616) : mixN (unmixN u) = u := by
  rw [mixN_eq, unmixN_eq, sh_un (mulm_lt _ _) (by omega), mul_back (unN_lt (mulm_lt _ _) _) (by decide +kernel), sh_un (mulm_lt _ _) (by omega), mul_back (unN_lt h _) (by decide +kernel), sh_un h (by omega)]
theorem mix_inj {u v : Nat} (hu : u < 18446744073709551616) (hv : v < 18446744073709551616) (h : mixN u = mixN v) : u = v := by
  rw [← unmix_mix hu, ← unmix_mix hv, h]

/-! ### The number of a text -/
def ofUp (seed : Nat) (l : List Nat) : Nat → Nat
  | 0 => mixN seed
  | k + 1 => mixN ((ofUp seed l k + at_ l k + 256 * k) % 18446744073709551616)
def ofN (seed : Nat) (l : List Nat) : Nat := ofUp seed l l.length
theorem ofUp_lt (seed : Nat) (l : List Nat) (k : Nat) : ofUp seed l k < 18446744073709551616 := by
  cases k <;> exact mixN_lt _
theorem step_inj {a b c : Nat} (ha : a < 18446744073709551616) (hb : b < 18446744073709551616) (h : (a + c) % 18446744073709551616 = (b + c) % 18446744073709551616) : a = b := by omega
theorem ofUp_inj {s t : Nat} (hs : s < 18446744073709551616) (ht : t < 18446744073709551616) (l : List Nat) (k : Nat) (h : ofUp s l k = ofUp t l k) : s = t := by
  induction k with
  | zero => exact mix_inj hs ht h
  | succ k ih =>
    have h1 := mix_inj (Nat.mod_lt _ (by decide)) (Nat.mod_lt _ (by decide)) h
    rw [Nat.add_assoc, Nat.add_assoc] at h1
    exact ih (step_inj (ofUp_lt _ _ _) (ofUp_lt _ _ _) h1)
theorem ofUp_same (s : Nat) {l m : List Nat} {k : Nat} (h : ∀ i, i < k → at_ l i = at_ m i) : ofUp s l k = ofUp s m k := by
  induction k with
  | zero => rfl
  | succ k ih => rw [ofUp, ofUp, ih (fun i hi => h i (by omega)), h k (by omega)]
theorem ofUp_one {s : Nat} {l m : List Nat} {p : Nat} (hne : at_ l p ≠ at_ m p) (hl : at_ l p < 256) (hm : at_ m p < 256) (hs : ∀ i, i ≠ p → at_ l i = at_ m i) {k : Nat} (hk : p < k) : ofUp s l k ≠ ofUp s m k := by
  induction hk with
  | refl =>
    intro h
    have h1 := mix_inj (Nat.mod_lt _ (by decide)) (Nat.mod_lt _ (by decide)) h
    rw [ofUp_same s (k := p) (fun i hi => hs i (by omega))] at h1
    omega
  | step hk ih =>
    rename_i m'
    intro h
    have h1 := mix_inj (Nat.mod_lt _ (by decide)) (Nat.mod_lt _ (by decide)) h
    rw [hs m' (by simp at hk; omega), Nat.add_assoc, Nat.add_assoc] at h1
    exact ih (step_inj (ofUp_lt _ _ _) (ofUp_lt _ _ _) h1)
end Go.Proofs.Ytdoinkflhjnflaa
