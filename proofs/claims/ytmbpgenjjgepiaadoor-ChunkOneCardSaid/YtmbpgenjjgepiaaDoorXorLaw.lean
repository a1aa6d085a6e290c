/- Measures as bits: plain laws. No program in sight. -/
import Derived.Test.YtmbpgenjjgepiaaDoorWriterLaw
import Derived.Lib.BitFns
import Derived.Lib.TrailingZeros
namespace Go.Proofs.YtmbpgenjjgepiaaDoor

def xlead (t : Nat) : Nat := 64 - Lib.bitLen t
def xtail (t : Nat) : Nat := Lib.ctz 64 t
/-- a window of bits: whether there is one, noughts ahead, noughts behind -/
abbrev Win := Bool × Nat × Nat
def xfit (W : Win) (t : Nat) : Bool := W.1 && (decide (W.2.1 ≤ xlead t) && decide (W.2.2 ≤ xtail t))
def xbits (W : Win) (t : Nat) : List Bool :=
  if t = 0 then toB 0 1
  else if xfit W t then toB 2 2 ++ toB (t / 2 ^ W.2.2) (64 - W.2.1 - W.2.2)
  else toB 3 2 ++ (toB (xlead t) 6 ++ (toB (64 - xlead t - xtail t - 1) 6 ++ toB (t / 2 ^ xtail t) (64 - xlead t - xtail t)))
def xwin (W : Win) (t : Nat) : Win := if t = 0 then W else if xfit W t then W else (true, xlead t, xtail t)
def xR (W : Win) (last : Nat) : List Nat → List Bool
  | [] => []
  | v :: r => xbits W (v ^^^ last) ++ xR (xwin W (v ^^^ last)) v r
def wR (W : Win) (last : Nat) : List Nat → Win
  | [] => W
  | v :: r => wR (xwin W (v ^^^ last)) v r
def xF : List Nat → List Bool
  | [] => []
  | v :: r => toB v 64 ++ xR (false, 0, 0) v r
def wF : List Nat → Win
  | [] => (false, 0, 0)
  | v :: r => wR (false, 0, 0) v r
def packX (l : List Nat) : List Bool := toB l.length 16 ++ xF l
def packXN (l : List Nat) : (List Nat × Int) × Int := if 1000 < l.length then (([], 0), 2) else ((packB (packX l), ((packX l).length : Int)), 0)

/-- a window that can be: something is left of it -/
def WinOk (W : Win) : Prop := W.2.1 + W.2.2 < 64 ∧ (W.1 = false → W.2.1 = 0 ∧ W.2.2 = 0)
theorem bitLen_lt {t : Nat} (ht : t < 2 ^ 64) : t < 2 ^ Lib.bitLen t := by
  have h : ∀ f x, x < 2 ^ f → x < 2 ^ Lib.bitLenAux f x := by
    intro f
    induction f with
    | zero => intro x hx; simpa [Lib.bitLenAux] using hx
    | succ f ih =>
      intro x hx
      rw [Lib.bitLenAux]
      split
      · rename_i h0; subst h0; exact Nat.two_pow_pos _
      · have := ih (x / 2) (by rw [Nat.pow_succ] at hx; omega)
        rw [Nat.add_comm 1, Nat.pow_succ]
        omega
  exact h 64 t ht
theorem bitLen_pos {t : Nat} (h : t ≠ 0) : 1 ≤ Lib.bitLen t := by
  unfold Lib.bitLen
  rw [show (64 : Nat) = 63 + 1 from rfl, Lib.bitLenAux, if_neg h]
  omega
/-- what the noughts of a number say -/
theorem turn_facts {t : Nat} (h0 : t ≠ 0) (ht : t < 18446744073709551616) :
    xlead t < 64 ∧ xtail t < 64 ∧ xlead t + xtail t < 64 ∧ t < 2 ^ (64 - xlead t) ∧ 2 ^ xtail t ∣ t := by
  have h1 := bitLen_lt (t := t) (by omega)
  have h2 := bitLen_pos h0
  have h3 : Lib.bitLen t ≤ 64 := Lib.bitLen_le t 64 (by omega) (by omega)
  have h4 : Lib.ctz 64 t = Lib.ctzFrom 64 t := by unfold Lib.ctz; rw [if_neg h0]
  obtain ⟨m, hm, hk⟩ := Lib.ctzFrom_spec 64 t (by omega) (by omega)
  rw [← h4] at hm hk
  have e : 64 - xlead t = Lib.bitLen t := by unfold xlead; omega
  have hd : 2 ^ xtail t ≤ t := by
    show 2 ^ Lib.ctz 64 t ≤ t
    conv => rhs; rw [hm]
    exact Nat.le_mul_of_pos_right _ (by omega)
  have hlt : xtail t < Lib.bitLen t := by
    apply Nat.lt_of_not_le
    intro hle
    have := Nat.pow_le_pow_right (n := 2) (by decide) hle
    omega
  refine ⟨by unfold xlead; omega, hk, by unfold xlead; omega, by rw [e]; exact h1, ?_⟩
  exact ⟨2 * m + 1, hm⟩
theorem xfit_of {W : Win} {t : Nat} (h : xfit W t = true) : W.1 = true ∧ W.2.1 ≤ xlead t ∧ W.2.2 ≤ xtail t := by
  unfold xfit at h
  simp only [Bool.and_eq_true, decide_eq_true_eq] at h
  exact h
theorem xwin_ok {W : Win} {t : Nat} (hW : WinOk W) (ht : t < 18446744073709551616) : WinOk (xwin W t) := by
  unfold xwin
  split
  · exact hW
  · split
    · exact hW
    · rename_i h0 _
      exact ⟨(turn_facts h0 ht).2.2.1, fun h => by cases h⟩
theorem xbits_len {W : Win} {t : Nat} : (xbits W t).length ≤ 78 := by
  unfold xbits
  split
  · rw [toB_len]; omega
  · split
    · rw [List.length_append, toB_len, toB_len]; omega
    · rw [List.length_append, List.length_append, List.length_append, toB_len, toB_len, toB_len, toB_len]; omega
theorem xR_snoc (W : Win) (last : Nat) (l : List Nat) (t : Nat) : xR W last (l ++ [t]) = xR W last l ++ xbits (wR W last l) (t ^^^ (if l = [] then last else at_ l (l.length - 1))) := by
  induction l generalizing W last with
  | nil => simp [xR, wR]
  | cons x l ih =>
    rw [List.cons_append, xR, xR, ih, List.append_assoc, wR]
    congr 3
    cases l with
    | nil => simp [at_]
    | cons y l => simp [at_]
theorem wR_snoc (W : Win) (last : Nat) (l : List Nat) (t : Nat) : wR W last (l ++ [t]) = xwin (wR W last l) (t ^^^ (if l = [] then last else at_ l (l.length - 1))) := by
  induction l generalizing W last with
  | nil => simp [wR]
  | cons x l ih =>
    rw [List.cons_append, wR, ih, wR]
    congr 2
    cases l with
    | nil => simp [at_]
    | cons y l => simp [at_]
theorem xF_step {l : List Nat} {k : Nat} (h : k < l.length) (hk : k ≠ 0) : xF (l.take (k + 1)) = xF (l.take k) ++ xbits (wF (l.take k)) (at_ l k ^^^ at_ l (k - 1)) ∧ wF (l.take (k + 1)) = xwin (wF (l.take k)) (at_ l k ^^^ at_ l (k - 1)) := by
  have e : l.take (k + 1) = l.take k ++ [at_ l k] := by rw [List.take_add_one, List.getElem?_eq_getElem h, at_eq h]; rfl
  rw [e]
  cases l with
  | nil => simp at h
  | cons x l =>
    obtain ⟨j, rfl⟩ : ∃ j, k = j + 1 := ⟨k - 1, by omega⟩
    simp only [List.length_cons] at h
    have hl : (l.take j).length = j := by rw [List.length_take]; omega
    have hat : (if l.take j = [] then x else at_ (l.take j) ((l.take j).length - 1)) = at_ (x :: l) (j + 1 - 1) := by
      rw [hl]
      cases j with
      | zero => simp [at_]
      | succ j =>
        rw [if_neg (by intro e; rw [e] at hl; simp at hl), show j + 1 - 1 = j by omega, at_eq (by omega), List.getElem_take]
        rw [show j + 1 + 1 - 1 = j + 1 by omega]
        simp [at_, List.getElem?_eq_getElem (show j < l.length by omega)]
    rw [List.take_succ_cons, List.cons_append, xF, xF, wF, wF, xR_snoc, wR_snoc, List.append_assoc, hat]
    exact ⟨rfl, rfl⟩
theorem xF_one {l : List Nat} (h : 0 < l.length) : xF (l.take 1) = toB (at_ l 0) 64 ∧ wF (l.take 1) = (false, 0, 0) := by
  cases l with
  | nil => simp at h
  | cons x l => simp [xF, xR, wF, wR, at_]
theorem xR_len (W : Win) (last : Nat) (l : List Nat) : (xR W last l).length ≤ 78 * l.length := by
  induction l generalizing W last with
  | nil => simp [xR]
  | cons t l ih =>
    rw [xR, List.length_append, List.length_cons]
    have := xbits_len (W := W) (t := t ^^^ last)
    have := ih (xwin W (t ^^^ last)) t
    omega
theorem xF_len (l : List Nat) : (xF l).length ≤ 78 * l.length := by
  cases l with
  | nil => simp [xF]
  | cons t l =>
    rw [xF, List.length_append, toB_len, List.length_cons]
    have := xR_len (false, 0, 0) t l
    omega
theorem xor_lt {a b : Nat} (ha : a < 18446744073709551616) (hb : b < 18446744073709551616) : a ^^^ b < 18446744073709551616 := Nat.xor_lt_two_pow (n := 64) (by omega) (by omega)
theorem wF_ok {l : List Nat} (h : ∀ x ∈ l, x < 18446744073709551616) : WinOk (wF l) := by
  have h0 : WinOk (false, 0, 0) := ⟨by decide, fun _ => ⟨rfl, rfl⟩⟩
  have hR : ∀ (l : List Nat) (W : Win) (last : Nat), WinOk W → last < 18446744073709551616 → (∀ x ∈ l, x < 18446744073709551616) → WinOk (wR W last l) := by
    intro l
    induction l with
    | nil => intro W _ hW _ _; exact hW
    | cons x l ih =>
      intro W last hW hl hx
      rw [wR]
      exact ih _ _ (xwin_ok hW (xor_lt (hx x (by simp)) hl)) (hx x (by simp)) (fun y hy => hx y (by simp [hy]))
  cases l with
  | nil => exact h0
  | cons x l => exact hR l _ _ h0 (h x (by simp)) (fun y hy => h y (by simp [hy]))

/-- measures that stay -/
theorem xF_same (v n : Nat) : (xF (List.replicate (n + 1) v)).length = 64 + n := by
  have h : ∀ n, (xR (false, 0, 0) v (List.replicate n v)).length = n := by
    intro n
    induction n with
    | zero => rfl
    | succ n ih =>
      rw [List.replicate_succ, xR, Nat.xor_self, List.length_append]
      have : xwin (false, 0, 0) 0 = (false, 0, 0) := rfl
      rw [this, ih]
      show (toB 0 1).length + n = n + 1
      rw [toB_len]; omega
  rw [List.replicate_succ, xF, List.length_append, toB_len, h]
theorem packX_same (v n : Nat) : (packX (List.replicate (n + 1) v)).length = 80 + n := by
  unfold packX
  rw [List.length_append, toB_len, xF_same]; omega
/-- measures whose bits are turned -/
theorem xor_turn (a b c : Nat) : (a ^^^ c) ^^^ (b ^^^ c) = a ^^^ b := by
  rw [Nat.xor_comm b c, ← Nat.xor_assoc, Nat.xor_assoc a c c, Nat.xor_self, Nat.xor_zero]
theorem xR_turned (W : Win) (last c : Nat) (l : List Nat) : xR W (last ^^^ c) (l.map fun v => v ^^^ c) = xR W last l := by
  induction l generalizing W last with
  | nil => rfl
  | cons v l ih => rw [List.map_cons, xR, xR, xor_turn, ih]
/-- the bits behind the first measure -/
def behind : List Nat → List Bool
  | [] => []
  | v :: r => xR (false, 0, 0) v r
theorem behind_turned (c : Nat) (l : List Nat) : behind (l.map fun v => v ^^^ c) = behind l := by
  cases l with
  | nil => rfl
  | cons v l => exact xR_turned _ _ _ _
theorem packX_behind {l : List Nat} (h : l ≠ []) : ∃ pre, pre.length = 80 ∧ packX l = pre ++ behind l := by
  cases l with
  | nil => exact absurd rfl h
  | cons v l => exact ⟨toB (v :: l).length 16 ++ toB v 64, by rw [List.length_append, toB_len, toB_len], by rw [packX, xF, List.append_assoc]; rfl⟩
theorem packX_turned_len (c : Nat) (l : List Nat) : (packX (l.map fun v => v ^^^ c)).length = (packX l).length := by
  by_cases h : l = []
  · subst h; rfl
  · obtain ⟨p, hp, e⟩ := packX_behind h
    obtain ⟨q, hq, f⟩ := packX_behind (l := l.map fun v => v ^^^ c) (by simpa using h)
    rw [e, f, List.length_append, List.length_append, behind_turned, hp, hq]
theorem packX_turned_at {l : List Nat} (c : Nat) (h : l ≠ []) (i : Nat) (hi : 80 ≤ i) : bt (packX (l.map fun v => v ^^^ c)) i = bt (packX l) i := by
  obtain ⟨p, hp, e⟩ := packX_behind h
  obtain ⟨q, hq, f⟩ := packX_behind (l := l.map fun v => v ^^^ c) (by simpa using h)
  rw [e, f, bt_app_ge (by omega), bt_app_ge (by omega), behind_turned, hp, hq]
end Go.Proofs.YtmbpgenjjgepiaaDoor
