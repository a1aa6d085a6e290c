/- Texts of the proof of ExprOne, joined (by merge.py). Conditions: each theorem's own hypotheses. -/
import Derived.Lib.ParseIntB
import Derived.Lib.ItoaNum
import Derived.Lib.Split
import Derived.Lib.Join
namespace Go.Proofs.YtnicbhmeigpjkaaGreatDoor

/-! ### numerals -/
theorem dig_toNat {d : Nat} (h : d < 10) : (UInt8.ofNat (48 + d)).toNat = 48 + d := by
  rw [UInt8.toNat_ofNat']
  omega
theorem parseM_dec (M : Nat) (hM : M ≤ 18446744073709551615) : ∀ (u acc : Nat), (∀ k, k ≤ Lib.nDigits u → acc * 10 ^ k + u / 10 ^ (Lib.nDigits u - k) ≤ M) → ∀ tail, Lib.parseUintM M acc (Lib.decDigits u ++ tail) = Lib.parseUintM M (acc * 10 ^ Lib.nDigits u + u) tail := by
  intro u
  induction u using Nat.strongRecOn with
  | ind u ih =>
    intro acc h tail
    by_cases hu : u < 10
    · rw [Lib.decDigits, dif_pos hu, Lib.nDigits_small hu]
      have h1 := h 1 (by rw [Lib.nDigits_small hu]; exact Nat.le_refl _)
      rw [Lib.nDigits_small hu, Nat.sub_self, Nat.pow_zero, Nat.div_one, Nat.pow_one] at h1
      rw [List.cons_append, List.nil_append, Nat.pow_one]
      unfold Lib.parseUintM
      rw [dig_toNat hu, if_pos (by omega), if_neg (by omega), if_neg (by omega), show 48 + u - 48 = u by omega]
      cases tail <;> rfl
    · rw [Lib.decDigits, dif_neg hu, List.append_assoc, Lib.nDigits_big hu]
      rw [Lib.nDigits_big hu] at h
      have hd : u / 10 / 10 ^ 0 = u / 10 := by rw [Nat.pow_zero, Nat.div_one]
      rw [ih (u / 10) (by omega) acc (fun k hk => ?_)]
      · have hl := h (Lib.nDigits (u / 10) + 1) (Nat.le_refl _)
        rw [Nat.sub_self, Nat.pow_zero, Nat.div_one, Nat.pow_succ, ← Nat.mul_assoc] at hl
        have hdm : u % 10 < 10 := Nat.mod_lt _ (by decide)
        rw [List.cons_append, List.nil_append]
        conv => lhs; unfold Lib.parseUintM
        rw [dig_toNat hdm, if_pos (by omega), if_neg (by omega), if_neg (by omega)]
        rw [Nat.pow_succ, ← Nat.mul_assoc]
        congr 1
        omega
      · have h1 := h k (by omega)
        have : u / 10 ^ (Lib.nDigits (u / 10) + 1 - k) = u / 10 / 10 ^ (Lib.nDigits (u / 10) - k) := by
          rw [show Lib.nDigits (u / 10) + 1 - k = (Lib.nDigits (u / 10) - k) + 1 by omega, Nat.pow_succ, Nat.mul_comm, ← Nat.div_div_eq_div_mul]
        rw [this] at h1
        exact h1
theorem decDigits_ne (u : Nat) : Lib.decDigits u ≠ [] := by
  intro h
  have := Lib.decDigits_length u
  rw [h] at this
  have := Lib.nDigits_pos u
  simp at *
  omega
theorem decDigits_digit (u : Nat) : ∀ c ∈ Lib.decDigits u, 48 ≤ c.toNat ∧ c.toNat ≤ 57 := by
  induction u using Nat.strongRecOn with
  | ind u ih =>
    intro c hc
    by_cases hu : u < 10
    · rw [Lib.decDigits, dif_pos hu, List.mem_singleton] at hc
      rw [hc, dig_toNat hu]; omega
    · rw [Lib.decDigits, dif_neg hu] at hc
      rcases List.mem_append.1 hc with h | h
      · exact ih _ (by omega) c h
      · rw [List.mem_singleton] at h
        rw [h, dig_toNat (Nat.mod_lt _ (by decide))]
        have := Nat.mod_lt u (show 0 < 10 by decide)
        omega
theorem parseU_dec {u : Nat} (h : u ≤ 18446744073709551615) : Lib.parseUintB 64 (Lib.decDigits u) = .ok u := by
  unfold Lib.parseUintB
  rw [if_neg (decDigits_ne u)]
  have := parseM_dec (2 ^ 64 - 1) (by decide) u 0 (fun k _ => by
    rw [Nat.zero_mul, Nat.zero_add]
    exact Nat.le_trans (Nat.div_le_self _ _) h) []
  rw [List.append_nil, Nat.zero_mul, Nat.zero_add] at this
  rw [this]
  rfl
/-- a numeral is read as it was told -/
theorem parse_itoa {n : Int} (h1 : -9223372036854775808 ≤ n) (h2 : n ≤ 9223372036854775807) : Lib.parseIntB 64 (Lib.itoa n) = .ok n := by
  unfold Lib.itoa
  by_cases hn : n < 0
  · rw [if_pos hn]
    unfold Lib.parseIntB
    simp only []
    have e45 : (45 : UInt8).toNat = 45 := rfl
    rw [if_pos (.inr e45), parseU_dec (by omega)]
    simp only [e45]
    rw [if_neg (by simp), if_neg (by simp; omega)]
    simp only [if_true]
    congr 1
    omega
  · rw [if_neg hn]
    obtain ⟨c, r, hc⟩ : ∃ c r, Lib.decDigits n.toNat = c :: r := by
      cases hd : Lib.decDigits n.toNat with
      | nil => exact absurd hd (decDigits_ne _)
      | cons c r => exact ⟨c, r, rfl⟩
    have hd := decDigits_digit n.toNat c (by rw [hc]; exact List.mem_cons_self)
    unfold Lib.parseIntB
    rw [hc]
    simp only []
    rw [if_neg (by omega), ← hc, parseU_dec (by omega)]
    have e45 : ¬ c.toNat = 45 := by omega
    simp only [e45]
    rw [if_neg (by simp; omega), if_neg (by simp)]
    simp only [if_false]
    congr 1
    omega
def numCh (c : UInt8) : Bool := decide (c.toNat = 45 ∨ (48 ≤ c.toNat ∧ c.toNat ≤ 57))
theorem itoa_num (n : Int) : ∀ c ∈ Lib.itoa n, numCh c = true := by
  intro c hc
  unfold Lib.itoa at hc
  unfold numCh
  rw [decide_eq_true_eq]
  split at hc
  · rcases List.mem_cons.1 hc with rfl | h
    · exact .inl rfl
    · exact .inr (decDigits_digit _ c h)
  · exact .inr (decDigits_digit _ c hc)
theorem itoa_ne (n : Int) : Lib.itoa n ≠ [] := by
  unfold Lib.itoa
  split
  · exact List.cons_ne_nil _ _
  · exact decDigits_ne _
theorem nDigits_le {u k : Nat} (h : u < 10 ^ (k + 1)) : Lib.nDigits u ≤ k + 1 := by
  induction k generalizing u with
  | zero => rw [Lib.nDigits_small (by simpa using h)]; exact Nat.le_refl _
  | succ k ih =>
    by_cases hu : u < 10
    · rw [Lib.nDigits_small hu]; omega
    · rw [Lib.nDigits_big hu]
      have := ih (u := u / 10) (by rw [Nat.pow_succ] at h; omega)
      omega
theorem itoa_len {n : Int} (h1 : -9223372036854775808 ≤ n) (h2 : n ≤ 9223372036854775807) : (Lib.itoa n).length ≤ 20 := by
  unfold Lib.itoa
  split
  · rw [List.length_cons, Lib.decDigits_length]
    have := nDigits_le (u := n.natAbs) (k := 18) (by omega)
    omega
  · rw [Lib.decDigits_length]
    have := nDigits_le (u := n.toNat) (k := 18) (by omega)
    omega
/-! ### texts that are cut -/
theorem index_at (c : UInt8) : ∀ (a r : List UInt8), c ∉ a → Lib.index (a ++ c :: r) [c] = (a.length : Int)
  | [], r, _ => by
    unfold Lib.index
    simp [List.isPrefixOf]
  | x :: a, r, h => by
    have h1 : x ≠ c := fun e => h (by rw [e]; exact List.mem_cons_self)
    have h2 : c ∉ a := fun e => h (List.mem_cons_of_mem _ e)
    rw [List.cons_append]
    unfold Lib.index
    rw [index_at c a r h2]
    have hb : ((a.length : Int) == -1) = false := by rw [beq_eq_false_iff_ne]; omega
    have hp : ([c] : List UInt8).isPrefixOf (x :: (a ++ c :: r)) = false := by
      simp [List.isPrefixOf]
      exact fun e => h1 e.symm
    rw [hp, hb]
    simp
theorem index_no (c : UInt8) : ∀ (a : List UInt8), c ∉ a → Lib.index a [c] = -1
  | [], _ => rfl
  | x :: a, h => by
    have h1 : x ≠ c := fun e => h (by rw [e]; exact List.mem_cons_self)
    have h2 : c ∉ a := fun e => h (List.mem_cons_of_mem _ e)
    unfold Lib.index
    rw [index_no c a h2]
    have hp : ([c] : List UInt8).isPrefixOf (x :: a) = false := by
      simp [List.isPrefixOf]
      exact fun e => h1 e.symm
    rw [hp]
    simp
theorem cut_at {c : UInt8} {a : List UInt8} (r : List UInt8) (h : c ∉ a) : Lib.cut (a ++ c :: r) [c] = (a, r, true) := by
  unfold Lib.cut
  rw [index_at c a r h, if_pos (by omega)]
  have e1 : (a.length : Int).toNat = a.length := by omega
  rw [e1, List.take_left]
  congr 2
  rw [List.length_singleton, List.drop_append, List.drop_eq_nil_of_le (by omega), List.nil_append, show a.length + 1 - a.length = 1 by omega]
  rfl
theorem cut_no {c : UInt8} {a : List UInt8} (h : c ∉ a) : Lib.cut a [c] = (a, [], false) := by
  unfold Lib.cut
  rw [index_no c a h, if_neg (by decide)]
/-! ### texts that are split -/
theorem count_join (c : UInt8) : ∀ (r : List (List UInt8)) (x : List UInt8) (fuel : Nat), (∀ y ∈ x :: r, c ∉ y) → (x ++ Lib.joinTail [c] r).length < fuel → Lib.countFrom [c] fuel (x ++ Lib.joinTail [c] r) = r.length
  | [], x, fuel, h, hf => by
    obtain ⟨f, rfl⟩ : ∃ f, fuel = f + 1 := ⟨fuel - 1, by omega⟩
    have hx : c ∉ x ++ Lib.joinTail [c] [] := by
      simp only [Lib.joinTail, List.map_nil, List.flatten_nil, List.append_nil]
      exact h x List.mem_cons_self
    unfold Lib.countFrom
    rw [index_no c _ hx]
    rfl
  | y :: r, x, fuel, h, hf => by
    obtain ⟨f, rfl⟩ : ∃ f, fuel = f + 1 := ⟨fuel - 1, by omega⟩
    have e : x ++ Lib.joinTail [c] (y :: r) = x ++ c :: (y ++ Lib.joinTail [c] r) := by simp [Lib.joinTail]
    rw [e] at hf ⊢
    unfold Lib.countFrom
    rw [index_at c x _ (h x List.mem_cons_self)]
    have hb : ((x.length : Int) == -1) = false := by rw [beq_eq_false_iff_ne]; omega
    rw [hb]
    have e1 : (x.length : Int).toNat = x.length := by omega
    rw [if_neg (by decide), e1, List.length_singleton, List.drop_append, List.drop_eq_nil_of_le (by omega), List.nil_append, show x.length + 1 - x.length = 1 by omega]
    show 1 + Lib.countFrom [c] f (y ++ Lib.joinTail [c] r) = _
    rw [count_join c r y f (fun z hz => h z (List.mem_cons_of_mem _ hz)) (by simp only [List.length_append, List.length_cons] at hf ⊢; omega), List.length_cons]
    omega
theorem splitK_join (c : UInt8) : ∀ (r : List (List UInt8)) (x : List UInt8), (∀ y ∈ x :: r, c ∉ y) → Lib.splitK [c] 0 r.length (x ++ Lib.joinTail [c] r) = x :: r
  | [], x, h => by simp [Lib.splitK, Lib.joinTail]
  | y :: r, x, h => by
    have e : x ++ Lib.joinTail [c] (y :: r) = x ++ c :: (y ++ Lib.joinTail [c] r) := by simp [Lib.joinTail]
    rw [e, List.length_cons]
    unfold Lib.splitK
    rw [index_at c x _ (h x List.mem_cons_self)]
    have hb : ((x.length : Int) == -1) = false := by rw [beq_eq_false_iff_ne]; omega
    rw [hb]
    have e1 : (x.length : Int).toNat = x.length := by omega
    rw [if_neg (by decide), e1, Nat.add_zero, List.take_left, List.length_singleton, List.drop_append, List.drop_eq_nil_of_le (by omega), List.nil_append, show x.length + 1 - x.length = 1 by omega]
    show x :: Lib.splitK [c] 0 r.length (y ++ Lib.joinTail [c] r) = _
    rw [splitK_join c r y (fun z hz => h z (List.mem_cons_of_mem _ hz))]
theorem split_join {c : UInt8} {l : List (List UInt8)} (hn : l ≠ []) (h : ∀ y ∈ l, c ∉ y) : Lib.split (Lib.join l [c]) [c] = l := by
  cases l with
  | nil => exact absurd rfl hn
  | cons x r =>
    rw [Lib.join_cons]
    unfold Lib.split Lib.count
    rw [count_join c r x _ h (Nat.lt_succ_self _), splitK_join c r x h]
end Go.Proofs.YtnicbhmeigpjkaaGreatDoor
