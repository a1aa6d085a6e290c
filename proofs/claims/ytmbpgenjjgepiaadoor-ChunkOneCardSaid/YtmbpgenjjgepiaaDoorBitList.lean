/- Bits in bytes, as a list of bits: plain laws. No program in sight. -/
import Derived.Test.YtmbpgenjjgepiaaDoorReader
namespace Go.Proofs.YtmbpgenjjgepiaaDoor

def bt (bs : List Bool) (i : Nat) : Nat := (bs.getD i false).toNat
theorem bt_lt (bs : List Bool) (i : Nat) : bt bs i < 2 := by unfold bt; cases bs.getD i false <;> simp
def byteAt (bs : List Bool) (i : Nat) : Nat :=
  bt bs (8 * i) * 128 + bt bs (8 * i + 1) * 64 + bt bs (8 * i + 2) * 32 + bt bs (8 * i + 3) * 16 + bt bs (8 * i + 4) * 8 + bt bs (8 * i + 5) * 4 + bt bs (8 * i + 6) * 2 + bt bs (8 * i + 7)
theorem byteAt_lt (bs : List Bool) (i : Nat) : byteAt bs i < 256 := by
  have h0 := bt_lt bs (8 * i); have h1 := bt_lt bs (8 * i + 1); have h2 := bt_lt bs (8 * i + 2); have h3 := bt_lt bs (8 * i + 3)
  have h4 := bt_lt bs (8 * i + 4); have h5 := bt_lt bs (8 * i + 5); have h6 := bt_lt bs (8 * i + 6); have h7 := bt_lt bs (8 * i + 7)
  unfold byteAt; omega
theorem byteAt_bit (bs : List Bool) (i j : Nat) (hj : j < 8) : byteAt bs i / 2 ^ (7 - j) % 2 = bt bs (8 * i + j) := by
  have h0 := bt_lt bs (8 * i); have h1 := bt_lt bs (8 * i + 1); have h2 := bt_lt bs (8 * i + 2); have h3 := bt_lt bs (8 * i + 3)
  have h4 := bt_lt bs (8 * i + 4); have h5 := bt_lt bs (8 * i + 5); have h6 := bt_lt bs (8 * i + 6); have h7 := bt_lt bs (8 * i + 7)
  unfold byteAt
  match j, hj with
  | 0, _ => rw [show (2 : Nat) ^ (7 - 0) = 128 from rfl]; show _ = bt bs (8 * i); omega
  | 1, _ => rw [show (2 : Nat) ^ (7 - 1) = 64 from rfl]; omega
  | 2, _ => rw [show (2 : Nat) ^ (7 - 2) = 32 from rfl]; omega
  | 3, _ => rw [show (2 : Nat) ^ (7 - 3) = 16 from rfl]; omega
  | 4, _ => rw [show (2 : Nat) ^ (7 - 4) = 8 from rfl]; omega
  | 5, _ => rw [show (2 : Nat) ^ (7 - 5) = 4 from rfl]; omega
  | 6, _ => rw [show (2 : Nat) ^ (7 - 6) = 2 from rfl]; omega
  | 7, _ => rw [show (2 : Nat) ^ (7 - 7) = 1 from rfl]; omega
def packB (bs : List Bool) : List Nat := (List.range ((bs.length + 7) / 8)).map (byteAt bs)
theorem packB_len (bs : List Bool) : (packB bs).length = (bs.length + 7) / 8 := by simp [packB]
theorem packB_bytes (bs : List Bool) : Bytes (packB bs) := by
  intro b hb
  simp only [packB, List.mem_map] at hb
  obtain ⟨i, _, rfl⟩ := hb
  exact byteAt_lt _ _
theorem packB_at {bs : List Bool} {i : Nat} (h : i < (bs.length + 7) / 8) : at_ (packB bs) i = byteAt bs i := by
  rw [at_eq (by rw [packB_len]; exact h)]
  simp [packB]
theorem bitAt_packB {bs : List Bool} {i : Nat} (h : i < bs.length) : bitAt (packB bs) i = bt bs i := by
  unfold bitAt
  rw [packB_at (by omega), byteAt_bit _ _ _ (Nat.mod_lt _ (by decide)), Nat.div_add_mod]
theorem bt_end {bs : List Bool} {i : Nat} (h : bs.length ≤ i) : bt bs i = 0 := by
  simp [bt, List.getD, List.getElem?_eq_none h]
theorem bt_app_lt {bs cs : List Bool} {i : Nat} (h : i < bs.length) : bt (bs ++ cs) i = bt bs i := by
  simp [bt, List.getD, List.getElem?_append_left h]
theorem bt_app_ge {bs cs : List Bool} {i : Nat} (h : bs.length ≤ i) : bt (bs ++ cs) i = bt cs (i - bs.length) := by
  simp [bt, List.getD, List.getElem?_append_right h]

/-- bits in form are a list of bits -/
def unB (l : List Nat) (m : Nat) : List Bool := (List.range m).map fun i => bitAt l i == 1
theorem unB_len (l : List Nat) (m : Nat) : (unB l m).length = m := by simp [unB]
theorem bt_unB {l : List Nat} {m i : Nat} (h : i < m) : bt (unB l m) i = bitAt l i := by
  have h1 := bitAt_lt l i
  simp only [bt, unB, List.getD, List.getElem?_map, List.getElem?_range h, Option.map_some, Option.getD_some]
  by_cases e : bitAt l i = 1
  · simp [e]
  · have : bitAt l i = 0 := by omega
    simp [this]
theorem byte_sum {b : Nat} (h : b < 256) : b / 128 % 2 * 128 + b / 64 % 2 * 64 + b / 32 % 2 * 32 + b / 16 % 2 * 16 + b / 8 % 2 * 8 + b / 4 % 2 * 4 + b / 2 % 2 * 2 + b % 2 = b := by omega
theorem packB_ok (bs : List Bool) : BOk (packB bs) bs.length := by
  refine ⟨by rw [packB_len]; omega, by rw [packB_len]; exact Nat.le_refl _, fun h => ?_⟩
  rw [packB_len, packB_at (by omega)]
  have e : ∀ j, bs.length % 8 ≤ j → bt bs (8 * ((bs.length + 7) / 8 - 1) + j) = 0 := fun j hj => bt_end (by omega)
  have h0 := bt_lt bs (8 * ((bs.length + 7) / 8 - 1)); have h1 := bt_lt bs (8 * ((bs.length + 7) / 8 - 1) + 1); have h2 := bt_lt bs (8 * ((bs.length + 7) / 8 - 1) + 2); have h3 := bt_lt bs (8 * ((bs.length + 7) / 8 - 1) + 3)
  have h4 := bt_lt bs (8 * ((bs.length + 7) / 8 - 1) + 4); have h5 := bt_lt bs (8 * ((bs.length + 7) / 8 - 1) + 5); have h6 := bt_lt bs (8 * ((bs.length + 7) / 8 - 1) + 6)
  have h7 := e 7 (by omega)
  unfold byteAt
  have hc : bs.length % 8 = 1 ∨ bs.length % 8 = 2 ∨ bs.length % 8 = 3 ∨ bs.length % 8 = 4 ∨ bs.length % 8 = 5 ∨ bs.length % 8 = 6 ∨ bs.length % 8 = 7 := by omega
  rcases hc with hc | hc | hc | hc | hc | hc | hc
  · rw [e 1 (by omega), e 2 (by omega), e 3 (by omega), e 4 (by omega), e 5 (by omega), e 6 (by omega), h7, hc]; omega
  · rw [e 2 (by omega), e 3 (by omega), e 4 (by omega), e 5 (by omega), e 6 (by omega), h7, hc]; omega
  · rw [e 3 (by omega), e 4 (by omega), e 5 (by omega), e 6 (by omega), h7, hc]; omega
  · rw [e 4 (by omega), e 5 (by omega), e 6 (by omega), h7, hc]; omega
  · rw [e 5 (by omega), e 6 (by omega), h7, hc]; omega
  · rw [e 6 (by omega), h7, hc]; omega
  · rw [h7, hc]; omega
theorem list_at_ext {l m : List Nat} (hl : l.length = m.length) (h : ∀ i, i < l.length → at_ l i = at_ m i) : l = m := by
  apply List.ext_getElem hl
  intro i h1 h2
  have := h i h1
  rwa [at_eq h1, at_eq h2] at this
theorem low1 : ∀ x : Fin 256, x.val * 2 % 256 = 0 → x.val / 128 % 2 * 128 + 0 * 64 + 0 * 32 + 0 * 16 + 0 * 8 + 0 * 4 + 0 * 2 + 0 = x.val := by decide +kernel
theorem low2 : ∀ x : Fin 256, x.val * 4 % 256 = 0 → x.val / 128 % 2 * 128 + x.val / 64 % 2 * 64 + 0 * 32 + 0 * 16 + 0 * 8 + 0 * 4 + 0 * 2 + 0 = x.val := by decide +kernel
theorem low3 : ∀ x : Fin 256, x.val * 8 % 256 = 0 → x.val / 128 % 2 * 128 + x.val / 64 % 2 * 64 + x.val / 32 % 2 * 32 + 0 * 16 + 0 * 8 + 0 * 4 + 0 * 2 + 0 = x.val := by decide +kernel
theorem low4 : ∀ x : Fin 256, x.val * 16 % 256 = 0 → x.val / 128 % 2 * 128 + x.val / 64 % 2 * 64 + x.val / 32 % 2 * 32 + x.val / 16 % 2 * 16 + 0 * 8 + 0 * 4 + 0 * 2 + 0 = x.val := by decide +kernel
theorem low5 : ∀ x : Fin 256, x.val * 32 % 256 = 0 → x.val / 128 % 2 * 128 + x.val / 64 % 2 * 64 + x.val / 32 % 2 * 32 + x.val / 16 % 2 * 16 + x.val / 8 % 2 * 8 + 0 * 4 + 0 * 2 + 0 = x.val := by decide +kernel
theorem low6 : ∀ x : Fin 256, x.val * 64 % 256 = 0 → x.val / 128 % 2 * 128 + x.val / 64 % 2 * 64 + x.val / 32 % 2 * 32 + x.val / 16 % 2 * 16 + x.val / 8 % 2 * 8 + x.val / 4 % 2 * 4 + 0 * 2 + 0 = x.val := by decide +kernel
theorem low7 : ∀ x : Fin 256, x.val * 128 % 256 = 0 → x.val / 128 % 2 * 128 + x.val / 64 % 2 * 64 + x.val / 32 % 2 * 32 + x.val / 16 % 2 * 16 + x.val / 8 % 2 * 8 + x.val / 4 % 2 * 4 + x.val / 2 % 2 * 2 + 0 = x.val := by decide +kernel
theorem packB_unB {l : List Nat} {m : Nat} (hb : Bytes l) (h : BOk l m) : packB (unB l m) = l := by
  obtain ⟨h1, h2, h3⟩ := h
  have hlen : (packB (unB l m)).length = l.length := by rw [packB_len, unB_len]; omega
  refine list_at_ext hlen (fun i hi => ?_)
  rw [hlen] at hi
  rw [packB_at (by rw [unB_len]; omega)]
  have hbi := hb.at i
  by_cases hfull : 8 * i + 8 ≤ m
  · have e : ∀ j, j < 8 → bt (unB l m) (8 * i + j) = at_ l i / 2 ^ (7 - j) % 2 := fun j hj => by
      rw [bt_unB (by omega), bitAt, show (8 * i + j) / 8 = i from by omega, show (8 * i + j) % 8 = j from by omega]
    unfold byteAt
    have e0 := e 0 (by omega)
    rw [Nat.add_zero] at e0
    rw [e0, e 1 (by omega), e 2 (by omega), e 3 (by omega), e 4 (by omega), e 5 (by omega), e 6 (by omega), e 7 (by omega)]
    have := byte_sum hbi
    simpa using this
  · have hlast : i = l.length - 1 := by omega
    have hpos : 0 < m % 8 := by omega
    have h4 := h3 hpos
    rw [← hlast] at h4
    have e : ∀ j, 8 * i + j < m → j < 8 → bt (unB l m) (8 * i + j) = at_ l i / 2 ^ (7 - j) % 2 := fun j hj hj8 => by
      rw [bt_unB hj, bitAt, show (8 * i + j) / 8 = i from by omega, show (8 * i + j) % 8 = j from by omega]
    have z : ∀ j, m ≤ 8 * i + j → bt (unB l m) (8 * i + j) = 0 := fun j hj => bt_end (by rw [unB_len]; exact hj)
    have e0 := e 0 (by omega) (by omega)
    rw [Nat.add_zero] at e0
    unfold byteAt
    rw [e0]
    have hc : m % 8 = 1 ∨ m % 8 = 2 ∨ m % 8 = 3 ∨ m % 8 = 4 ∨ m % 8 = 5 ∨ m % 8 = 6 ∨ m % 8 = 7 := by omega
    rcases hc with hc | hc | hc | hc | hc | hc | hc
    · rw [hc] at h4
      rw [z 1 (by omega), z 2 (by omega), z 3 (by omega), z 4 (by omega), z 5 (by omega), z 6 (by omega), z 7 (by omega)]
      have := low1 ⟨_, hbi⟩ h4
      simpa using this
    · rw [hc] at h4
      rw [e 1 (by omega) (by omega), z 2 (by omega), z 3 (by omega), z 4 (by omega), z 5 (by omega), z 6 (by omega), z 7 (by omega)]
      have := low2 ⟨_, hbi⟩ h4
      simpa using this
    · rw [hc] at h4
      rw [e 1 (by omega) (by omega), e 2 (by omega) (by omega), z 3 (by omega), z 4 (by omega), z 5 (by omega), z 6 (by omega), z 7 (by omega)]
      have := low3 ⟨_, hbi⟩ h4
      simpa using this
    · rw [hc] at h4
      rw [e 1 (by omega) (by omega), e 2 (by omega) (by omega), e 3 (by omega) (by omega), z 4 (by omega), z 5 (by omega), z 6 (by omega), z 7 (by omega)]
      have := low4 ⟨_, hbi⟩ h4
      simpa using this
    · rw [hc] at h4
      rw [e 1 (by omega) (by omega), e 2 (by omega) (by omega), e 3 (by omega) (by omega), e 4 (by omega) (by omega), z 5 (by omega), z 6 (by omega), z 7 (by omega)]
      have := low5 ⟨_, hbi⟩ h4
      simpa using this
    · rw [hc] at h4
      rw [e 1 (by omega) (by omega), e 2 (by omega) (by omega), e 3 (by omega) (by omega), e 4 (by omega) (by omega), e 5 (by omega) (by omega), z 6 (by omega), z 7 (by omega)]
      have := low6 ⟨_, hbi⟩ h4
      simpa using this
    · rw [hc] at h4
      rw [e 1 (by omega) (by omega), e 2 (by omega) (by omega), e 3 (by omega) (by omega), e 4 (by omega) (by omega), e 5 (by omega) (by omega), e 6 (by omega) (by omega), z 7 (by omega)]
      have := low7 ⟨_, hbi⟩ h4
      simpa using this

/-! ### Numbers and bits -/
def ofB : List Bool → Nat
  | [] => 0
  | b :: r => b.toNat * 2 ^ r.length + ofB r
theorem ofB_lt (bs : List Bool) : ofB bs < 2 ^ bs.length := by
  induction bs with
  | nil => simp [ofB]
  | cons b r ih => cases b <;> simp [ofB, Nat.pow_succ] <;> omega
theorem ofB_app (xs bs : List Bool) : ofB (xs ++ bs) = ofB xs * 2 ^ bs.length + ofB bs := by
  induction xs with
  | nil => simp [ofB]
  | cons a r ih => rw [List.cons_append, ofB, ih, ofB, List.length_append, Nat.pow_add, Nat.add_mul, Nat.mul_assoc]; omega
def toB (v : Nat) : Nat → List Bool
  | 0 => []
  | n + 1 => (v / 2 ^ n % 2 == 1) :: toB v n
theorem toB_len (v n : Nat) : (toB v n).length = n := by
  induction n with
  | zero => rfl
  | succ n ih => simp [toB, ih]
theorem ofB_toB (v n : Nat) : ofB (toB v n) = v % 2 ^ n := by
  induction n with
  | zero => simp [ofB, toB, Nat.mod_one]
  | succ n ih =>
    rw [toB, ofB, ih, toB_len, Nat.pow_succ, Nat.mod_mul]
    have : v / 2 ^ n % 2 < 2 := Nat.mod_lt _ (by decide)
    have e : (v / 2 ^ n % 2 == 1).toNat = v / 2 ^ n % 2 := by
      rcases Nat.mod_two_eq_zero_or_one (v / 2 ^ n) with h | h <;> rw [h] <;> rfl
    rw [e, Nat.mul_comm]
    omega
theorem ofB_inj {xs bs : List Bool} (hl : xs.length = bs.length) (h : ofB xs = ofB bs) : xs = bs := by
  induction xs generalizing bs with
  | nil => cases bs with
    | nil => rfl
    | cons b r => simp at hl
  | cons a r ih =>
    cases bs with
    | nil => simp at hl
    | cons b s =>
      simp only [List.length_cons, Nat.add_right_cancel_iff] at hl
      simp only [ofB, hl] at h
      have h1 := ofB_lt r
      have h2 := ofB_lt s
      rw [hl] at h1
      have : a = b := by
        cases a <;> cases b <;> simp at h <;> first | rfl | omega
      subst this
      rw [ih hl (by omega)]
theorem toB_ofB (bs : List Bool) : toB (ofB bs) bs.length = bs :=
  ofB_inj (toB_len _ _) (by rw [ofB_toB, Nat.mod_eq_of_lt (ofB_lt bs)])
theorem pullUp_eq {bs : List Bool} {p k : Nat} (h : p + k ≤ bs.length) : pullUp (packB bs) p k = ofB ((bs.drop p).take k) := by
  induction k with
  | zero => simp [pullUp, ofB]
  | succ k ih =>
    have hb : (bs.drop p)[k]? = some (bs[p + k]'(by omega)) := by rw [List.getElem?_drop]; exact List.getElem?_eq_getElem (by omega)
    rw [pullUp, ih (by omega), List.take_add_one, hb, ofB_app, bitAt_packB (by omega)]
    simp [bt, List.getD, List.getElem?_eq_getElem (show p + k < bs.length by omega), ofB]
    omega
end Go.Proofs.YtmbpgenjjgepiaaDoor
