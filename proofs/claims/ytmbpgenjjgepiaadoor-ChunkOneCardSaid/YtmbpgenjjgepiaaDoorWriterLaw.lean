/- One bit more in bytes: plain laws. No program in sight. -/
import Derived.Test.YtmbpgenjjgepiaaDoorBitList
namespace Go.Proofs.YtmbpgenjjgepiaaDoor

def packL (bs : List Bool) : List Nat := (List.range (bs.length / 8 + 1)).map (byteAt bs)
theorem packL_len (bs : List Bool) : (packL bs).length = bs.length / 8 + 1 := by simp [packL]
theorem packL_bytes (bs : List Bool) : Bytes (packL bs) := by
  intro b hb
  simp only [packL, List.mem_map] at hb
  obtain ⟨i, _, rfl⟩ := hb
  exact byteAt_lt _ _
theorem byteAt_end {bs : List Bool} {i : Nat} (h : bs.length ≤ 8 * i) : byteAt bs i = 0 := by
  unfold byteAt
  rw [bt_end h, bt_end (by omega), bt_end (by omega), bt_end (by omega), bt_end (by omega), bt_end (by omega), bt_end (by omega), bt_end (by omega)]
theorem packL_full {bs : List Bool} (h : bs.length % 8 = 0) : packL bs = packB bs ++ [0] := by
  have e : (bs.length + 7) / 8 = bs.length / 8 := by omega
  unfold packL packB
  rw [List.range_succ, List.map_append, e, List.map_cons, List.map_nil, byteAt_end (by omega)]
theorem packL_part {bs : List Bool} (h : bs.length % 8 ≠ 0) : packL bs = packB bs := by
  have e : (bs.length + 7) / 8 = bs.length / 8 + 1 := by omega
  unfold packL packB
  rw [e]
theorem packL_at (bs : List Bool) : at_ (packL bs) (bs.length / 8) = byteAt bs (bs.length / 8) := by
  rw [at_eq (by rw [packL_len]; omega)]
  simp [packL]
theorem bt_app_ne {bs : List Bool} {b : Bool} {i : Nat} (h : i ≠ bs.length) : bt (bs ++ [b]) i = bt bs i := by
  rcases Nat.lt_or_gt_of_ne h with h1 | h1
  · exact bt_app_lt h1
  · rw [bt_end (by simp; omega), bt_end (by omega)]
theorem bt_app_self (bs : List Bool) (b : Bool) : bt (bs ++ [b]) bs.length = b.toNat := by
  rw [bt_app_ge (Nat.le_refl _), Nat.sub_self]
  rfl
theorem byteAt_app_ne {bs : List Bool} {b : Bool} {i : Nat} (h : i ≠ bs.length / 8) : byteAt (bs ++ [b]) i = byteAt bs i := by
  unfold byteAt
  rw [bt_app_ne (by omega), bt_app_ne (by omega), bt_app_ne (by omega), bt_app_ne (by omega), bt_app_ne (by omega), bt_app_ne (by omega), bt_app_ne (by omega), bt_app_ne (by omega)]
theorem byteAt_app_eq (bs : List Bool) (b : Bool) : byteAt (bs ++ [b]) (bs.length / 8) = byteAt bs (bs.length / 8) + b.toNat * 2 ^ (7 - bs.length % 8) := by
  have hs := bt_app_self bs b
  have hz : bt bs bs.length = 0 := bt_end (Nat.le_refl _)
  have hc : bs.length % 8 = 0 ∨ bs.length % 8 = 1 ∨ bs.length % 8 = 2 ∨ bs.length % 8 = 3 ∨ bs.length % 8 = 4 ∨ bs.length % 8 = 5 ∨ bs.length % 8 = 6 ∨ bs.length % 8 = 7 := by omega
  have hn : ∀ i, i ≠ bs.length → bt (bs ++ [b]) i = bt bs i := fun i hi => bt_app_ne hi
  obtain ⟨q, hq⟩ : ∃ q, bs.length / 8 = q := ⟨_, rfl⟩
  rw [hq]
  unfold byteAt
  rcases hc with hc | hc | hc | hc | hc | hc | hc | hc
  · have e : bs.length = 8 * q := by omega
    rw [e] at hs hz
    rw [hs, hz, hn (8 * q + 1) (by omega), hn (8 * q + 2) (by omega), hn (8 * q + 3) (by omega), hn (8 * q + 4) (by omega), hn (8 * q + 5) (by omega), hn (8 * q + 6) (by omega), hn (8 * q + 7) (by omega), hc]; omega
  · have e : bs.length = 8 * q + 1 := by omega
    rw [e] at hs hz
    rw [hs, hz, hn (8 * q) (by omega), hn (8 * q + 2) (by omega), hn (8 * q + 3) (by omega), hn (8 * q + 4) (by omega), hn (8 * q + 5) (by omega), hn (8 * q + 6) (by omega), hn (8 * q + 7) (by omega), hc]; omega
  · have e : bs.length = 8 * q + 2 := by omega
    rw [e] at hs hz
    rw [hs, hz, hn (8 * q) (by omega), hn (8 * q + 1) (by omega), hn (8 * q + 3) (by omega), hn (8 * q + 4) (by omega), hn (8 * q + 5) (by omega), hn (8 * q + 6) (by omega), hn (8 * q + 7) (by omega), hc]; omega
  · have e : bs.length = 8 * q + 3 := by omega
    rw [e] at hs hz
    rw [hs, hz, hn (8 * q) (by omega), hn (8 * q + 1) (by omega), hn (8 * q + 2) (by omega), hn (8 * q + 4) (by omega), hn (8 * q + 5) (by omega), hn (8 * q + 6) (by omega), hn (8 * q + 7) (by omega), hc]; omega
  · have e : bs.length = 8 * q + 4 := by omega
    rw [e] at hs hz
    rw [hs, hz, hn (8 * q) (by omega), hn (8 * q + 1) (by omega), hn (8 * q + 2) (by omega), hn (8 * q + 3) (by omega), hn (8 * q + 5) (by omega), hn (8 * q + 6) (by omega), hn (8 * q + 7) (by omega), hc]; omega
  · have e : bs.length = 8 * q + 5 := by omega
    rw [e] at hs hz
    rw [hs, hz, hn (8 * q) (by omega), hn (8 * q + 1) (by omega), hn (8 * q + 2) (by omega), hn (8 * q + 3) (by omega), hn (8 * q + 4) (by omega), hn (8 * q + 6) (by omega), hn (8 * q + 7) (by omega), hc]; omega
  · have e : bs.length = 8 * q + 6 := by omega
    rw [e] at hs hz
    rw [hs, hz, hn (8 * q) (by omega), hn (8 * q + 1) (by omega), hn (8 * q + 2) (by omega), hn (8 * q + 3) (by omega), hn (8 * q + 4) (by omega), hn (8 * q + 5) (by omega), hn (8 * q + 7) (by omega), hc]; omega
  · have e : bs.length = 8 * q + 7 := by omega
    rw [e] at hs hz
    rw [hs, hz, hn (8 * q) (by omega), hn (8 * q + 1) (by omega), hn (8 * q + 2) (by omega), hn (8 * q + 3) (by omega), hn (8 * q + 4) (by omega), hn (8 * q + 5) (by omega), hn (8 * q + 6) (by omega), hc]; omega
theorem packB_app1 (bs : List Bool) (b : Bool) : packB (bs ++ [b]) = (packL bs).set (bs.length / 8) (byteAt bs (bs.length / 8) + b.toNat * 2 ^ (7 - bs.length % 8)) := by
  apply List.ext_getElem
  · rw [packB_len, List.length_set, packL_len, List.length_append, List.length_cons, List.length_nil]; omega
  · intro i h1 h2
    rw [List.getElem_set]
    rw [List.length_set, packL_len] at h2
    split
    · rename_i e
      subst e
      simp only [packB, List.getElem_map, List.getElem_range]
      exact byteAt_app_eq bs b
    · rename_i e
      simp only [packB, packL, List.getElem_map, List.getElem_range]
      exact byteAt_app_ne (fun h => e h.symm)
theorem or_bit : ∀ x : Fin 256, ∀ s : Fin 8, x.val / 2 ^ s.val % 2 = 0 → x.val ||| 1 * 2 ^ s.val = x.val + 1 * 2 ^ s.val := by decide +kernel
theorem byteAt_free (bs : List Bool) : byteAt bs (bs.length / 8) / 2 ^ (7 - bs.length % 8) % 2 = 0 := by
  rw [byteAt_bit _ _ _ (Nat.mod_lt _ (by decide)), Nat.div_add_mod, bt_end (Nat.le_refl _)]
theorem byteAt_or (bs : List Bool) (b : Bool) : byteAt bs (bs.length / 8) ||| b.toNat * 2 ^ (7 - bs.length % 8) = byteAt bs (bs.length / 8) + b.toNat * 2 ^ (7 - bs.length % 8) := by
  cases b
  · simp
  · exact or_bit ⟨_, byteAt_lt bs _⟩ ⟨7 - bs.length % 8, by omega⟩ (byteAt_free bs)
theorem toB_step (v j : Nat) (bs : List Bool) : bs ++ toB v (j + 1) = (bs ++ [v / 2 ^ j % 2 == 1]) ++ toB v j := by simp [toB]
theorem bool_nat (x : Nat) (h : x < 2) : (x == 1).toNat = x := by
  rcases (show x = 0 ∨ x = 1 by omega) with rfl | rfl <;> rfl
/-- what the code stores -/
theorem put_fin {bs : List Bool} {v j : Nat} (hv : v < 18446744073709551616) {old : Nat} (ho : old = byteAt bs (bs.length / 8)) :
    bits .or .u8 (old : Int) (IntKind.u8.wrap (IntKind.u8.wrap (bits .and .u64 ((v : Int) / 2 ^ j) 1) * 2 ^ (7 - bs.length % 8))) = ((byteAt bs (bs.length / 8) + (v / 2 ^ j % 2 == 1).toNat * 2 ^ (7 - bs.length % 8) : Nat) : Int) := by
  subst ho
  have hb : v / 2 ^ j % 2 < 2 := Nat.mod_lt _ (by decide)
  have e : (v : Int) / 2 ^ j = ((v / 2 ^ j : Nat) : Int) := by rw [Int.natCast_ediv, Int.natCast_pow]; rfl
  rw [e, show (1 : Int) = ((1 : Nat) : Int) from rfl, bits_and_u64_nat _ _ (Nat.lt_of_le_of_lt (Nat.div_le_self _ _) hv) (by omega), Nat.and_one_is_mod]
  have hp : (2 : Nat) ^ (7 - bs.length % 8) ≤ 128 := Nat.pow_le_pow_right (n := 2) (by decide) (show 7 - bs.length % 8 ≤ 7 by omega)
  have hm : v / 2 ^ j % 2 * 2 ^ (7 - bs.length % 8) ≤ 128 := Nat.le_trans (Nat.mul_le_mul (show v / 2 ^ j % 2 ≤ 1 by omega) hp) (by decide)
  rw [show IntKind.u8.wrap ((v / 2 ^ j % 2 : Nat) : Int) = ((v / 2 ^ j % 2 : Nat) : Int) from by rw [IntKind.wrap_u8]; omega]
  have e2 : ((v / 2 ^ j % 2 : Nat) : Int) * 2 ^ (7 - bs.length % 8) = ((v / 2 ^ j % 2 * 2 ^ (7 - bs.length % 8) : Nat) : Int) := by rw [Int.natCast_mul, Int.natCast_pow]; rfl
  rw [e2, show IntKind.u8.wrap ((v / 2 ^ j % 2 * 2 ^ (7 - bs.length % 8) : Nat) : Int) = ((v / 2 ^ j % 2 * 2 ^ (7 - bs.length % 8) : Nat) : Int) from by rw [IntKind.wrap_u8]; omega]
  rw [u8_or_nat _ _ (byteAt_lt _ _) (by omega)]
  have h := byteAt_or bs (v / 2 ^ j % 2 == 1)
  rw [bool_nat _ hb] at h ⊢
  rw [h]
end Go.Proofs.YtmbpgenjjgepiaaDoor
