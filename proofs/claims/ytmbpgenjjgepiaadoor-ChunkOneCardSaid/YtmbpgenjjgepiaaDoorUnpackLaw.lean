
/- What Unpack of package delta reads: plain laws. No program in sight. -/
import Derived.Test.YtmbpgenjjgepiaaDoorChange
namespace Go.Proofs.YtmbpgenjjgepiaaDoor
open Go.RowKit

/-- the times read: how many are still to come, whether one is there already, the state, the last time and step -/
def unpR (bs : List Bool) : Nat → Bool → Nat × Bool → Int → Int → List Int × (Nat × Bool)
  | 0, _, s, _, _ => ([], s)
  | n + 1, old, s, last, step =>
    if s.2 then ([], s)
    else if old then
      (wrap64 (last + wrap64 (step + (chgD bs s).1)) :: (unpR bs n true (chgD bs s).2 (wrap64 (last + wrap64 (step + (chgD bs s).1))) (wrap64 (step + (chgD bs s).1))).1,
        (unpR bs n true (chgD bs s).2 (wrap64 (last + wrap64 (step + (chgD bs s).1))) (wrap64 (step + (chgD bs s).1))).2)
    else
      (wrap64 (tk bs s 64).1 :: (unpR bs n true (tk bs s 64).2 (wrap64 (tk bs s 64).1) step).1, (unpR bs n true (tk bs s 64).2 (wrap64 (tk bs s 64).1) step).2)
def unpD (bs : List Bool) : List Int × (Nat × Bool) := unpR bs (tk bs (0, false) 16).1 false (tk bs (0, false) 16).2 0 0
/-- what Unpack answers of bits in form -/
def unpN (bs : List Bool) : List Int × Int :=
  if (unpD bs).2.2 ∨ (packN (unpD bs).1).2 ≠ 0 ∨ packT (unpD bs).1 ≠ bs then ([], 4) else ((unpD bs).1, 0)

theorem sext7 {c : Int} (h : -64 ≤ c ∧ c < 64) : sext (u64I c % 2 ^ 7) 7 = c := by
  unfold sext u64I
  rw [show (2 : Int) ^ (64 - 7) = 144115188075855872 from rfl, show (2 : Nat) ^ 7 = 128 from rfl]
  unfold wrap64; omega
theorem sext9 {c : Int} (h : -256 ≤ c ∧ c < 256) : sext (u64I c % 2 ^ 9) 9 = c := by
  unfold sext u64I
  rw [show (2 : Int) ^ (64 - 9) = 36028797018963968 from rfl, show (2 : Nat) ^ 9 = 512 from rfl]
  unfold wrap64; omega
theorem sext12 {c : Int} (h : -2048 ≤ c ∧ c < 2048) : sext (u64I c % 2 ^ 12) 12 = c := by
  unfold sext u64I
  rw [show (2 : Int) ^ (64 - 12) = 4503599627370496 from rfl, show (2 : Nat) ^ 12 = 4096 from rfl]
  unfold wrap64; omega
theorem sext64 {c : Int} (h : -9223372036854775808 ≤ c ∧ c ≤ 9223372036854775807) : sext (u64I c % 2 ^ 64) 64 = c := by
  unfold sext u64I
  rw [show (2 : Int) ^ (64 - 64) = 1 from rfl, show (2 : Nat) ^ 64 = 18446744073709551616 from rfl]
  unfold wrap64; omega
theorem ones_t {pre rest bs : List Bool} (hb : bs = pre ++ true :: rest) (f : Nat) : ones bs (f + 1) (pre.length, false) = ((ones bs f ((pre ++ [true]).length, false)).1 + 1, (ones bs f ((pre ++ [true]).length, false)).2) := by
  have h := tk_any' (v := 1) (n := 1) (bs := bs) (pre := pre) (rest := rest) hb
  rw [ones, h]
  rfl
theorem ones_f {pre rest bs : List Bool} (hb : bs = pre ++ false :: rest) (f : Nat) : ones bs (f + 1) (pre.length, false) = (0, ((pre ++ [false]).length, false)) := by
  have h := tk_any' (v := 0) (n := 1) (bs := bs) (pre := pre) (rest := rest) hb
  rw [ones, h]
  rfl
theorem ones_z (bs : List Bool) (s : Nat × Bool) : ones bs 0 s = (0, s) := rfl
theorem app5 (a b c d : List Bool) : a ++ (b ++ (c ++ d)) = a ++ b ++ (c ++ d) := by simp
theorem chg_read {pre rest bs : List Bool} {c : Int} (hc : -9223372036854775808 ≤ c ∧ c ≤ 9223372036854775807) (hb : bs = pre ++ (chg c ++ rest)) : chgD bs (pre.length, false) = (c, ((pre ++ chg c).length, false)) := by
  have hr : rowOf c = 0 ∧ c = 0 ∨ rowOf c = 1 ∧ -64 ≤ c ∧ c < 64 ∨ rowOf c = 2 ∧ -256 ≤ c ∧ c < 256 ∨ rowOf c = 3 ∧ -2048 ≤ c ∧ c < 2048 ∨ rowOf c = 4 := by
    unfold rowOf; repeat' split
    all_goals omega
  rcases hr with ⟨h, h0⟩ | ⟨h, h0⟩ | ⟨h, h0⟩ | ⟨h, h0⟩ | h
  · have e : chg c = [false] := by unfold chg; rw [h]; rfl
    rw [e] at hb ⊢
    rw [chg_none (ones_f (rest := rest) hb 3), h0]
  · have e : chg c = true :: false :: toB (u64I c) 7 := by unfold chg; rw [h]; rfl
    rw [e] at hb ⊢
    have h1 : bs = pre ++ true :: (false :: (toB (u64I c) 7 ++ rest)) := by rw [hb]; simp
    have h2 : bs = (pre ++ [true]) ++ false :: (toB (u64I c) 7 ++ rest) := by rw [hb]; simp
    have h3 : bs = (pre ++ [true] ++ [false]) ++ (toB (u64I c) 7 ++ rest) := by rw [hb]; simp
    have ho : ones bs 4 (pre.length, false) = (1, ((pre ++ [true] ++ [false]).length, false)) := by rw [ones_t h1, ones_f h2]
    rw [chg_some ho (by decide), show (markOf 1).2.2 = 7 from rfl, tk_any' h3, sext7 h0]
    simp
  · have e : chg c = true :: true :: false :: toB (u64I c) 9 := by unfold chg; rw [h]; rfl
    rw [e] at hb ⊢
    have h1 : bs = pre ++ true :: (true :: false :: (toB (u64I c) 9 ++ rest)) := by rw [hb]; simp
    have h2 : bs = (pre ++ [true]) ++ true :: (false :: (toB (u64I c) 9 ++ rest)) := by rw [hb]; simp
    have h3 : bs = (pre ++ [true] ++ [true]) ++ false :: (toB (u64I c) 9 ++ rest) := by rw [hb]; simp
    have h4 : bs = (pre ++ [true] ++ [true] ++ [false]) ++ (toB (u64I c) 9 ++ rest) := by rw [hb]; simp
    have ho : ones bs 4 (pre.length, false) = (2, ((pre ++ [true] ++ [true] ++ [false]).length, false)) := by rw [ones_t h1, ones_t h2, ones_f h3]
    rw [chg_some ho (by decide), show (markOf 2).2.2 = 9 from rfl, tk_any' h4, sext9 h0]
    simp
  · have e : chg c = true :: true :: true :: false :: toB (u64I c) 12 := by unfold chg; rw [h]; rfl
    rw [e] at hb ⊢
    have h1 : bs = pre ++ true :: (true :: true :: false :: (toB (u64I c) 12 ++ rest)) := by rw [hb]; simp
    have h2 : bs = (pre ++ [true]) ++ true :: (true :: false :: (toB (u64I c) 12 ++ rest)) := by rw [hb]; simp
    have h3 : bs = (pre ++ [true] ++ [true]) ++ true :: (false :: (toB (u64I c) 12 ++ rest)) := by rw [hb]; simp
    have h4 : bs = (pre ++ [true] ++ [true] ++ [true]) ++ false :: (toB (u64I c) 12 ++ rest) := by rw [hb]; simp
    have h5 : bs = (pre ++ [true] ++ [true] ++ [true] ++ [false]) ++ (toB (u64I c) 12 ++ rest) := by rw [hb]; simp
    have ho : ones bs 4 (pre.length, false) = (3, ((pre ++ [true] ++ [true] ++ [true] ++ [false]).length, false)) := by rw [ones_t h1, ones_t h2, ones_t h3, ones_f h4]
    rw [chg_some ho (by decide), show (markOf 3).2.2 = 12 from rfl, tk_any' h5, sext12 h0]
    simp
  · have e : chg c = true :: true :: true :: true :: toB (u64I c) 64 := by unfold chg; rw [h]; rfl
    rw [e] at hb ⊢
    have h1 : bs = pre ++ true :: (true :: true :: true :: (toB (u64I c) 64 ++ rest)) := by rw [hb]; simp
    have h2 : bs = (pre ++ [true]) ++ true :: (true :: true :: (toB (u64I c) 64 ++ rest)) := by rw [hb]; simp
    have h3 : bs = (pre ++ [true] ++ [true]) ++ true :: (true :: (toB (u64I c) 64 ++ rest)) := by rw [hb]; simp
    have h4 : bs = (pre ++ [true] ++ [true] ++ [true]) ++ true :: (toB (u64I c) 64 ++ rest) := by rw [hb]; simp
    have h5 : bs = (pre ++ [true] ++ [true] ++ [true] ++ [true]) ++ (toB (u64I c) 64 ++ rest) := by rw [hb]; simp
    have ho : ones bs 4 (pre.length, false) = (4, ((pre ++ [true] ++ [true] ++ [true] ++ [true]).length, false)) := by rw [ones_t h1, ones_t h2, ones_t h3, ones_t h4, ones_z]
    rw [chg_some ho (by decide), show (markOf 4).2.2 = 64 from rfl, tk_any' h5, sext64 hc]
    simp
theorem chgOf_in (last step t : Int) : -9223372036854775808 ≤ chgOf last step t ∧ chgOf last step t ≤ 9223372036854775807 := by unfold chgOf wrap64; omega
theorem chg_step (last step t : Int) : wrap64 (step + chgOf last step t) = wrap64 (t - last) := by unfold chgOf wrap64; omega
theorem chg_last (last t : Int) (ht : -9223372036854775808 ≤ t ∧ t ≤ 9223372036854775807) : wrap64 (last + wrap64 (t - last)) = t := by unfold wrap64; omega
theorem unpR_read {bs : List Bool} : ∀ (r : List Int) (pre : List Bool) (last step : Int), I64s r → bs = pre ++ packR last step r → unpR bs r.length true (pre.length, false) last step = (r, (bs.length, false))
  | [], pre, last, step, _, hb => by
    have e : bs = pre := by rw [hb]; simp [packR]
    subst e
    rfl
  | t :: r, pre, last, step, hi, hb => by
    have hb1 : bs = pre ++ (chg (chgOf last step t) ++ packR t (wrap64 (t - last)) r) := hb
    have h1 := chg_read (chgOf_in last step t) hb1
    have h2 := unpR_read (bs := bs) r (pre ++ chg (chgOf last step t)) t (wrap64 (t - last)) (fun x hx => hi x (by simp [hx])) (by rw [hb1]; simp)
    rw [List.length_cons, unpR, if_neg (by simp), if_pos rfl, h1]
    simp only
    rw [chg_step, chg_last last t (hi t (by simp)), h2]
theorem u64I_back {t : Int} (ht : -9223372036854775808 ≤ t ∧ t ≤ 9223372036854775807) : wrap64 ((u64I t : Nat) : Int) = t := by unfold u64I wrap64; omega
theorem unpD_pack {l : List Int} (hi : I64s l) (hl : l.length ≤ 1000) : unpD (packT l) = (l, ((packT l).length, false)) := by
  have h1 : packT l = [] ++ (toB l.length 16 ++ packF l) := rfl
  have h2 := tk_app' (n := 16) h1 (by omega)
  unfold unpD
  rw [show (([] : List Bool).length, false) = (0, false) from rfl] at h2
  rw [h2]
  simp only
  cases l with
  | nil => rfl
  | cons t r =>
    have h3 : packT (t :: r) = ([] ++ toB (t :: r).length 16) ++ (toB (u64I t) 64 ++ packR t 0 r) := rfl
    have h4 := tk_app' (n := 64) h3 (u64I_lt t)
    have h5 := unpR_read (bs := packT (t :: r)) r (([] ++ toB (t :: r).length 16) ++ toB (u64I t) 64) t 0 (fun x hx => hi x (by simp [hx])) (by rw [h3]; simp)
    obtain ⟨B, hB⟩ : ∃ B, packT (t :: r) = B := ⟨_, rfl⟩
    rw [hB] at h4 h5 ⊢
    rw [List.length_cons, unpR, if_neg (by simp), if_neg (by simp)]
    rw [List.length_cons] at h4 h5
    rw [h4]
    simp only
    rw [u64I_back (hi t (by simp)), h5]
theorem unpN_pack {l : List Int} (hi : I64s l) (hl : l.length ≤ 1000) : unpN (packT l) = (l, 0) := by
  unfold unpN
  rw [unpD_pack hi hl]
  have hp : (packN l).2 = 0 := by unfold packN; rw [if_neg (by omega)]
  rw [if_neg (by simp [hp])]
theorem chgD_le {bs : List Bool} {s : Nat × Bool} (hs : s.1 ≤ bs.length) : (chgD bs s).2.1 ≤ bs.length := by
  unfold chgD
  split
  · have : ∀ f q, q.1 ≤ bs.length → (ones bs f q).2.1 ≤ bs.length := by
      intro f
      induction f with
      | zero => intro q hq; exact hq
      | succ f ih =>
        intro q hq
        rw [ones]
        split
        · exact ih _ tk_le
        · exact tk_le
    exact this 4 s hs
  · exact tk_le
theorem unpR_in (bs : List Bool) : ∀ (n : Nat) (old : Bool) (s : Nat × Bool) (last step : Int), I64s (unpR bs n old s last step).1
  | 0, _, _, _, _ => by intro x hx; simp [unpR] at hx
  | n + 1, old, s, last, step => by
    have hw : ∀ y : Int, -9223372036854775808 ≤ wrap64 y ∧ wrap64 y ≤ 9223372036854775807 := fun y => by unfold wrap64; omega
    rw [unpR]
    split
    · intro x hx; simp at hx
    · split
      · intro x hx
        rcases List.mem_cons.1 hx with rfl | hx
        · exact hw _
        · exact unpR_in bs n _ _ _ _ x hx
      · intro x hx
        rcases List.mem_cons.1 hx with rfl | hx
        · exact hw _
        · exact unpR_in bs n _ _ _ _ x hx
end Go.Proofs.YtmbpgenjjgepiaaDoor
