/- What Unpack of package xor reads: plain laws. No program in sight. -/
import Derived.Test.YtmbpgenjjgepiaaDoorXorLaw
import Derived.Test.YtmbpgenjjgepiaaDoorTakeBits
namespace Go.Proofs.YtmbpgenjjgepiaaDoor
open Go.RowKit

/-- the window of the reader: what is read may leave less than nothing behind -/
abbrev WinZ := Bool × Nat × Int
def winZ (W : Win) : WinZ := (W.1, W.2.1, (W.2.2 : Int))
/-- one turn read: the window's mark first -/
def turnW (bs : List Bool) (s : Nat × Bool) (W : WinZ) : WinZ × (Nat × Bool) :=
  if (tk bs s 1).1 = 1 then
    ((true, (tk bs (tk bs s 1).2 6).1, 64 - ((tk bs (tk bs s 1).2 6).1 : Int) - ((tk bs (tk bs (tk bs s 1).2 6).2 6).1 + 1 : Nat)), (tk bs (tk bs (tk bs s 1).2 6).2 6).2)
  else (W, (tk bs s 1).2)
def turnV (bs : List Bool) (s : Nat × Bool) (W : WinZ) : Nat × (Nat × Bool) :=
  if W.1 = false ∨ W.2.2 < 0 then (0, (s.1, true))
  else ((tk bs s (64 - W.2.1 - W.2.2.toNat)).1 * 2 ^ W.2.2.toNat, (tk bs s (64 - W.2.1 - W.2.2.toNat)).2)
def turnD (bs : List Bool) (s : Nat × Bool) (W : WinZ) : Nat × ((Nat × Bool) × WinZ) :=
  if (tk bs s 1).1 = 0 then (0, ((tk bs s 1).2, W))
  else ((turnV bs (turnW bs (tk bs s 1).2 W).2 (turnW bs (tk bs s 1).2 W).1).1, ((turnV bs (turnW bs (tk bs s 1).2 W).2 (turnW bs (tk bs s 1).2 W).1).2, (turnW bs (tk bs s 1).2 W).1))
def unxR (bs : List Bool) : Nat → Bool → Nat × Bool → Nat → WinZ → List Nat × (Nat × Bool)
  | 0, _, s, _, _ => ([], s)
  | n + 1, old, s, last, W =>
    if s.2 then ([], s)
    else if old then
      ((last ^^^ (turnD bs s W).1) :: (unxR bs n true (turnD bs s W).2.1 (last ^^^ (turnD bs s W).1) (turnD bs s W).2.2).1,
        (unxR bs n true (turnD bs s W).2.1 (last ^^^ (turnD bs s W).1) (turnD bs s W).2.2).2)
    else ((tk bs s 64).1 :: (unxR bs n true (tk bs s 64).2 (tk bs s 64).1 W).1, (unxR bs n true (tk bs s 64).2 (tk bs s 64).1 W).2)
def unxD (bs : List Bool) : List Nat × (Nat × Bool) := unxR bs (tk bs (0, false) 16).1 false (tk bs (0, false) 16).2 0 (false, 0, 0)
/-- what Unpack answers of bits in form -/
def unxN (bs : List Bool) : List Nat × Int :=
  if (unxD bs).2.2 ∨ (packXN (unxD bs).1).2 ≠ 0 ∨ packX (unxD bs).1 ≠ bs then ([], 4) else ((unxD bs).1, 0)

theorem shift_back {t a b : Nat} (hd : 2 ^ b ∣ t) (ht : t < 2 ^ (64 - a)) (hab : a + b < 64) : t / 2 ^ b % 2 ^ (64 - a - b) * 2 ^ b = t := by
  obtain ⟨m, rfl⟩ := hd
  have hp : 0 < 2 ^ b := Nat.two_pow_pos b
  rw [Nat.mul_div_cancel_left _ hp]
  have e : 2 ^ (64 - a) = 2 ^ b * 2 ^ (64 - a - b) := by rw [← Nat.pow_add]; congr 1; omega
  rw [e] at ht
  rw [Nat.mod_eq_of_lt (Nat.lt_of_mul_lt_mul_left ht), Nat.mul_comm]
theorem pow_dvd_le {a b : Nat} {t : Nat} (h : a ≤ b) (hd : 2 ^ b ∣ t) : 2 ^ a ∣ t := Nat.dvd_trans (Nat.pow_dvd_pow 2 h) hd
theorem turn_read {pre rest bs : List Bool} {W : Win} {t : Nat} (hW : WinOk W) (ht : t < 18446744073709551616) (hb : bs = pre ++ (xbits W t ++ rest)) :
    turnD bs (pre.length, false) (winZ W) = (t, (((pre ++ xbits W t).length, false), winZ (xwin W t))) := by
  by_cases h0 : t = 0
  · subst h0
    have e : xbits W 0 = toB 0 1 := rfl
    have e2 : xwin W 0 = W := rfl
    rw [e] at hb ⊢
    rw [e2]
    have h1 := tk_any' hb
    unfold turnD
    rw [h1, if_pos (by simp)]
  · obtain ⟨f1, f2, f3, f4, f5⟩ := turn_facts h0 ht
    by_cases hf : xfit W t = true
    · obtain ⟨g1, g2, g3⟩ := xfit_of hf
      have e : xbits W t = toB 1 1 ++ (toB 0 1 ++ toB (t / 2 ^ W.2.2) (64 - W.2.1 - W.2.2)) := by unfold xbits; rw [if_neg h0, if_pos hf]; rfl
      have e2 : xwin W t = W := by unfold xwin; rw [if_neg h0, if_pos hf]
      rw [e] at hb ⊢
      rw [e2]
      have h1 := tk_any' (bs := bs) (pre := pre) (v := 1) (n := 1) (rest := toB 0 1 ++ toB (t / 2 ^ W.2.2) (64 - W.2.1 - W.2.2) ++ rest) (by rw [hb]; simp [List.append_assoc])
      have h2 := tk_any' (bs := bs) (pre := pre ++ toB 1 1) (v := 0) (n := 1) (rest := toB (t / 2 ^ W.2.2) (64 - W.2.1 - W.2.2) ++ rest) (by rw [hb]; simp [List.append_assoc])
      have h3 := tk_any' (bs := bs) (pre := pre ++ toB 1 1 ++ toB 0 1) (v := t / 2 ^ W.2.2) (n := 64 - W.2.1 - W.2.2) (rest := rest) (by rw [hb]; simp [List.append_assoc])
      have hw : turnW bs ((pre ++ toB 1 1).length, false) (winZ W) = (winZ W, ((pre ++ toB 1 1 ++ toB 0 1).length, false)) := by unfold turnW; rw [h2, if_neg (by simp)]
      have hv : turnV bs ((pre ++ toB 1 1 ++ toB 0 1).length, false) (winZ W) = (t, ((pre ++ toB 1 1 ++ toB 0 1 ++ toB (t / 2 ^ W.2.2) (64 - W.2.1 - W.2.2)).length, false)) := by
        unfold turnV winZ
        rw [if_neg (by simp only [g1]; simp)]
        simp only [Int.toNat_natCast]
        rw [h3, shift_back (pow_dvd_le g3 f5) (Nat.lt_of_lt_of_le f4 (Nat.pow_le_pow_right (by decide) (by omega))) hW.1]
      unfold turnD
      rw [h1, if_neg (by simp), hw, hv]
      simp [List.append_assoc]
    · have e : xbits W t = toB 1 1 ++ (toB 1 1 ++ (toB (xlead t) 6 ++ (toB (64 - xlead t - xtail t - 1) 6 ++ toB (t / 2 ^ xtail t) (64 - xlead t - xtail t)))) := by unfold xbits; rw [if_neg h0, if_neg hf]; rfl
      have e2 : xwin W t = (true, xlead t, xtail t) := by unfold xwin; rw [if_neg h0, if_neg hf]
      rw [e] at hb ⊢
      rw [e2]
      generalize xlead t = a at *
      generalize xtail t = b at *
      have h1 := tk_any' (bs := bs) (pre := pre) (v := 1) (n := 1) (rest := toB 1 1 ++ (toB a 6 ++ (toB (64 - a - b - 1) 6 ++ (toB (t / 2 ^ b) (64 - a - b) ++ rest)))) (by rw [hb]; simp [List.append_assoc])
      have h2 := tk_any' (bs := bs) (pre := pre ++ toB 1 1) (v := 1) (n := 1) (rest := toB a 6 ++ (toB (64 - a - b - 1) 6 ++ (toB (t / 2 ^ b) (64 - a - b) ++ rest))) (by rw [hb]; simp [List.append_assoc])
      have h3 := tk_app' (bs := bs) (pre := pre ++ toB 1 1 ++ toB 1 1) (v := a) (n := 6) (rest := toB (64 - a - b - 1) 6 ++ (toB (t / 2 ^ b) (64 - a - b) ++ rest)) (by rw [hb]; simp [List.append_assoc]) (by omega)
      have h4 := tk_app' (bs := bs) (pre := pre ++ toB 1 1 ++ toB 1 1 ++ toB a 6) (v := 64 - a - b - 1) (n := 6) (rest := toB (t / 2 ^ b) (64 - a - b) ++ rest) (by rw [hb]; simp [List.append_assoc]) (by omega)
      have h5 := tk_any' (bs := bs) (pre := pre ++ toB 1 1 ++ toB 1 1 ++ toB a 6 ++ toB (64 - a - b - 1) 6) (v := t / 2 ^ b) (n := 64 - a - b) (rest := rest) (by rw [hb]; simp [List.append_assoc])
      have hz : (64 : Int) - (a : Int) - ((64 - a - b - 1 + 1 : Nat) : Int) = (b : Int) := by omega
      have hw : turnW bs ((pre ++ toB 1 1).length, false) (winZ W) = (winZ (true, a, b), ((pre ++ toB 1 1 ++ toB 1 1 ++ toB a 6 ++ toB (64 - a - b - 1) 6).length, false)) := by
        unfold turnW
        rw [h2, if_pos (by simp)]
        simp only
        rw [h3]
        simp only
        rw [h4]
        simp only
        rw [hz]
        rfl
      have hv : turnV bs ((pre ++ toB 1 1 ++ toB 1 1 ++ toB a 6 ++ toB (64 - a - b - 1) 6).length, false) (winZ (true, a, b)) = (t, ((pre ++ toB 1 1 ++ toB 1 1 ++ toB a 6 ++ toB (64 - a - b - 1) 6 ++ toB (t / 2 ^ b) (64 - a - b)).length, false)) := by
        unfold turnV winZ
        rw [if_neg (by simp)]
        simp only [Int.toNat_natCast]
        rw [h5, shift_back f5 f4 f3]
      unfold turnD
      rw [h1, if_neg (by simp), hw, hv]
      simp [List.append_assoc]
theorem xor_back (a b : Nat) : a ^^^ (b ^^^ a) = b := by rw [Nat.xor_comm b a, ← Nat.xor_assoc, Nat.xor_self, Nat.zero_xor]
theorem unxR_read {bs : List Bool} : ∀ (r : List Nat) (pre : List Bool) (last : Nat) (W : Win), WinOk W → last < 18446744073709551616 → (∀ x ∈ r, x < 18446744073709551616) → bs = pre ++ xR W last r → unxR bs r.length true (pre.length, false) last (winZ W) = (r, (bs.length, false))
  | [], pre, last, W, _, _, _, hb => by
    have e : bs = pre := by rw [hb]; simp [xR]
    subst e
    rfl
  | t :: r, pre, last, W, hW, hl, hi, hb => by
    have ht := hi t (by simp)
    have hb1 : bs = pre ++ (xbits W (t ^^^ last) ++ xR (xwin W (t ^^^ last)) t r) := hb
    have h1 := turn_read hW (xor_lt ht hl) hb1
    have h2 := unxR_read (bs := bs) r (pre ++ xbits W (t ^^^ last)) t (xwin W (t ^^^ last)) (xwin_ok hW (xor_lt ht hl)) ht (fun x hx => hi x (by simp [hx])) (by rw [hb1]; simp)
    rw [List.length_cons, unxR, if_neg (by simp), if_pos rfl, h1]
    simp only
    rw [xor_back, h2]
theorem unxD_pack {l : List Nat} (hi : ∀ x ∈ l, x < 18446744073709551616) (hl : l.length ≤ 1000) : unxD (packX l) = (l, ((packX l).length, false)) := by
  have h1 : packX l = [] ++ (toB l.length 16 ++ xF l) := rfl
  have h2 := tk_app' (n := 16) h1 (by omega)
  unfold unxD
  rw [show (([] : List Bool).length, false) = (0, false) from rfl] at h2
  rw [h2]
  simp only
  cases l with
  | nil => rfl
  | cons t r =>
    have h3 : packX (t :: r) = ([] ++ toB (t :: r).length 16) ++ (toB t 64 ++ xR (false, 0, 0) t r) := rfl
    have h4 := tk_app' (n := 64) h3 (hi t (by simp))
    have h5 := unxR_read (bs := packX (t :: r)) r (([] ++ toB (t :: r).length 16) ++ toB t 64) t (false, 0, 0) ⟨by decide, fun _ => ⟨rfl, rfl⟩⟩ (hi t (by simp)) (fun x hx => hi x (by simp [hx])) (by rw [h3]; simp)
    obtain ⟨B, hB⟩ : ∃ B, packX (t :: r) = B := ⟨_, rfl⟩
    rw [hB] at h4 h5 ⊢
    rw [List.length_cons, unxR, if_neg (by simp), if_neg (by simp)]
    rw [List.length_cons] at h4 h5
    rw [h4]
    simp only
    have e : ((false, 0, 0) : WinZ) = winZ (false, 0, 0) := rfl
    rw [e, h5]
theorem unxN_pack {l : List Nat} (hi : ∀ x ∈ l, x < 18446744073709551616) (hl : l.length ≤ 1000) : unxN (packX l) = (l, 0) := by
  unfold unxN
  rw [unxD_pack hi hl]
  have hp : (packXN l).2 = 0 := by unfold packXN; rw [if_neg (by omega)]
  rw [if_neg (by simp [hp])]
theorem turnV_lt {bs : List Bool} {s : Nat × Bool} {W : WinZ} : (turnV bs s W).1 < 18446744073709551616 := by
  unfold turnV
  split
  · simp
  · have h1 := tk_lt' (bs := bs) (s := s) (n := 64 - W.2.1 - W.2.2.toNat)
    obtain ⟨v, hv⟩ : ∃ v, (tk bs s (64 - W.2.1 - W.2.2.toNat)).1 = v := ⟨_, rfl⟩
    show (tk bs s (64 - W.2.1 - W.2.2.toNat)).1 * 2 ^ W.2.2.toNat < _
    rw [hv] at h1 ⊢
    by_cases hb : W.2.2.toNat ≤ 64
    · have h2 : v * 2 ^ W.2.2.toNat < 2 ^ (64 - W.2.1 - W.2.2.toNat) * 2 ^ W.2.2.toNat := Nat.mul_lt_mul_of_pos_right h1 (Nat.two_pow_pos _)
      rw [← Nat.pow_add] at h2
      exact Nat.lt_of_lt_of_le h2 (Nat.pow_le_pow_right (n := 2) (by decide) (show _ ≤ 64 by omega))
    · have e : 64 - W.2.1 - W.2.2.toNat = 0 := by omega
      rw [e] at h1
      have : v = 0 := by omega
      subst this
      simp
theorem turnD_lt {bs : List Bool} {s : Nat × Bool} {W : WinZ} : (turnD bs s W).1 < 18446744073709551616 := by
  unfold turnD
  split
  · simp
  · exact turnV_lt
theorem turnW_le {bs : List Bool} {s : Nat × Bool} {W : WinZ} : (turnW bs s W).2.1 ≤ bs.length := by
  unfold turnW; split <;> exact tk_le
theorem turnD_le {bs : List Bool} {s : Nat × Bool} {W : WinZ} : (turnD bs s W).2.1.1 ≤ bs.length := by
  unfold turnD
  split
  · exact tk_le
  · show (turnV bs _ _).2.1 ≤ _
    unfold turnV
    split
    · exact turnW_le
    · exact tk_le
theorem unxR_lt (bs : List Bool) : ∀ (n : Nat) (old : Bool) (s : Nat × Bool) (last : Nat) (W : WinZ), last < 18446744073709551616 → ∀ x ∈ (unxR bs n old s last W).1, x < 18446744073709551616
  | 0, _, _, _, _, _ => by intro x hx; simp [unxR] at hx
  | n + 1, old, s, last, W, hl => by
    rw [unxR]
    split
    · intro x hx; simp at hx
    · split
      · intro x hx
        rcases List.mem_cons.1 hx with rfl | hx
        · exact xor_lt hl turnD_lt
        · exact unxR_lt bs n _ _ _ _ (xor_lt hl turnD_lt) x hx
      · intro x hx
        rcases List.mem_cons.1 hx with rfl | hx
        · exact tk_lt (by omega)
        · exact unxR_lt bs n _ _ _ _ (tk_lt (by omega)) x hx
theorem unxN_short {bs : List Bool} {ls : List Nat} {p : Nat} (h : unxD bs = (ls, (p, true))) : unxN bs = ([], 4) := by
  unfold unxN; rw [h, if_pos (.inl rfl)]
theorem unxN_err {bs : List Bool} {ls : List Nat} {s : Nat × Bool} (h : unxD bs = (ls, s)) {b : List Nat} {M z : Int} (hP : packXN ls = ((b, M), z)) (hz : z ≠ 0) : unxN bs = ([], 4) := by
  unfold unxN; rw [h, if_pos (.inr (.inl (by rw [hP]; exact hz)))]
theorem packXN_ok {ls : List Nat} {b : List Nat} {M z : Int} (hP : packXN ls = ((b, M), z)) (hz : z = 0) : b = packB (packX ls) ∧ M = (packX ls).length := by
  unfold packXN at hP
  split at hP
  · injection hP with _ h2; omega
  · injection hP with h1 _
    injection h1 with h1 h2
    exact ⟨h1.symm, h2.symm⟩
theorem packXN_small (ls : List Nat) : (packXN ls).1.1.length ≤ 10000 := by
  unfold packXN
  split
  · simp
  · have h1 := xF_len ls
    show (packB (packX ls)).length ≤ 10000
    rw [packB_len]
    unfold packX
    rw [List.length_append, toB_len]
    omega
theorem unxN_len {bs : List Bool} {ls : List Nat} {s : Nat × Bool} (h : unxD bs = (ls, s)) {b : List Nat} {M z : Int} (hP : packXN ls = ((b, M), z)) (hz : z = 0) (hM : M ≠ bs.length) : unxN bs = ([], 4) := by
  unfold unxN; rw [h, if_pos (.inr (.inr (fun e => hM (by rw [(packXN_ok hP hz).2]; simp only [] at e; rw [e]))))]
theorem unxN_dif {bs : List Bool} {ls : List Nat} {s : Nat × Bool} (h : unxD bs = (ls, s)) {b : List Nat} {M z : Int} (hP : packXN ls = ((b, M), z)) (hz : z = 0) (hb : b ≠ packB bs) : unxN bs = ([], 4) := by
  unfold unxN; rw [h, if_pos (.inr (.inr (fun e => hb (by rw [(packXN_ok hP hz).1]; simp only [] at e; rw [e]))))]
theorem unxN_ok {bs : List Bool} {ls : List Nat} {p : Nat} (h : unxD bs = (ls, (p, false))) {b : List Nat} {M z : Int} (hP : packXN ls = ((b, M), z)) (hz : z = 0) (hM : M = bs.length) (hb : b = packB bs) : unxN bs = (ls, 0) := by
  obtain ⟨h1, h2⟩ := packXN_ok hP hz
  have e : packX ls = bs := packB_inj (by rw [hM] at h2; omega) (by rw [← h1, hb])
  unfold unxN
  rw [h, if_neg]
  simp only []
  rw [hP, e]
  simp [hz]
end Go.Proofs.YtmbpgenjjgepiaaDoor
