/- What Check and Count of package sketch answer. Conditions: rows lie in their cells. -/
import Derived.Test.YtkkadfjcnocopaaSkCheck
import Derived.Test.YtkkadfjcnocopaaSkCells
namespace Go.Proofs.Ytkkadfjcnocopaa
open Go.RowKit

theorem chkSk_cases (D W : Int) (C : List Int) (N : Int) : chkSk D W C N = 4 ∨ (chkSk D W C N = 0 ∧ ∃ d wd : Nat, D = d ∧ W = wd ∧ 1 ≤ d ∧ d ≤ 8 ∧ 1 ≤ wd ∧ wd ≤ 200 ∧ C.length = d * wd ∧ 0 ≤ N ∧ N ≤ 1152921504606846976 ∧ ∀ k, k < d → leftR N (rowK C wd k) = some 0) := by
  unfold chkSk
  split
  · rename_i h
    obtain ⟨⟨h1, h2, h3, h4⟩, h5, h6, h7, h8⟩ := h
    obtain ⟨d, rfl⟩ := Int.eq_ofNat_of_zero_le (show 0 ≤ D by omega)
    obtain ⟨wd, rfl⟩ := Int.eq_ofNat_of_zero_le (show 0 ≤ W by omega)
    refine .inr ⟨rfl, d, wd, rfl, rfl, by omega, by omega, by omega, by omega, ?_, h6, h7, fun k hk => h8 k (by simpa using hk)⟩
    rw [← Int.natCast_mul] at h5
    exact Int.ofNat.inj h5
  · exact .inl rfl

theorem scheck_any (D W : Int) (A : Option Addr) (c : Nat) (C : List Int) (N : Int) (w : World) (hC : IntAt w (.slice A C.length c) C) :
    Calls Try.prog 27 #[.agg #[.int .i64 D, .int .i64 W, .slice A C.length c, .int .i64 N]] w (R1 (.int .i64 (chkSk D W C N)) (Below w.heap.size w)) := by
  obtain ⟨A0, c0, e0, k1, k2, k3, k4, k5⟩ := hC
  injection e0 with e1 _ e2
  subst e1 e2
  by_cases h : szOk D W ∧ (C.length : Int) = D * W ∧ 0 ≤ N ∧ N ≤ 1152921504606846976
  · obtain ⟨⟨h1, h2, h3, h4⟩, h5, h6, h7⟩ := h
    obtain ⟨d, rfl⟩ := Int.eq_ofNat_of_zero_le (show 0 ≤ D by omega)
    obtain ⟨wd, rfl⟩ := Int.eq_ofNat_of_zero_le (show 0 ≤ W by omega)
    have hl : C.length = d * wd := by rw [← Int.natCast_mul] at h5; exact Int.ofNat.inj h5
    have hpos : 0 < C.length := by rw [hl]; exact Nat.mul_pos (by omega) (by omega)
    obtain ⟨ad, rfl, _⟩ := k4 (by intro e; have := congrArg List.length e; rw [i64s_len] at this; simp at this; rw [this] at hpos; simp at hpos)
    have e : chkSk d wd C N = if ∀ k, k < d → leftR N (rowK C wd k) = some 0 then 0 else 4 := by
      unfold chkSk
      by_cases hh : ∀ k, k < d → leftR N (rowK C wd k) = some 0
      · rw [if_pos (show skOk d wd C N from ⟨⟨h1, h2, h3, h4⟩, h5, h6, h7, fun k hk => hh k (by simpa using hk)⟩), if_pos hh]
      · rw [if_neg (fun (h : skOk d wd C N) => hh (fun k hk => h.2.2.2.2 k (by simpa using hk))), if_neg hh]
    rw [e]
    exact scheckGood_any d wd ad c C N (by omega) (by omega) (by omega) (by omega) hl k1 k2 h6 h7 k5 w k4
  · have e : chkSk D W C N = 4 := by
      unfold chkSk
      exact if_neg (fun (h' : skOk D W C N) => h ⟨h'.1, h'.2.1, h'.2.2.1, h'.2.2.2.1⟩)
    rw [e]
    exact scheckBad_any D W A C.length c N h w

theorem cellN_lt {s : ByteArray} {wd d k : Nat} (h3 : 1 ≤ wd) (hk : k < d) : cellN s wd k < d * wd := by
  unfold cellN
  have h1 := Nat.mod_lt (ofN k (byt s)) h3
  have h2 := Nat.mul_le_mul_right wd hk
  rw [Nat.succ_mul] at h2
  omega
theorem cellsN_at {s : ByteArray} {wd d k : Nat} (hk : k < d) : at_ (cellsN s wd d) k = (cellN s wd k : Int) := by
  rw [at_eq (by rw [cellsN_len]; exact hk)]
  simp [cellsN]
/-- the least of what stands in the first k cells of a key, or N -/
def leastN (C : List Int) (N : Int) (s : ByteArray) (wd : Nat) : Nat → Int
  | 0 => N
  | k + 1 => min (leastN C N s wd k) (at_ C (cellN s wd k))
theorem leastN_succ (C : List Int) (N : Int) (s : ByteArray) (wd k : Nat) : leastN C N s wd (k + 1) = min (leastN C N s wd k) (at_ C (cellN s wd k)) := rfl
def pairV (x : Int × Int) : Value := .tuple #[.int .i64 x.1, .int .i64 x.2]
def countN (D W : Int) (C : List Int) (N : Int) (s : ByteArray) : Int × Int := if chkSk D W C N = 0 then (leastN C N s W.toNat D.toNat, 0) else (0, 4)

set_option maxRecDepth 1000000 in
set_option maxHeartbeats 4000000 in
theorem count_any (D W : Int) (A : Option Addr) (c : Nat) (C : List Int) (N : Int) (key : ByteArray) (hk : key.size ≤ maxLen) (w : World) (hC : IntAt w (.slice A C.length c) C) :
    Calls Try.prog 25 #[.agg #[.int .i64 D, .int .i64 W, .slice A C.length c, .int .i64 N], .string key] w (R1 (pairV (countN D W C N key)) (Below w.heap.size w)) := by
  have hb1 : Below w.heap.size w (w.alloc (.cells #[.int .i64 D, .int .i64 W, .slice A C.length c, .int .i64 N] 34)) := (Below.refl _ _).alloc (Nat.le_refl _) _
  have hk1 : Blk (w.alloc (.cells #[.int .i64 D, .int .i64 W, .slice A C.length c, .int .i64 N] 34)) w.heap.size 34 #[.int .i64 D, .int .i64 W, .slice A C.length c, .int .i64 N] := Blk.new _ _ _
  have hchk := scheck_any D W A c C N _ (hC.next hb1)
  obtain ⟨z, hz⟩ : ∃ z, countN D W C N key = z := ⟨_, rfl⟩
  rw [hz]
  rcases chkSk_cases D W C N with h0 | ⟨h0, d, wd, rfl, rfl, d1, d2, d3, d4, hl, n0, n1, hrow⟩
  · have ez := Lib.hid (show z = (0, 4) by rw [← hz, countN, if_neg (by omega)])
    rw [h0] at hchk
    have HCk := Lib.hid hchk
    clear hchk h0 hz
    go_enter Try.func25, Try.ntmps25
    go_wp2_with fail
    refine HCk.out.mono ?_
    rintro e w2 ⟨rfl, hb2⟩
    go_wp2_with fail
    go_ret2
    rw [ez.out]
    exact R1.mk rfl (bnext hb1 hb2)
  · have ez := Lib.hid (show z = (leastN C N key wd d, 0) by rw [← hz, countN, if_pos h0]; simp)
    rw [h0] at hchk
    have HCk := Lib.hid hchk
    have HL := Lib.hid hl
    clear hchk h0 hz hl hrow
    obtain ⟨A0, c0, e0, k1, k2, k3, k4, k5⟩ := hC
    injection e0 with e1 _ e2
    subst e1 e2
    obtain ⟨n, hn⟩ : ∃ n, C.length = n := ⟨_, rfl⟩
    have Hn := Lib.hid hn
    rw [hn] at hk1 hb1 HCk ⊢
    clear hn
    go_enter Try.func25, Try.ntmps25
    go_wp2_with fail
    refine HCk.out.mono ?_
    rintro e w2 ⟨rfl, hb2⟩
    have hb12 := bnext hb1 hb2
    have hk2 := hk1.next hb2
    have y0 : w2.cell? ⟨w.heap.size, 0, none⟩ = some (.int .i64 d) := hk2.cell 0
    have y1 : w2.cell? ⟨w.heap.size, 1, none⟩ = some (.int .i64 wd) := hk2.cell 1
    have y2 : w2.cell? ⟨w.heap.size, 2, none⟩ = some (.slice A n c) := hk2.cell 2
    have y3 : w2.cell? ⟨w.heap.size, 3, none⟩ = some (.int .i64 N) := hk2.cell 3
    go_wp2_with fail
    refine (cells_any d wd A n c N key d1 d2 d3 d4 hk _).mono ?_
    rintro e w3 ⟨v, rfl, A3, c3, rfl, hown, hb3⟩
    have hb13 := bnext hb12 hb3
    have hk3 := hk2.next hb3
    clear y0 y1 y2 y3
    have y2 : w3.cell? ⟨w.heap.size, 2, none⟩ = some (.slice A n c) := hk3.cell 2
    have hcs := Has.of_own hown
    have hC3 := k4.next hb13
    have Hown := Lib.hid hown; clear hown
    go_wp2_with fail
    go_loopw [7, 21] (fun m i wr => ∃ k : Nat, k ≤ d ∧ i = .int .i64 (k : Nat) ∧ m = .int .i64 (leastN C N key wd k) ∧ wr = w3) (fun _ i _ => d - (intOf i).toNat)
    case atStart => exact ⟨0, by omega, rfl, rfl, rfl⟩
    case round =>
      obtain ⟨k, hkd, rfl, rfl, rfl⟩ := hrel
      by_cases hlt : (k : Int) < (d : Int)
      · have hkl : k < d := by omega
        have hx : cellN key wd k < n := by rw [← Hn.out, HL.out]; exact cellN_lt d3 hkl
        obtain ⟨bd, rfl, _, c4⟩ := hcs.at (i64s_at (show k < (cellsN key wd d).length by rw [cellsN_len]; exact hkl))
        rw [cellsN_at hkl] at c4
        obtain ⟨ad, rfl, _, c5⟩ := hC3.at (i64s_at (show cellN key wd k < C.length by rw [Hn.out]; exact hx))
        have hs := leastN_succ C N key wd k
        obtain ⟨m, hm⟩ : ∃ m, leastN C N key wd k = m := ⟨_, rfl⟩
        obtain ⟨x, hxx⟩ : ∃ x, cellN key wd k = x := ⟨_, rfl⟩
        rw [hm, hxx] at hs
        rw [hxx] at hx c4 c5
        rw [hm]
        have HS := Lib.hid hs
        clear hs hm hxx
        go_wp2_with fail
        go_roundw
        case rel => exact ⟨k + 1, by omega, by go_num, int_eq (by rw [HS.out]), by trivial⟩
        case measure => simp [intOf]; omega
      · have hkl : k = d := by omega
        subst hkl
        go_wp2_with fail
        go_ret2
        rw [ez.out]
        exact R1.mk rfl hb13
end Go.Proofs.Ytkkadfjcnocopaa
