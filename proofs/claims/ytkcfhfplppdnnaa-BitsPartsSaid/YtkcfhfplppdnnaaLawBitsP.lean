/- The walk of the law BitsParts: it returns true. Conditions: the arguments fit their kinds. -/
import Derived.Test.YtkcfhfplppdnnaaPush
import Derived.Test.YtkcfhfplppdnnaaSameBits
import Derived.Test.YtkcfhfplppdnnaaBitses
namespace Go.Proofs.Ytkcfhfplppdnnaa
open Go.RowKit

theorem push_any' (A : Option Addr) (c : Nat) (l : List Nat) (N : Int) (v : Nat) (n : Int) (r : (List Nat × Int) × Int) (hr : pushN l N v n = r) (hN : N ≤ 9223372036854775807) (hv : v < 18446744073709551616) (hn : -9223372036854775808 ≤ n ∧ n ≤ 9223372036854775807) (hl : l.length ≤ 140737488355328) (hb : Bytes l) (hnil : A = none → c = 0) (hlc : l.length ≤ c) (w : World) (h : Has w w.heap.size A (u8s l)) :
    Calls Try.prog 29 #[.agg #[.slice A l.length c, .int .i64 N], .int .u64 v, .int .i64 n] w (RV (BitsP r w)) := by
  subst hr
  exact push_any A c l N v n hN hv hn hl hb hnil hlc w h
theorem pushN_bad {l : List Nat} {N : Int} {v : Nat} {n : Int} (h : (pushN l N v n).2 ≠ 0) : (pushN l N v n).1 = ([], 0) := by
  unfold pushN at h ⊢
  by_cases h1 : chkB l N ≠ 0
  · rw [if_pos h1]
  · rw [if_neg h1] at h ⊢
    by_cases h2 : n < 0 ∨ 64 < n ∨ (n < 64 ∧ v / 2 ^ n.toNat ≠ 0)
    · rw [if_pos h2]
    · rw [if_neg h2] at h ⊢
      by_cases h3 : 80000 < N + n
      · rw [if_pos h3]
      · rw [if_neg h3] at h; simp at h
theorem pushN_ok {l : List Nat} {N : Int} {v : Nat} {n : Int} (h : (pushN l N v n).2 = 0) :
    chkB l N = 0 ∧ 0 ≤ n ∧ n ≤ 64 ∧ (n < 64 → v / 2 ^ n.toNat = 0) ∧ N + n ≤ 80000 ∧ pushN l N v n = ((packB (unB l N.toNat ++ toB v n.toNat), N + n), 0) := by
  unfold pushN at h ⊢
  by_cases h1 : chkB l N ≠ 0
  · rw [if_pos h1] at h; simp at h
  · rw [if_neg h1] at h ⊢
    by_cases h2 : n < 0 ∨ 64 < n ∨ (n < 64 ∧ v / 2 ^ n.toNat ≠ 0)
    · rw [if_pos h2] at h; simp at h
    · rw [if_neg h2] at h ⊢
      by_cases h3 : 80000 < N + n
      · rw [if_pos h3] at h; simp at h
      · rw [if_neg h3]
        refine ⟨by simpa using h1, by omega, by omega, fun hn => ?_, by omega, rfl⟩
        exact Decidable.byContradiction fun hne => h2 (.inr (.inr ⟨hn, hne⟩))
theorem chkB_pack (bs : List Bool) : chkB (packB bs) (bs.length : Int) = 0 := by
  unfold chkB
  rw [if_pos]
  exact ⟨by omega, packB_ok bs⟩
theorem toB_all {v k : Nat} (hv : v < 18446744073709551616) (hk : k ≤ 64) (h : k < 64 → v / 2 ^ k = 0) : ofB (toB v k) = v := by
  rw [ofB_toB]
  rcases Nat.lt_or_ge k 64 with h1 | h1
  · exact Nat.mod_eq_of_lt (Nat.lt_of_div_eq_zero (Nat.two_pow_pos k) (h h1))
  · obtain rfl : k = 64 := by omega
    exact Nat.mod_eq_of_lt hv
theorem pull_pushed {bs : List Bool} {v k : Nat} (hv : v < 18446744073709551616) (hk : k ≤ 64) (h : k < 64 → v / 2 ^ k = 0) :
    pullN (packB (bs ++ toB v k)) ((bs.length : Int) + (k : Int)) (bs.length : Int) (k : Int) = (v, 0) := by
  have e : (bs.length : Int) + (k : Int) = ((bs ++ toB v k).length : Int) := by rw [List.length_append, toB_len]; omega
  rw [e]
  unfold pullN
  rw [if_neg (by rw [chkB_pack]; simp), if_neg (by omega), if_neg (by rw [← e]; omega)]
  rw [Int.toNat_natCast, Int.toNat_natCast, pullUp_eq (by rw [List.length_append, toB_len]; omega), List.drop_left, List.take_of_length_le (by rw [toB_len]; omega), toB_all hv hk h]
theorem pull_before {l : List Nat} {m : Nat} (hb : Bytes l) (h : BOk l m) (cs : List Bool) (p k : Int) (hz : (pullN l (m : Int) p k).2 = 0) :
    pullN (packB (unB l m ++ cs)) ((m : Int) + (cs.length : Int)) p k = pullN l (m : Int) p k := by
  have e : (m : Int) + (cs.length : Int) = ((unB l m ++ cs).length : Int) := by rw [List.length_append, unB_len]; omega
  have hl := packB_unB hb h
  rw [e]
  unfold pullN at hz ⊢
  have hck : chkB l (m : Int) = 0 := by unfold chkB; rw [if_pos]; exact ⟨by omega, h⟩
  rw [if_neg (by rw [hck]; simp)] at hz
  rw [if_neg (show ¬ chkB (packB (unB l m ++ cs)) ((unB l m ++ cs).length : Int) ≠ 0 by rw [chkB_pack]; simp), if_neg (show ¬ chkB l (m : Int) ≠ 0 by rw [hck]; simp)]
  by_cases h2 : k < 0 ∨ 64 < k ∨ p < 0
  · rw [if_pos h2] at hz; simp at hz
  · rw [if_neg h2] at hz
    rw [if_neg h2, if_neg h2]
    by_cases h3 : (m : Int) - k < p
    · rw [if_pos h3] at hz; simp at hz
    · rw [if_neg (by rw [← e]; omega), if_neg h3]
      have h4 : p.toNat + k.toNat ≤ m := by omega
      have e1 := pullUp_eq (bs := unB l m) (p := p.toNat) (k := k.toNat) (by rw [unB_len]; exact h4)
      rw [hl] at e1
      rw [e1, pullUp_eq (by rw [List.length_append, unB_len]; omega)]
      congr 2
      rw [List.drop_append_of_le_length (by rw [unB_len]; omega), List.take_append_of_le_length (by rw [List.length_drop, unB_len]; omega)]

theorem pull_any' (A : Option Addr) (t c : Nat) (l : List Nat) (N p n : Int) (r : Nat × Int) (hr : pullN l N p n = r) (ht : l.length = t) (hN : N ≤ 9223372036854775807) (hp : -9223372036854775808 ≤ p ∧ p ≤ 9223372036854775807) (hn : -9223372036854775808 ≤ n ∧ n ≤ 9223372036854775807) (hl : l.length ≤ 140737488355328) (hb : Bytes l) (w : World) (h : Has w w.heap.size A (u8s l)) :
    Calls Try.prog 31 #[.agg #[.slice A t c, .int .i64 N], .int .i64 p, .int .i64 n] w (R1 (R2e r) (Below w.heap.size w)) := by
  subst hr ht
  exact pull_any A c l N p n hN hp hn hl hb w h
theorem bcheck_any' (A : Option Addr) (t c : Nat) (l : List Nat) (N : Int) (z : Int) (hz : chkB l N = z) (ht : l.length = t) (hN : N ≤ 9223372036854775807) (hl : l.length ≤ 140737488355328) (w : World) (h : Has w w.heap.size A (u8s l)) :
    Calls Try.prog 32 #[.agg #[.slice A t c, .int .i64 N]] w (R1 (.int .i64 z) (Below w.heap.size w)) := by
  subst hz ht
  exact bcheck_any A c l N hN hl w h

set_option maxRecDepth 1000000 in
set_option maxHeartbeats 4000000 in
theorem bitsParts_true (w : World) (A : Option Addr) (c : Nat) (l : List Nat) (N : Int) (hb : Bytes l) (hlc : l.length ≤ c) (_ : c ≤ maxLen) (hnil : A = none → c = 0) (h : Has w w.heap.size A (u8s l)) (hr : l.length ≤ 140737488351232) (hN : -9223372036854775808 ≤ N ∧ N ≤ 9223372036854775807)
    (v : Nat) (hv : v < 18446744073709551616) (n : Int) (hn : -9223372036854775808 ≤ n ∧ n ≤ 9223372036854775807) (p : Int) (hp : -9223372036854775808 ≤ p ∧ p ≤ 9223372036854775807) (k : Int) (hk : -9223372036854775808 ≤ k ∧ k ≤ 9223372036854775807) :
    Calls Try.prog 7 #[.agg #[.slice A l.length c, .int .i64 N], .int .u64 v, .int .i64 n, .int .i64 p, .int .i64 k] w (R1 (.bool true) (Below w.heap.size w)) := by
  have hbx : Below w.heap.size w (w.alloc (.cells #[.slice A l.length c, .int .i64 N] 51)) := (Below.refl _ _).alloc (Nat.le_refl _) _
  have hbk : Blk (w.alloc (.cells #[.slice A l.length c, .int .i64 N] 51)) w.heap.size 51 #[.slice A l.length c, .int .i64 N] := Blk.new w _ _
  have hl47 : l.length ≤ 140737488355328 := by omega
  have hnil := Lib.hid hnil
  obtain ⟨⟨⟨y, M⟩, z⟩, hP⟩ : ∃ r, pushN l N v n = r := ⟨_, rfl⟩
  have HP := Lib.hid hP
  by_cases hz0 : z = 0
  · subst hz0
    obtain ⟨hck, hn0, hn64, hvn, hsum, he⟩ := pushN_ok (l := l) (N := N) (v := v) (n := n) (by rw [hP])
    obtain ⟨hN0, hBO⟩ := chkB_ok hck
    obtain ⟨m, rfl⟩ := Int.eq_ofNat_of_zero_le hN0
    obtain ⟨q, rfl⟩ := Int.eq_ofNat_of_zero_le hn0
    rw [hP] at he
    rw [Int.toNat_natCast] at hBO
    simp only [Int.toNat_natCast] at he hvn
    injection he with he _
    injection he with hy hM
    have hX := pull_pushed (bs := unB l m) hv (by omega) (fun hq => hvn (by omega))
    rw [unB_len, ← hy, ← hM] at hX
    have hY : chkB y M = 0 := by
      rw [hy, hM, show (m : Int) + (q : Int) = ((unB l m ++ toB v q).length : Int) by rw [List.length_append, unB_len, toB_len]; omega]
      exact chkB_pack _
    have hyb : Bytes y := by rw [hy]; exact packB_bytes _
    have hyl : y.length ≤ 140737488355328 := by rw [hy, packB_len, List.length_append, unB_len, toB_len]; omega
    obtain ⟨⟨a, g⟩, hA⟩ : ∃ r, pullN l (m : Int) p k = r := ⟨_, rfl⟩
    obtain ⟨⟨b, f⟩, hB⟩ : ∃ r, pullN y M p k = r := ⟨_, rfl⟩
    have hgf : g = 0 → f = 0 ∧ a = b := by
      intro hg
      have e := pull_before hb hBO (toB v q) p k (by rw [hA]; exact hg)
      rw [toB_len, ← hy, ← hM, hA, hB] at e
      injection e with e1 e2
      exact ⟨by rw [e2]; exact hg, e1.symm⟩
    have hMb : M ≤ 80000 ∧ (m : Int) ≤ 80000 ∧ (q : Int) ≤ 64 := by omega
    obtain ⟨hM1, hM2, hM3⟩ := hMb
    have HX := Lib.hid hX
    have HY := Lib.hid hY
    have HA := Lib.hid hA
    have HB := Lib.hid hB
    have HM := Lib.hid hM
    have hyb := Lib.hid hyb
    clear hX hY hA hB hM hy hP hvn hsum hck hBO hn0 hn64
    go_enter Try.func7, Try.ntmps7
    go_wp2_with fail
    refine (bitses_true _).mono ?_
    rintro e w1 ⟨rfl, hb1⟩
    have hb1' := bnext hbx hb1
    have hbk1 := hbk.next hb1
    have c0 : w1.cell? ⟨w.heap.size, 0, none⟩ = some (.slice A l.length c) := hbk1.cell 0
    have c1 : w1.cell? ⟨w.heap.size, 1, none⟩ = some (.int .i64 m) := hbk1.cell 1
    go_wp2_with fail
    refine (push_any' A c l m v q ((y, M), 0) HP.out hN.2 hv hn hl47 hb hnil.out hlc _ (by exact h.next hb1')).mono ?_
    rintro e w2 ⟨vv, rfl, A2, c2, rfl, ho2, hb2⟩
    have hb2' := bnext hb1' hb2
    have hbk2 := hbk1.next hb2
    have d0 : w2.cell? ⟨w.heap.size, 0, none⟩ = some (.slice A l.length c) := hbk2.cell 0
    have d1 : w2.cell? ⟨w.heap.size, 1, none⟩ = some (.int .i64 m) := hbk2.cell 1
    have hs2 : w.heap.size < w2.heap.size := hbk2.lt
    have h2 := Lib.hid (Has.of_own ho2); clear ho2
    go_wp2_with fail
    refine (pull_any' A2 y.length c2 y M m q (v, 0) HX.out rfl (by omega) (by omega) (by omega) hyl hyb.out _ (by exact Has.allocA h2.out _)).mono ?_
    rintro e w3 ⟨rfl, hb3⟩
    have hbY : Below w.heap.size w (w2.alloc (.cells #[.slice A2 y.length c2, .int .i64 M] 51)) := hb2'.alloc hb2'.size _
    have hkY : Blk (w2.alloc (.cells #[.slice A2 y.length c2, .int .i64 M] 51)) w2.heap.size 51 #[.slice A2 y.length c2, .int .i64 M] := Blk.new _ _ _
    have h2Y := Has.allocA h2.out (.cells #[.slice A2 y.length c2, .int .i64 M] 51)
    have hk2Y := hbk2.alloc (.cells #[.slice A2 y.length c2, .int .i64 M] 51)
    have hhY := (h.next hb2').alloc (Nat.le_refl _) (.cells #[.slice A2 y.length c2, .int .i64 M] 51)
    have hb3' : Below w.heap.size w w3 := bnext hbY hb3
    have hk3 := hkY.next hb3
    have hx3 := hk2Y.next hb3
    have h23 := Lib.hid (h2Y.next hb3)
    have a0 : w3.cell? ⟨w2.heap.size, 0, none⟩ = some (.slice A2 y.length c2) := hk3.cell 0
    have a1 : w3.cell? ⟨w2.heap.size, 1, none⟩ = some (.int .i64 M) := hk3.cell 1
    have b0 : w3.cell? ⟨w.heap.size, 0, none⟩ = some (.slice A l.length c) := hx3.cell 0
    have b1 : w3.cell? ⟨w.heap.size, 1, none⟩ = some (.int .i64 m) := hx3.cell 1
    have e1 : IntKind.i64.wrap ((m : Int) + (q : Int)) = M := by rw [HM.out]; exact IntWalk.i64_in _ (by omega)
    have HMq := Lib.hid (show (m : Int) + (q : Int) = M from HM.out.symm)
    have hMM : ((M : Int) != (m : Int) + (q : Int)) = false := by rw [HMq.out]; simp
    rw [R2e]
    clear hkY hbY hk2Y
    go_wp2_with fail
    refine (bcheck_any' A2 _ c2 y M 0 HY.out rfl (by omega) hyl _ (by exact h23.out)).mono ?_
    rintro e w4 ⟨rfl, hb4⟩
    have hb4' : Below w.heap.size w w4 := bnext hb3' hb4
    have hk4 := hk3.next hb4
    have hx4 := hx3.next hb4
    have h24 := Lib.hid (h23.out.next hb4)
    have a0 : w4.cell? ⟨w2.heap.size, 0, none⟩ = some (.slice A2 y.length c2) := hk4.cell 0
    have a1 : w4.cell? ⟨w2.heap.size, 1, none⟩ = some (.int .i64 M) := hk4.cell 1
    have b0 : w4.cell? ⟨w.heap.size, 0, none⟩ = some (.slice A l.length c) := hx4.cell 0
    have b1 : w4.cell? ⟨w.heap.size, 1, none⟩ = some (.int .i64 m) := hx4.cell 1
    go_wp2_with fail
    refine (pull_any' A _ c l m p k (a, g) HA.out rfl hN.2 hp hk hl47 hb _ (by exact h.next hb4')).mono ?_
    rintro e w5 ⟨rfl, hb5⟩
    have hb5' : Below w.heap.size w w5 := bnext hb4' hb5
    have hk5 := hk4.next hb5
    have h25 := Lib.hid (h24.out.next hb5)
    have a0 : w5.cell? ⟨w2.heap.size, 0, none⟩ = some (.slice A2 y.length c2) := hk5.cell 0
    have a1 : w5.cell? ⟨w2.heap.size, 1, none⟩ = some (.int .i64 M) := hk5.cell 1
    rw [R2e]
    go_wp2_with fail
    refine (pull_any' A2 _ c2 y M p k (b, f) HB.out rfl (by omega) hp hk hyl hyb.out _ (by exact h25.out)).mono ?_
    rintro e w6 ⟨rfl, hb6⟩
    rw [R2e]
    by_cases hg0 : g = 0
    · obtain ⟨hf0, hab⟩ := hgf hg0
      subst hg0 hf0 hab
      clear hgf
      go_wp2_with fail
      go_ret
      exact R1.mk (bool_eq (by simp)) (bnext hb5' hb6)
    · have f1 : (g != 0) = true := by rw [bne_iff_ne]; exact hg0
      clear hgf hg0
      go_wp2_with fail
      go_ret
      exact R1.mk (bool_eq (by simp)) (bnext hb5' hb6)
  · have k1 := pushN_bad (l := l) (N := N) (v := v) (n := n) (by rw [hP]; exact hz0)
    rw [hP] at k1
    simp only [] at k1
    injection k1 with k1 k2
    subst k1 k2
    have f1 : (z != 0) = true := by rw [bne_iff_ne]; exact hz0
    clear hP hz0
    go_enter Try.func7, Try.ntmps7
    go_wp2_with fail
    refine (bitses_true _).mono ?_
    rintro e w1 ⟨rfl, hb1⟩
    have hb1' := bnext hbx hb1
    have hbk1 := hbk.next hb1
    have c0 : w1.cell? ⟨w.heap.size, 0, none⟩ = some (.slice A l.length c) := hbk1.cell 0
    have c1 : w1.cell? ⟨w.heap.size, 1, none⟩ = some (.int .i64 N) := hbk1.cell 1
    go_wp2_with fail
    refine (push_any' A c l N v n (([], 0), z) HP.out hN.2 hv hn hl47 hb hnil.out hlc _ (by exact h.next hb1')).mono ?_
    rintro e w2 ⟨vv, rfl, A2, c2, rfl, ho2, hb2⟩
    have hb2' := bnext hb1' hb2
    clear ho2
    go_wp2_with fail
    refine (sameBits_any A2 none 0 0 c2 0 [] [] rfl rfl 0 0 (by intro x hx; simp at hx) (by intro x hx; simp at hx) _ (by intro hx; simp [u8s] at hx) (by intro hx; simp [u8s] at hx)).mono ?_
    rintro e w3 ⟨rfl, hb3⟩
    go_wp2_with fail
    go_ret
    exact R1.mk (by simp) (hb2'.trans (((Below.refl _ _).alloc hb2'.size _).trans (hb3.mono (by simp; have := hb2'.size; omega))))
end Go.Proofs.Ytkcfhfplppdnnaa
