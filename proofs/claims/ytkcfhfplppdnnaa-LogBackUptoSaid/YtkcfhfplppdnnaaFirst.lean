/- What first and Cut of package log find. Conditions: the bytes are bytes. -/
import Derived.Test.YtkcfhfplppdnnaaFrame
import Derived.Test.YtkcfhfplppdnnaaTakeLaw
import Derived.Test.YtkcfhfplppdnnaaCloneU8
import Derived.Test.YtkcfhfplppdnnaaBytes
import Derived.Test.YtkcfhfplppdnnaaOwn
import Derived.Test.YtkcfhfplppdnnaaEqU8
import Derived.OwnWalk
namespace Go.Proofs.Ytkcfhfplppdnnaa
open Go.RowKit

/-- the first record, its frame's length, and whether there is one -/
def firstN (b : List Nat) : List Nat × Nat × Bool :=
  if (takeN b).2.2 ≠ 0 ∨ 2000 < (takeN b).1 ∨ b.length < (takeN b).2.1 + (takeN b).1 + 8 then ([], 0, false)
  else ((b.drop (takeN b).2.1).take (takeN b).1, (takeN b).2.1 + (takeN b).1 + 8, decide (frameL ((b.drop (takeN b).2.1).take (takeN b).1) = b.take ((takeN b).2.1 + (takeN b).1 + 8)))
theorem cutU8 {w : World} {B : Nat} {ad : Addr} {b : List Nat} {c j x : Nat} (h : Has w B (some ad) (u8s b)) (hbc : b.length ≤ c) (hj : j < c) : Has w B (some (ad.add j)) (u8s ((b.drop j).take x)) := by
  have h1 := (h.cut (k := j) (size := 1) (cap := c) (n := b.length) (by rw [u8s_length]; omega) hbc).take x
  rw [if_neg (by omega), Nat.mul_one] at h1
  have e : (u8s ((b.drop j).take x)) = ((u8s b).drop j).take x := by simp [u8s, List.map_take, List.map_drop]
  rw [e]
  exact h1
theorem takeU8 {w : World} {B : Nat} {A : Option Addr} {b : List Nat} (h : Has w B A (u8s b)) (k : Nat) : Has w B A (u8s (b.take k)) := by
  have e : u8s (b.take k) = (u8s b).take k := by simp [u8s, List.map_take]
  rw [e]
  exact h.take k
def FirstP (r : List Nat × Nat × Bool) (w : World) (v : Value) (w' : World) : Prop :=
  ∃ A c, v = .tuple #[.slice A r.1.length c, .int .i64 r.2.1, .bool r.2.2] ∧ w'.ownsRow w.heap.size 5 1 (.slice A r.1.length c) r.1.length (u8s r.1) ∧ Below w.heap.size w w'
set_option maxRecDepth 1000000 in
set_option maxHeartbeats 4000000 in
theorem first_any (A : Option Addr) (n c : Nat) (b : List Nat) (hn : b.length = n) (hnc : n ≤ c) (hl : b.length ≤ 140737488355328) (hb : Bytes b) (w : World) (h : Has w w.heap.size A (u8s b)) :
    Calls Try.prog 58 #[.slice A n c] w (RV (FirstP (firstN b) w)) := by
  subst hn
  have hlm : b.length ≤ maxLen := by unfold maxLen; omega
  obtain ⟨⟨x, j, e⟩, ht⟩ : ∃ r, takeN b = r := ⟨_, rfl⟩
  have hx := takeN_lt hb ht
  have HT := Lib.hid ht
  have hbad := takeGo_bad b 0 0
  rw [show takeGo 0 0 b = takeN b from rfl, ht] at hbad
  have E : firstN b = if e ≠ 0 ∨ 2000 < x ∨ b.length < j + x + 8 then ([], 0, false) else ((b.drop j).take x, j + x + 8, decide (frameL ((b.drop j).take x) = b.take (j + x + 8))) := by unfold firstN; rw [ht]
  by_cases hc : e ≠ 0 ∨ 2000 < x ∨ b.length < j + x + 8
  · rw [if_pos hc] at E
    have E := Lib.hid E
    rw [E.out]
    clear hbad ht
    have hj : j ≤ 1000 ∨ True := .inr trivial
    rcases (show (e ≠ 0) ∨ (e = 0 ∧ 2000 < x) ∨ (e = 0 ∧ x ≤ 2000 ∧ b.length < j + x + 8) by omega) with h1 | ⟨h1, h2⟩ | ⟨h1, h2, h3⟩
    · have f1 : ((e : Int) != 0) = true := by rw [bne_iff_ne]; omega
      clear hc h1
      go_enter Try.func58, Try.ntmps58
      go_wp2_with fail
      refine (take_any' A _ c b rfl hlm hb _ (by exact h)).mono ?_
      rintro e' w1 ⟨rfl, n1, rfl⟩
      rw [HT.out, R3]
      go_wp2_with fail
      go_ret3
      exact RV.mk ⟨none, 0, rfl, ⟨rfl, .inl ⟨rfl, rfl⟩⟩, below_drewN (Below.refl _ _) _⟩
    · subst h1
      have h2' : (2000 : Int) < (x : Int) := by omega
      clear hc h2
      go_enter Try.func58, Try.ntmps58
      go_wp2_with fail
      refine (take_any' A _ c b rfl hlm hb _ (by exact h)).mono ?_
      rintro e' w1 ⟨rfl, n1, rfl⟩
      rw [HT.out, R3]
      go_wp2_with fail
      go_ret3
      exact RV.mk ⟨none, 0, rfl, ⟨rfl, .inl ⟨rfl, rfl⟩⟩, below_drewN (Below.refl _ _) _⟩
    · subst h1
      obtain ⟨_, hj2, _⟩ := takeN_ok hb HT.out
      have h2' : (x : Int) ≤ 2000 := by omega
      have e1 : IntKind.i64.wrap (x : Int) = (x : Int) := IntWalk.i64_in _ (by omega)
      have h3' : (b.length : Int) < (j : Int) + (x : Int) + 8 := by omega
      clear hc h2 h3
      go_enter Try.func58, Try.ntmps58
      go_wp2_with fail
      refine (take_any' A _ c b rfl hlm hb _ (by exact h)).mono ?_
      rintro e' w1 ⟨rfl, n1, rfl⟩
      rw [HT.out, R3]
      go_wp2_with fail
      go_ret3
      exact RV.mk ⟨none, 0, rfl, ⟨rfl, .inl ⟨rfl, rfl⟩⟩, below_drewN (Below.refl _ _) _⟩
  · rw [if_neg hc] at E
    obtain rfl : e = 0 := by omega
    obtain ⟨_, hj2, _⟩ := takeN_ok hb HT.out
    have h2' : (x : Int) ≤ 2000 := by omega
    have e1 : IntKind.i64.wrap (x : Int) = (x : Int) := IntWalk.i64_in _ (by omega)
    have h3' : (j : Int) + (x : Int) + 8 ≤ (b.length : Int) := by omega
    obtain ⟨R, hR⟩ : ∃ R, (b.drop j).take x = R := ⟨_, rfl⟩
    have hRl : R.length = x := by rw [← hR, List.length_take, List.length_drop]; omega
    rw [hR] at E
    have E := Lib.hid E
    rw [E.out]
    have hRb : Bytes R := by rw [← hR]; exact fun y hy => hb y (List.mem_of_mem_drop (List.mem_of_mem_take hy))
    have HR := Lib.hid hR; clear hR
    have hfr := Lib.hid (show frameN R = (frameL R, 0) by unfold frameN; rw [if_neg (by omega)])
    obtain ⟨ad, rfl, _, _⟩ := h.at (u8s_at (show 0 < b.length by omega))
    have hcut := Lib.hid (cutU8 (x := x) h hnc (show j < c by omega))
    rw [HR.out] at hcut
    have hRu := Lib.hid (u8s_one R)
    have hT8 : Bytes (b.take (j + x + 8)) := fun y hy => hb y (List.mem_of_mem_take hy)
    have hT8 := Lib.hid hT8
    have hTl := Lib.hid (show (b.take (j + x + 8)).length = j + x + 8 by rw [List.length_take]; omega)
    have hfl := putL_len10 (show R.length < 18446744073709551616 by omega)
    have hfl2 : (frameL R).length ≤ 2018 := by unfold frameL; rw [List.length_append, List.length_append, be8_len]; omega
    clear hc hbad ht hfl
    go_enter Try.func58, Try.ntmps58
    go_wp2_with fail
    refine (take_any' (some ad) _ c b rfl hlm hb _ (by exact h)).mono ?_
    rintro e' w1 ⟨rfl, n1, rfl⟩
    rw [HT.out, R3]
    go_wp2_with fail
    refine (cloneU8_any _ x _ (u8s R) (by rw [u8s_length, hRl]; omega) hRu.out (by intro hx; cases hx) (by omega) _ (by exact hcut.out)).mono ?_
    rintro e' w2 ⟨v, rfl, A2, c2, rfl, ho2, hb2⟩
    have hb2' : Below w.heap.size w w2 := (below_drewN (Below.refl _ _) n1).trans hb2
    have hr2 := Lib.hid (Has.of_own ho2)
    have ho2 := Lib.hid ho2
    have h2w := Lib.hid (h.next hb2')
    go_wp2_with fail
    refine (frame_any A2 x c2 R hRl (by unfold maxLen; omega) hRb _ (by exact hr2.out)).mono ?_
    rw [hfr.out]
    rintro e' w3 ⟨v, rfl, A3, c3, rfl, ho3, hb3⟩
    have hb3' := bnext hb2' hb3
    have hr3 := Lib.hid (Has.of_own ho3); clear ho3
    have h3w := Lib.hid (h2w.out.next hb3)
    have hc8 : (j : Int) + (x : Int) + 8 ≤ (c : Int) := by omega
    go_wp2_with fail
    refine (equalU8_any A3 (some ad) _ (j + x + 8) c3 c (frameL R) (b.take (j + x + 8)) rfl hTl.out (by unfold maxLen; omega) (by unfold maxLen; omega) _ (by exact hr3.out) (by exact takeU8 h3w.out _)).mono ?_
    rintro e' w4 ⟨rfl, n4, rfl⟩
    go_wp2_with fail
    go_ret3
    refine RV.mk ⟨A2, c2, ?_, ?_, below_drewN hb3' _⟩
    · show Value.tuple #[.slice A2 x c2, .int .i64 ((j : Int) + (x : Int) + 8), .bool (decide (frameL R = b.take (j + x + 8)))] = Value.tuple #[.slice A2 R.length c2, .int .i64 ((j + x + 8 : Nat) : Int), .bool (decide (frameL R = b.take (j + x + 8)))]
      rw [hRl]; rfl
    · show (w3.drewN n4).ownsRow w.heap.size 5 1 (.slice A2 R.length c2) R.length (u8s R)
      rw [hRl]; exact own_drewN (own_next (own_less ho2.out (by simp)) hb3) _
end Go.Proofs.Ytkcfhfplppdnnaa
