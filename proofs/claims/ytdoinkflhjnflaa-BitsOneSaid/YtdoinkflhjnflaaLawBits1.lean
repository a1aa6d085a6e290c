/- The walk of the law BitsOne: it returns true. Conditions: the argument's bytes are bytes. -/
import Derived.Test.YtdoinkflhjnflaaLawBits
import Derived.Test.YtdoinkflhjnflaaTakeLaw
import Derived.Test.YtdoinkflhjnflaaBytes
import Derived.Deep.RegionHeld3
namespace Go.Proofs.Ytdoinkflhjnflaa
open Go.RowKit

theorem u8s_take (l : List Nat) (k : Nat) : (u8s l).take k = u8s (l.take k) := by simp [u8s, List.map_take]

set_option maxRecDepth 1000000 in
set_option maxHeartbeats 2000000 in
theorem bitsOne_true (w : World) (A : Option Addr) (c : Nat) (l : List Nat) (hb : Bytes l) (hlc : l.length ≤ c) (hc : c ≤ maxLen) (_ : A = none → c = 0) (h : Has w w.heap.size A (u8s l)) (_ : l.length ≤ 140737488351232) :
    Calls Try.prog 4 #[.slice A l.length c] w (R1 (.bool true) (Below w.heap.size w)) := by
  have hl : l.length ≤ maxLen := by omega
  have hl2 := hl
  unfold maxLen at hl2 hc
  rcases hT : takeN l with ⟨x, j, e⟩
  by_cases he : e = 0
  · subst he
    obtain ⟨hj1, hj2, hput⟩ := takeN_ok hb hT
    have hx := takeN_lt hb hT
    have HP := Lib.hid hput; clear hput
    have HT := Lib.hid hT; clear hT
    have q1 : (1 : Int) ≤ (j : Int) := by omega
    have q2 : (j : Int) ≤ (l.length : Int) := by omega
    have q3 : (j : Int) ≤ (c : Int) := by omega
    have q0 : (0 : Int) ≤ (j : Int) := by omega
    have tb : Bytes (l.take j) := fun b hm => hb b (List.mem_of_mem_take hm)
    have tl : Hid ((l.take j).length = j) := Lib.hid (by rw [List.length_take]; omega)
    go_enter Try.func4, Try.ntmps4
    go_wp2_with fail
    refine (bitses_true _).mono ?_
    rintro e w1 ⟨rfl, hb1⟩
    go_wp2_with fail
    refine (take_any A c l hl hb _ (h.next hb1)).mono ?_
    rintro e w2 ⟨rfl, n1, rfl⟩
    rw [HT.out, R3]
    go_wp2_with fail
    go_region_held3 (fun _ => True) (trivial) (first | (go_at_call 15; refine (put_any x hx _).mono ?_; rintro e w3 ⟨v, rfl, A3, c3, rfl, hown, hb3⟩) | (go_at_call 17; refine (bytesEqual_any _ _ _ _ _ _ (putL x) (l.take j) (putL_bytes x) tb rfl tl.out _ (by exact Has.of_own hown) (by exact u8s_take l j ▸ ((h.next (bnext (below_drewN hb1 _) hb3)).take j))).mono ?_; rintro e w4 ⟨rfl, n4, rfl⟩))
    go_wp2
    go_ret
    exact R1.mk (bool_eq (decide_eq_true HP.out)) (below_drewN (bnext (below_drewN hb1 _) hb3) _)
  · have hbad := takeGo_bad l 0 0
    rw [show takeGo 0 0 l = (x, j, e) from hT] at hbad
    have hbad2 : takeN l = (0, 0, 3) ∨ takeN l = (0, 0, 4) := by
      rcases hbad with h1 | h1 | h1
      · exact absurd h1 he
      · exact .inl (hT.trans h1)
      · exact .inr (hT.trans h1)
    clear hbad hT
    rcases hbad2 with hT | hT
    all_goals
      have HT := Lib.hid hT; clear hT
      go_enter Try.func4, Try.ntmps4
      go_wp2_with fail
      refine (bitses_true _).mono ?_
      rintro e w1 ⟨rfl, hb1⟩
      go_wp2_with fail
      refine (take_any A c l hl hb _ (h.next hb1)).mono ?_
      rintro e w2 ⟨rfl, n1, rfl⟩
      rw [HT.out, R3]
      go_wp2_with fail
      go_ret
      exact R1.mk rfl (below_drewN hb1 _)
end Go.Proofs.Ytdoinkflhjnflaa
