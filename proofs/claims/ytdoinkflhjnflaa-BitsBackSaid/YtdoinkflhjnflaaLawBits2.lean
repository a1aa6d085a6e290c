/- The walk of the law BitsBack: it returns true. Conditions: the arguments fit their kinds. -/
import Derived.Test.YtdoinkflhjnflaaLawBits
import Derived.Test.YtdoinkflhjnflaaBitsZag
import Derived.Test.YtdoinkflhjnflaaTakeLaw
import Derived.Test.YtdoinkflhjnflaaCloneU8
namespace Go.Proofs.Ytdoinkflhjnflaa
open Go.RowKit

set_option maxRecDepth 1000000 in
set_option maxHeartbeats 2000000 in
theorem bitsBack_true (w : World) (m : Int) (hm : -9223372036854775808 ≤ m ∧ m ≤ 9223372036854775807) (u : Nat) (hu : u < 18446744073709551616) (A : Option Addr) (c : Nat) (l : List Nat) (hb : Bytes l) (hlc : l.length ≤ c) (hc : c ≤ maxLen) (_ : A = none → c = 0) (h : Has w w.heap.size A (u8s l)) (hr : l.length ≤ 140737488351232) :
    Calls Try.prog 7 #[.int .i64 m, .int .u64 u, .slice A l.length c] w (R1 (.bool true) (Below w.heap.size w)) := by
  have hp10 := putL_len10 hu
  obtain ⟨P, hP⟩ : ∃ P, putL u = P := ⟨_, rfl⟩
  have hPb : Bytes P := hP ▸ putL_bytes u
  have HT : Hid (takeN (P ++ l) = (u, P.length, 0)) := Lib.hid (hP ▸ takeN_put hu l)
  have hbig : Bytes (P ++ l) := fun b hm => (List.mem_append.1 hm).elim (hPb b) (hb b)
  rw [hP] at hp10
  have HP := Lib.hid hP; clear hP
  have hlz := zigN_lt hm
  go_enter Try.func7, Try.ntmps7
  go_wp2_with fail
  refine (bitses_true _).mono ?_
  rintro e w1 ⟨rfl, hb1⟩
  go_wp2_with fail
  refine (put_any u hu _).mono ?_
  rintro e w2 ⟨v, rfl, A2, c2, rfl, hown2, hb2⟩
  rw [HP.out] at hown2 ⊢
  have hb2 := bnext hb1 hb2
  go_wp2_with fail
  refine (cloneU8_any A2 P.length c2 (u8s P) (by rw [u8s_len, Nat.mul_one]) (u8s_one P) (own_cap hown2) (by omega) _ (Has.of_own hown2)).mono ?_
  rintro e w3 ⟨v, rfl, A3, c3, rfl, hown3, hb3⟩
  have hb3 := bnext hb2 hb3
  have hbs3 := hb3.size
  have hbs2 := hb2.size
  go_wp2_with (at_builtin; refine wpList_spread rfl _ _ _ rfl elU8 rfl (own_less hown3 hbs2) rfl (h.next hb3) ?_ ?c1 ?c2 ?c3 ?c4 ?c5; intro A' c' w4 hown4 hgrow hb4)
  case c1 => rw [u8s_len, Nat.mul_one]
  case c2 => exact u8s_one l
  case c3 => omega
  case c4 => unfold maxLen; omega
  case c5 => exact hbs3
  rw [← u8s_app] at hown4
  refine (take_any' A' _ c' (P ++ l) (by rw [List.length_append]) (by rw [List.length_append]; unfold maxLen; omega) hbig _ (Has.of_own hown4)).mono ?_
  rintro e w5 ⟨rfl, n5, rfl⟩
  rw [HT.out, R3]
  have hb4 := hb3.trans hb4
  go_wp2_with fail
  refine (zig_any m hm _).mono ?_
  rintro e w6 ⟨rfl, n6, rfl⟩
  go_wp2_with fail
  refine (zag_any _ hlz _).mono ?_
  rintro e w7 ⟨rfl, n7, rfl⟩
  rw [zag_zig]
  go_wp2_with fail
  refine (zag_any u hu _).mono ?_
  rintro e w8 ⟨rfl, n8, rfl⟩
  go_wp2_with fail
  refine (zig_any _ (zagN_in hu) _).mono ?_
  rintro e w9 ⟨rfl, n9, rfl⟩
  rw [zig_zag]
  go_wp2_with fail
  go_ret
  exact R1.mk rfl (below_drewN hb4 _)
end Go.Proofs.Ytdoinkflhjnflaa
