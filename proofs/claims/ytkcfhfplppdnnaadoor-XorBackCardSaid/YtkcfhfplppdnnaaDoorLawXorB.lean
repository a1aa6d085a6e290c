/- The walk of the law XorBack: it returns true. Conditions: the measures fit their kind; the table of de Bruijn lies in its cells. -/
import Derived.Test.YtkcfhfplppdnnaaDoorUnpackX
import Derived.Test.YtkcfhfplppdnnaaDoorEqU64
import Derived.Test.YtkcfhfplppdnnaaDoorSameBits
namespace Go.Proofs.YtkcfhfplppdnnaaDoor
open Go.RowKit

theorem packXN_big {l : List Nat} (h : 1000 < l.length) : packXN l = (([], 0), 2) := by unfold packXN; rw [if_pos h]
theorem packXN_small2 {l : List Nat} (h : l.length ≤ 1000) : packXN l = ((packB (packX l), ((packX l).length : Int)), 0) := by unfold packXN; rw [if_neg (by omega)]
theorem packX_le {l : List Nat} (h : l.length ≤ 1000) : (packX l).length ≤ 79000 := by
  have h1 := xF_len l
  unfold packX
  rw [List.length_append, toB_len]
  omega

set_option maxRecDepth 1000000 in
set_option maxHeartbeats 2000000 in
theorem xorBack_true (w : World) (A : Option Addr) (c : Nat) (l : List Nat) (hi : U64all l) (hlc : l.length ≤ c) (hc : c ≤ maxLen) (_ : A = none → c = 0) (h : Has w w.heap.size A (u64s l)) (hr : l.length ≤ 17592186043904)
    (ht : DebAt w) (hw0 : 1 < w.heap.size) :
    Calls Tryd.prog 9 #[.slice A l.length c] w (R1 (.bool true) (Below w.heap.size w)) := by
  have HI := Lib.hid hi
  have hlm : l.length ≤ maxLen := Nat.le_trans hlc hc
  go_enter Tryd.func9, Tryd.ntmps9
  go_wp2_with fail
  refine (xors_true _ ht hw0).mono ?_
  rintro e w1 ⟨rfl, hb1⟩
  have HT1 := Lib.hid (ht.below hw0 hb1); clear ht
  have hw1 : 1 < w1.heap.size := Nat.lt_of_lt_of_le hw0 hb1.size
  have hr1 := Lib.hid (h.next hb1)
  by_cases hbig : (1000 : Int) < (l.length : Int)
  · have HP := Lib.hid (packXN_big (show 1000 < l.length by omega))
    go_wp2_with fail
    refine (xpack_any' A _ c l _ HP.out rfl hlm HI.out _ (by exact hr1.out) (by exact HT1.out) hw1).mono ?_
    rintro e w4 ⟨v, rfl, A4, c4, rfl, ho4, hb4⟩
    clear ho4
    have hb5 : Below w.heap.size w (w4.alloc (.cells #[.slice A4 ([] : List Nat).length c4, .int .i64 0] 26)) := (bnext hb1 hb4).alloc (bnext hb1 hb4).size _
    go_wp2_with fail
    refine (sameBits_any A4 none _ 0 c4 0 [] [] rfl rfl 0 0 (by intro x hx; simp at hx) (by intro x hx; simp at hx) _ (by intro hx; simp [u8s] at hx) (by intro hx; simp [u8s] at hx)).mono ?_
    rintro e w6 ⟨rfl, hb6⟩
    go_wp2_with fail
    go_ret
    exact R1.mk rfl (bnext hb5 hb6)
  · have hsm : l.length ≤ 1000 := by omega
    have HP := Lib.hid (packXN_small2 hsm)
    have HU := Lib.hid (unxN_pack hi hsm)
    have hTl := packX_le hsm
    obtain ⟨bs, hbs⟩ : ∃ bs, packX l = bs := ⟨_, rfl⟩
    rw [hbs] at HP HU hTl
    clear hbs
    have hpl : (packB bs).length ≤ 140737488355328 := by rw [packB_len]; omega
    have e0 := Lib.hid (show chkB (packB bs) bs.length = 0 by unfold chkB; rw [if_pos ⟨by omega, by simpa using packB_ok bs⟩])
    go_wp2_with fail
    refine (xpack_any' A _ c l _ HP.out rfl hlm HI.out _ (by exact hr1.out) (by exact HT1.out) hw1).mono ?_
    rintro e w4 ⟨v, rfl, A4, c4, rfl, ho4, hb4⟩
    have hm5 := Lib.hid (Has.allocA (Has.of_own ho4) (.cells #[.slice A4 (packB bs).length c4, .int .i64 bs.length] 26))
    clear ho4
    have hb14 := bnext hb1 hb4
    have hb5 : Below w.heap.size w (w4.alloc (.cells #[.slice A4 (packB bs).length c4, .int .i64 bs.length] 26)) := hb14.alloc hb14.size _
    have k5 : Blk (w4.alloc (.cells #[.slice A4 (packB bs).length c4, .int .i64 bs.length] 26)) w4.heap.size 26 #[.slice A4 (packB bs).length c4, .int .i64 bs.length] := Blk.new _ _ _
    have HT5 := Lib.hid (HT1.out.below hw1 (hb4.mono (Nat.le_refl _) |>.alloc hb4.size (.cells #[.slice A4 (packB bs).length c4, .int .i64 bs.length] 26)))
    go_wp2_with fail
    refine (xunpack_any A4 c4 bs _ HU.out (by omega) _ (by exact hm5.out) (by exact HT5.out) (by have := hb4.size; simp; omega)).mono ?_
    rintro e w6 ⟨v, rfl, A6, c6, rfl, ho6, hb6⟩
    have k6 := k5.next hb6
    have x0 : w6.cell? ⟨w4.heap.size, 0, none⟩ = some (.slice A4 (packB bs).length c4) := k6.cell 0
    have x1 : w6.cell? ⟨w4.heap.size, 1, none⟩ = some (.int .i64 bs.length) := k6.cell 1
    have hb56 := bnext hb5 hb6
    have hm6 := Lib.hid (hm5.out.next hb6)
    have hl6 := Lib.hid (h.next hb56)
    have ho6 := Lib.hid (Has.of_own ho6)
    go_wp2_with fail
    refine (equalU64_any A A6 _ _ c c6 l l rfl rfl hlm hlm _ (by exact hl6.out) (by exact ho6.out)).mono ?_
    rintro e w7 ⟨rfl, n7, rfl⟩
    rw [decide_eq_true (rfl : l = l)]
    go_wp2_with fail
    refine (bcheck_any A4 c4 (packB bs) bs.length (by omega) hpl _ (by exact hm6.out)).mono ?_
    rw [e0.out]
    rintro e w8 ⟨rfl, hb8⟩
    go_wp2_with fail
    go_ret
    exact R1.mk rfl (bnext (below_drewN hb56 n7) hb8)
end Go.Proofs.YtkcfhfplppdnnaaDoor
