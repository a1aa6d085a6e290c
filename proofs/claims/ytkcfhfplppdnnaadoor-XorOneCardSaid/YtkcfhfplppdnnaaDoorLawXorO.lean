/- The walk of the law XorOne: it returns true. Conditions: the argument fits its kind; the table of de Bruijn lies in its cells. -/
import Derived.Test.YtkcfhfplppdnnaaDoorUnpackX
import Derived.Test.YtkcfhfplppdnnaaDoorSameBits
namespace Go.Proofs.YtkcfhfplppdnnaaDoor
open Go.RowKit

theorem unxN_cases (bs : List Bool) : unxN bs = ([], 4) ∨ ∃ ls, unxN bs = (ls, 0) ∧ packXN ls = ((packB bs, (bs.length : Int)), 0) ∧ U64all ls := by
  unfold unxN
  split
  · exact .inl rfl
  · rename_i h
    refine .inr ⟨_, rfl, ?_⟩
    simp only [not_or, Decidable.not_not] at h
    obtain ⟨_, h2, h3⟩ := h
    unfold packXN at h2 ⊢
    split at h2
    · simp at h2
    · rename_i h4
      rw [if_neg h4, h3]
      exact ⟨rfl, unxR_lt bs _ _ _ _ _ (by decide)⟩

set_option maxRecDepth 1000000 in
set_option maxHeartbeats 2000000 in
theorem xorOne_true (w : World) (A : Option Addr) (c : Nat) (l : List Nat) (N : Int) (hb : Bytes l) (hlc : l.length ≤ c) (_ : c ≤ maxLen) (_ : A = none → c = 0) (h : Has w w.heap.size A (u8s l)) (hr : l.length ≤ 140737488351232) (hN : -9223372036854775808 ≤ N ∧ N ≤ 9223372036854775807)
    (ht : DebAt w) (hw0 : 1 < w.heap.size) :
    Calls Tryd.prog 10 #[.agg #[.slice A l.length c, .int .i64 N]] w (R1 (.bool true) (Below w.heap.size w)) := by
  have hbx : Below w.heap.size w (w.alloc (.cells #[.slice A l.length c, .int .i64 N] 26)) := (Below.refl _ _).alloc (Nat.le_refl _) _
  have hbk : Blk (w.alloc (.cells #[.slice A l.length c, .int .i64 N] 26)) w.heap.size 26 #[.slice A l.length c, .int .i64 N] := Blk.new w _ _
  have HTx := ht.below hw0 hbx
  go_enter Tryd.func10, Tryd.ntmps10
  go_wp2_with fail
  refine (xors_true _ (by exact HTx) (by simp; omega)).mono ?_
  rintro e w1 ⟨rfl, hb1⟩
  have HT1 := Lib.hid (HTx.below (by simp; omega) hb1); clear HTx ht
  have hw1 : 1 < w1.heap.size := Nat.lt_of_lt_of_le (by simp; omega) hb1.size
  have k1 := hbk.next hb1
  have hbw := bnext hbx hb1
  have x0 : w1.cell? ⟨w.heap.size, 0, none⟩ = some (.slice A l.length c) := k1.cell 0
  have x1 : w1.cell? ⟨w.heap.size, 1, none⟩ = some (.int .i64 N) := k1.cell 1
  have hm1 := Lib.hid (h.next hbw)
  by_cases hz : chkB l N = 0
  · have hm : 0 ≤ N ∧ BOk l N.toNat := by
      unfold chkB at hz
      split at hz
      · assumption
      · simp at hz
    obtain ⟨hN0, hB⟩ := hm
    obtain ⟨m, rfl⟩ := Int.eq_ofNat_of_zero_le hN0
    have hB : BOk l m := by simpa using hB
    have ep := packB_unB hb hB
    have em : (unB l m).length = m := unB_len l m
    have hml : m ≤ 1125899906842624 := by have := hB.1; omega
    obtain ⟨bs, hbs⟩ : ∃ bs, unB l m = bs := ⟨_, rfl⟩
    rw [hbs] at ep em
    subst ep em
    clear hbs hz hB hN0 hN
    rcases unxN_cases bs with hu | ⟨ls, hu, hp, hi⟩
    · have HU := Lib.hid hu; clear hu
      go_wp2_with fail
      refine (xunpack_any A c bs _ HU.out hml _ (by exact hm1.out) (by exact HT1.out) hw1).mono ?_
      rintro e w2 ⟨v, rfl, A2, c2, rfl, ho2, hb2⟩
      clear ho2
      go_wp2_with fail
      go_ret
      exact R1.mk rfl (bnext hbw hb2)
    · have HU := Lib.hid hu; clear hu
      have HP := Lib.hid hp; clear hp
      have hll : ls.length ≤ 1000 := by
        have := HP.out
        unfold packXN at this
        split at this
        · injection this with _ h2; omega
        · omega
      go_wp2_with fail
      refine (xunpack_any A c bs _ HU.out hml _ (by exact hm1.out) (by exact HT1.out) hw1).mono ?_
      rintro e w2 ⟨v, rfl, A2, c2, rfl, ho2, hb2⟩
      have k2 := k1.next hb2
      have hbw2 := bnext hbw hb2
      have HT2 := Lib.hid (HT1.out.below hw1 hb2)
      have hm2 := Lib.hid (Has.of_own ho2); clear ho2
      go_wp2_with fail
      refine (xpack_any' A2 _ c2 ls _ HP.out rfl (by unfold maxLen; omega) hi _ (by exact hm2.out) (by exact HT2.out) (Nat.lt_of_lt_of_le hw1 hb2.size)).mono ?_
      rintro e w3 ⟨v, rfl, A3, c3, rfl, ho3, hb3⟩
      have hbw3 := bnext hbw2 hb3
      have k4 := (k2.next hb3).alloc (.cells #[.slice A3 (packB bs).length c3, .int .i64 bs.length] 26)
      have y0 : (w3.alloc (.cells #[.slice A3 (packB bs).length c3, .int .i64 bs.length] 26)).cell? ⟨w.heap.size, 0, none⟩ = some (.slice A (packB bs).length c) := k4.cell 0
      have y1 : (w3.alloc (.cells #[.slice A3 (packB bs).length c3, .int .i64 bs.length] 26)).cell? ⟨w.heap.size, 1, none⟩ = some (.int .i64 bs.length) := k4.cell 1
      have hm4 := Lib.hid (Has.allocA (Has.of_own ho3) (.cells #[.slice A3 (packB bs).length c3, .int .i64 bs.length] 26)); clear ho3
      have hx4 := Lib.hid (Has.allocA (h.next hbw3) (.cells #[.slice A3 (packB bs).length c3, .int .i64 bs.length] 26))
      have hb4 : Below w.heap.size w (w3.alloc (.cells #[.slice A3 (packB bs).length c3, .int .i64 bs.length] 26)) := hbw3.alloc hbw3.size _
      go_wp2_with fail
      refine (sameBits_any A A3 _ _ c c3 (packB bs) (packB bs) rfl rfl _ _ (packB_bytes bs) (packB_bytes bs) _ (by exact hx4.out) (by exact hm4.out)).mono ?_
      rintro e w5 ⟨rfl, hb5⟩
      go_wp2_with fail
      go_ret
      exact R1.mk (by simp) (bnext hb4 hb5)
  · go_wp2_with fail
    refine (xunpack_bad A c l N hN.2 (by omega) hz _ (by exact hm1.out)).mono ?_
    rintro e w2 ⟨v, rfl, A2, c2, rfl, ho2, hb2⟩
    clear ho2
    go_wp2_with fail
    go_ret
    exact R1.mk rfl (bnext hbw hb2)
end Go.Proofs.YtkcfhfplppdnnaaDoor
