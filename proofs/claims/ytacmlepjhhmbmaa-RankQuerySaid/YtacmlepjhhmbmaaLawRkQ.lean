/- The walk of the law RankQuery: it returns true. Conditions: the arguments fit their kinds. -/
import Derived.Test.YtacmlepjhhmbmaaRkUp
import Derived.Test.YtacmlepjhhmbmaaQry
namespace Go.Proofs.Ytacmlepjhhmbmaa
open Go.RowKit

set_option maxRecDepth 1000000 in
set_option maxHeartbeats 16000000 in
theorem rankQuery_true (w : World) (K : Int) (_ : -9223372036854775808 ≤ K ∧ K ≤ 9223372036854775807) (A : Option Addr) (c : Nat) (l : List Int) (hI : ∀ x ∈ l, in64 x) (lc : l.length ≤ c) (cm : c ≤ maxLen) (hA : A = none → c = 0) (has : Has w w.heap.size A (i64s l)) (hs : l.length ≤ 17592186043904) (x : Int) (_ : -9223372036854775808 ≤ x ∧ x ≤ 9223372036854775807) :
    Calls Try.prog 9 #[.int .i64 K, .slice A l.length c, .int .i64 x] w (R1 (.bool true) (Below w.heap.size w)) := by
  have HR := Lib.hid (fun (w' : World) (hb : Below w.heap.size w w') => ranked_any K A l.length c l rfl (by omega) (fun x hx => hI x hx) w' (has.next hb))
  have HU := Lib.hid (fun (x : Int) (w' : World) (hb : Below w.heap.size w w') => upToK_any A l.length c l rfl (by omega) x w' (has.next hb))
  have HC := Lib.hid (fun (x : Int) (hx : x ∈ l) (w' : World) (hb : Below w.heap.size w w') => containsI_any A l.length c l rfl (by omega) x hx w' (has.next hb))
  obtain ⟨n, hn⟩ : ∃ n, l.length = n := ⟨_, rfl⟩
  have Hn := Lib.hid hn
  rw [hn] at HR HU HC hs ⊢
  clear hn hI lc cm hA has
  go_enter Try.func9, Try.ntmps9
  go_wp2_with fail
  refine (ranks_true _).mono ?_
  rintro e9 w1 ⟨rfl, hb1⟩
  go_wp2_with fail
  refine (HR.out _ hb1).mono ?_
  rintro e9 w2 ⟨v, rfl, hres, hb2⟩
  have hb02 := bnext hb1 hb2
  rcases hres with ⟨T, L, N, S, z, hG, h20, rfl, A3, c3, B3, e3, vs3, rfl, hO⟩ | ⟨rfl, hbad⟩
  · have hb3' : Below w2.heap.size w2 (w2.alloc (.cells #[.int .i64 K, .slice A3 T.length c3, .slice B3 L.length e3, .int .i64 N, .int .i64 S] 35)) := (Below.refl _ _).alloc (Nat.le_refl _) _
    have hk3 : Blk (w2.alloc (.cells #[.int .i64 K, .slice A3 T.length c3, .slice B3 L.length e3, .int .i64 N, .int .i64 S] 35)) w2.heap.size 35 #[.int .i64 K, .slice A3 T.length c3, .slice B3 L.length e3, .int .i64 N, .int .i64 S] := Blk.new _ _ _
    have hb03 := bnext hb02 hb3'
    obtain ⟨i1, i2, i3, i4, i5⟩ := (hO.next hb3').inp
    have hK64 : in64 K := ⟨by have := hG.k2; omega, by have := hG.k64; omega⟩
    have hNn : N = (n : Int) := by rw [hG.nN, Hn.out]
    have hSl := hG.slack
    have hNl := hG.nle
    have HQ := Lib.hid (query_any K hK64 A3 c3 T B3 e3 L vs3 N S x i2 i3 _ i1 i4 i5 (by omega))
    have HCh := Lib.hid (hG.chk h20)
    have HG := Lib.hid hG
    subst hNn
    clear hG hO i1 i2 i3 i4 i5 hb1 hb2 hK64
    go_wp2_with fail
    refine HQ.out.mono ?_
    rintro e9 w4 ⟨v, rfl, ⟨a, E, rfl, hr⟩, hb4⟩
    have hb04 := bnext hb03 hb4
    have hk4 := hk3.next hb4
    have y4 : w4.cell? ⟨w2.heap.size, 4, none⟩ = some (.int .i64 S) := hk4.cell 4
    simp only [W2]
    rcases hr with ⟨rfl, _, hr1, hr2, ha, hat⟩ | ⟨hE, _, _, rfl, hno⟩
    · obtain ⟨q1, q2, q3⟩ := HG.out.query h20 hr1 ⟨ha, hat⟩
      obtain ⟨p, hp⟩ : ∃ p, cnt l a = p := ⟨_, rfl⟩
      obtain ⟨q, hq⟩ : ∃ q, cnt l (a - 1) = q := ⟨_, rfl⟩
      rw [hp] at q2
      rw [hq] at q3
      have HPq := Lib.hid (show cnt l a = p ∧ cnt l (a - 1) = q from ⟨hp, hq⟩)
      have Q1 := Lib.hid q1
      have e1 : IntKind.i64.wrap (x + S) = x + S := IntWalk.i64_in _ (by omega)
      clear ha hat q1 hp hq hk4
      go_wp2_with fail
      refine (HU.out a _ hb04).mono ?_
      rw [HPq.out.1, HPq.out.2]
      rintro e9 w5 ⟨rfl, hw5⟩
      rw [hw5]
      clear hw5
      go_wp2_with fail
      refine (HC.out a Q1.out _ hb04).mono ?_
      rintro e9 w6 ⟨rfl, hw6⟩
      rw [hw6]
      clear hw6
      go_wp2_with fail
      go_ret
      exact R1.mk (by simp) hb04
    · have hEb : (E != 0) = true := by rw [bne_iff_ne]; exact hE
      have hno' : x < 1 ∨ (n : Int) < x := by
        have := HCh.out
        rcases Int.lt_or_le x 1 with h1 | h1
        · exact .inl h1
        · exact .inr (Int.lt_of_not_ge fun h2 => hno ⟨this, h1, h2⟩)
      clear hno hk4 y4
      rcases hno' with h1 | h1
      · go_wp2_with fail
        go_ret
        exact R1.mk (by simp) hb04
      · by_cases h2 : x < 1
        · go_wp2_with fail
          go_ret
          exact R1.mk (by simp) hb04
        · go_wp2_with fail
          go_ret
          exact R1.mk (by simp) hb04
  · simp only [zeroR]
    rw [Hn.out] at hbad
    rcases hbad with h1 | h1 | h1
    · go_wp2_with fail
      go_ret
      exact R1.mk (by simp) (hb02.alloc hb02.size _)
    · have h2 : ¬ K < 2 := by omega
      go_wp2_with fail
      go_ret
      exact R1.mk (by simp) (hb02.alloc hb02.size _)
    · have h3 : (1000 : Int) < (n : Int) := by omega
      by_cases h2 : K < 2
      · go_wp2_with fail
        go_ret
        exact R1.mk (by simp) (hb02.alloc hb02.size _)
      · by_cases h4 : 64 < K
        · go_wp2_with fail
          go_ret
          exact R1.mk (by simp) (hb02.alloc hb02.size _)
        · go_wp2_with fail
          go_ret
          exact R1.mk (by simp) (hb02.alloc hb02.size _)
end Go.Proofs.Ytacmlepjhhmbmaa
