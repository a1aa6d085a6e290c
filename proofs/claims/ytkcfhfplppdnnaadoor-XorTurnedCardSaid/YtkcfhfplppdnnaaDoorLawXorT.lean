/- The walk of the law XorTurned: it returns true. Conditions: the arguments fit their kinds; the table of de Bruijn lies in its cells. -/
import Derived.Test.YtkcfhfplppdnnaaDoorUnpackX
import Derived.Test.YtkcfhfplppdnnaaDoorPull
import Derived.Test.YtkcfhfplppdnnaaDoorGood
namespace Go.Proofs.YtkcfhfplppdnnaaDoor
open Go.RowKit

theorem packXN_turned (b : Nat) (l : List Nat) : (packXN (l.map fun v => v ^^^ b)).2 = (packXN l).2 ∧ (packXN (l.map fun v => v ^^^ b)).1.2 = (packXN l).1.2 := by
  unfold packXN
  rw [List.length_map]
  split
  · exact ⟨rfl, rfl⟩
  · exact ⟨rfl, by show ((packX _).length : Int) = _; rw [packX_turned_len]⟩
theorem pull_bit {bs : List Bool} {i : Nat} (h : i < bs.length) (hl : bs.length ≤ 1125899906842624) : pullN (packB bs) bs.length i 1 = (bt bs i, 0) := by
  have e0 : chkB (packB bs) bs.length = 0 := by unfold chkB; rw [if_pos ⟨by omega, by simpa using packB_ok bs⟩]
  unfold pullN
  rw [if_neg (by rw [e0]; simp), if_neg (by omega), if_neg (by omega)]
  simp only [Int.toNat_natCast, Int.toNat_one]
  rw [show pullUp (packB bs) i 1 = bitAt (packB bs) i by simp [pullUp], bitAt_packB h]
theorem map_stepU {l : List Nat} (f : Nat → Nat) {k : Nat} (h : k < l.length) : (l.take (k + 1)).map f = (l.take k).map f ++ [f (at_ l k)] := by
  rw [List.take_add_one, List.getElem?_eq_getElem h, at_eq h, List.map_append]
  rfl

set_option maxRecDepth 1000000 in
set_option maxHeartbeats 4000000 in
theorem xorTurned_true (w : World) (A : Option Addr) (c : Nat) (l : List Nat) (hi : U64all l) (hlc : l.length ≤ c) (hc : c ≤ maxLen) (_ : A = none → c = 0) (h : Has w w.heap.size A (u64s l)) (hr : l.length ≤ 17592186043904)
    (b : Nat) (hb : b < 18446744073709551616) (ht : DebAt w) (hw0 : 1 < w.heap.size) :
    Calls Tryd.prog 7 #[.slice A l.length c, .int .u64 b] w (R1 (.bool true) (Below w.heap.size w)) := by
  obtain ⟨h1, h2⟩ := packXN_turned b l
  obtain ⟨⟨⟨x, N⟩, z⟩, hx⟩ : ∃ r, packXN l = r := ⟨_, rfl⟩
  obtain ⟨⟨⟨y, M⟩, z2⟩, hy⟩ : ∃ r, packXN (l.map fun v => v ^^^ b) = r := ⟨_, rfl⟩
  rw [hx, hy] at h1 h2
  simp only [] at h1 h2
  subst h1 h2
  have Hx := Lib.hid hx; clear hx
  have Hy := Lib.hid hy; clear hy
  have hIm : U64all (l.map fun v => v ^^^ b) := by
    intro x hx
    simp only [List.mem_map] at hx
    obtain ⟨t, ht, rfl⟩ := hx
    exact xor_lt (hi t ht) hb
  have HI := Lib.hid hi; clear hi
  have hIm := Lib.hid hIm
  have hlm : l.length ≤ maxLen := by unfold maxLen; omega
  go_enter Tryd.func7, Tryd.ntmps7
  go_wp2_with fail
  refine (xors_true _ ht hw0).mono ?_
  rintro e w1 ⟨rfl, hb1⟩
  have HT1 := Lib.hid (ht.below hw0 hb1); clear ht
  go_wp2_with fail
  go_loopw [5, 21] (fun v i wr => ∃ (k : Nat) (O : Option Addr) (e : Nat), k ≤ l.length ∧ i = .int .i64 (k : Nat) ∧ v = .slice O k e ∧ wr.ownsRow w1.heap.size 41 1 (.slice O k e) k (u64s ((l.take k).map fun v => v ^^^ b)) ∧ Below w1.heap.size w1 wr) (fun _ i _ => l.length + 5 - (intOf i).toNat)
  case atStart => exact ⟨0, none, 0, by omega, rfl, rfl, ⟨rfl, .inl ⟨rfl, rfl⟩⟩, Below.refl _ _⟩
  case round =>
    obtain ⟨k, O, e, hk, rfl, rfl, hown, hbr⟩ := hrel
    have hbs := hbr.size
    by_cases hlt : (k : Int) < (l.length : Int)
    · obtain ⟨ad, rfl, _, c0⟩ := ((h.next hb1).below hbr).at (u64s_at (show k < l.length by omega))
      have hst := Lib.hid (map_stepU (fun v => v ^^^ b) (show k < l.length by omega))
      have hxk := HI.out _ (at_mem (show k < l.length by omega))
      obtain ⟨t, ht⟩ : ∃ t, at_ l k = t := ⟨_, rfl⟩
      rw [ht] at c0 hst hxk
      clear ht
      have eX := bits_xor_u64_nat t b hxk hb
      go_wp2_with (at_builtin; refine wpList_append1 rfl _ _ _ rfl elU64 rfl hown rfl rfl rfl ?_ ?k1 ?k2 ?k3 ?k4; intro A2 e2 w3 hown3 hgrow hb3)
      case k1 => first | rfl | (intro u hu; simp at hu; subst hu; rfl)
      case k2 => omega
      case k3 => unfold maxLen; omega
      case k4 => omega
      have hown3 := Lib.hid hown3
      go_roundw
      case rel => exact ⟨k + 1, A2, e2, by omega, by go_num, rfl, by rw [hst.out, u64s_app1]; exact hown3.out, hbr.trans hb3⟩
      case measure => simp [intOf]; omega
    · obtain rfl : k = l.length := by omega
      rw [List.take_length] at hown
      have hr1 := Lib.hid ((h.next hb1).next hbr)
      have hm := Lib.hid (Has.of_own hown); clear hown
      have hw1 : 1 < w1.heap.size := Nat.lt_of_lt_of_le hw0 hb1.size
      have HT2 := Lib.hid (HT1.out.below hw1 hbr)
      have hwr0 : 1 < wr.heap.size := Nat.lt_of_lt_of_le hw1 hbs
      have hb2 := bnext hb1 hbr
      go_wp2_with fail
      refine (xpack_any' A _ c l _ Hx.out rfl hlm HI.out _ (by exact hr1.out) (by exact HT2.out) hwr0).mono ?_
      rintro e w4 ⟨v, rfl, A4, c4, rfl, ho4, hb4⟩
      have hm4 := Lib.hid (Has.allocA (hm.out.next hb4) (.cells #[.slice A4 x.length c4, .int .i64 M] 26))
      have hx4 := Lib.hid (Has.allocA (Has.of_own ho4) (.cells #[.slice A4 x.length c4, .int .i64 M] 26))
      clear ho4
      have hb5 : Below w.heap.size w (w4.alloc (.cells #[.slice A4 x.length c4, .int .i64 M] 26)) := (bnext hb2 hb4).alloc (Nat.le_trans hb2.size hb4.size) _
      have hk5 : Blk (w4.alloc (.cells #[.slice A4 x.length c4, .int .i64 M] 26)) w4.heap.size 26 #[.slice A4 x.length c4, .int .i64 M] := Blk.new _ _ _
      have HT5 := Lib.hid (HT2.out.below hwr0 (hb4.alloc hb4.size (.cells #[.slice A4 x.length c4, .int .i64 M] 26)))
      go_wp2_with fail
      refine (xpack_any' O _ e (l.map fun v => v ^^^ b) _ Hy.out (by simp) (by rw [List.length_map]; exact hlm) hIm.out _ (by exact hm4.out) (by exact HT5.out) (by have := hb4.size; simp; omega)).mono ?_
      rintro e w6 ⟨v, rfl, A6, c6, rfl, ho6, hb6⟩
      have hk6 := (hk5.next hb6).alloc (.cells #[.slice A6 y.length c6, .int .i64 M] 26)
      have hj6 : Blk (w6.alloc (.cells #[.slice A6 y.length c6, .int .i64 M] 26)) w6.heap.size 26 #[.slice A6 y.length c6, .int .i64 M] := Blk.new _ _ _
      have hx6 := Lib.hid (Has.allocA (hx4.out.next hb6) (.cells #[.slice A6 y.length c6, .int .i64 M] 26))
      have hy6 := Lib.hid (Has.allocA (Has.of_own ho6) (.cells #[.slice A6 y.length c6, .int .i64 M] 26))
      clear ho6 hm4 hx4 hr1
      have hb7 : Below w.heap.size w (w6.alloc (.cells #[.slice A6 y.length c6, .int .i64 M] 26)) := (bnext hb5 hb6).alloc (Nat.le_trans hb5.size hb6.size) _
      obtain ⟨n, hn⟩ : ∃ n, l.length = n := ⟨_, rfl⟩
      rw [hn] at hlt ⊢
      have x1 : (w6.alloc (.cells #[.slice A6 y.length c6, .int .i64 M] 26)).cell? ⟨w4.heap.size, 1, none⟩ = some (.int .i64 M) := hk6.cell 1
      have x2 : (w6.alloc (.cells #[.slice A6 y.length c6, .int .i64 M] 26)).cell? ⟨w6.heap.size, 1, none⟩ = some (.int .i64 M) := hj6.cell 1
      have Hn := Lib.hid hn
      by_cases hend : z2 ≠ 0 ∨ n = 0 ∨ 100 < n
      · rcases (show z2 ≠ 0 ∨ (z2 = 0 ∧ n = 0) ∨ (z2 = 0 ∧ n ≠ 0 ∧ (100 : Int) < (n : Int)) by omega) with hz | ⟨rfl, rfl⟩ | ⟨rfl, hz, hz2⟩
        · have hz' : (z2 != 0) = true := by rw [bne_iff_ne]; exact hz
          clear hn hlc hr hlm hk hlt hend
          go_wp2_with fail
          go_ret
          exact R1.mk (by simp) hb7
        · clear hn hlc hr hlm hk hlt hend
          go_wp2_with fail
          go_ret
          exact R1.mk (by simp) hb7
        · have hz' : ((n : Int) == 0) = false := by rw [beq_eq_false_iff_ne]; omega
          clear hn hlc hr hlm hk hlt hend
          go_wp2_with fail
          go_ret
          exact R1.mk (by simp) hb7
      · obtain ⟨rfl, hn0, hn1⟩ : z2 = 0 ∧ n ≠ 0 ∧ n ≤ 100 := by omega
        have hz' : ((n : Int) == 0) = false := by rw [beq_eq_false_iff_ne]; omega
        have hz'' : (n : Int) ≤ 100 := by omega
        obtain ⟨ex, eM⟩ := packXN_ok Hx.out rfl
        have ey := (packXN_ok Hy.out rfl).1
        have hlen := packX_turned_len b l
        have hat := fun i hi => packX_turned_at b (l := l) (by intro e; rw [e] at hn; simp at hn; omega) i hi
        have hbl : (packX l).length ≤ 79000 := by
          have h1 := xF_len l
          unfold packX
          rw [List.length_append, toB_len]
          omega
        obtain ⟨bs, hbs'⟩ : ∃ bs, packX l = bs := ⟨_, rfl⟩
        obtain ⟨cs, hcs'⟩ : ∃ cs, packX (l.map fun v => v ^^^ b) = cs := ⟨_, rfl⟩
        rw [hbs'] at ex eM hlen hat hbl
        rw [hcs'] at ey hlen hat
        subst ex ey eM
        have HL := Lib.hid hlen; clear hlen
        have Hat := Lib.hid hat
        clear hn hlc hr hlm hk hlt hend hbs' hcs' hat Hx Hy
        have hpx : (packB bs).length ≤ 140737488355328 := by rw [packB_len]; omega
        have hpy : (packB cs).length ≤ 140737488355328 := by rw [packB_len, HL.out]; omega
        go_wp2_with fail
        obtain ⟨w7, hw7⟩ : ∃ w7, w6.alloc (.cells #[.slice A6 (packB cs).length c6, .int .i64 bs.length] 26) = w7 := ⟨_, rfl⟩
        rw [hw7] at hk6 hj6 hx6 hy6 hb7 x1 x2 ⊢
        obtain ⟨X, hX⟩ : ∃ X, w4.heap.size = X := ⟨_, rfl⟩
        obtain ⟨Y, hY⟩ : ∃ Y, w6.heap.size = Y := ⟨_, rfl⟩
        rw [hX] at hk6 x1 ⊢
        rw [hY] at hj6 x2 ⊢
        clear hw7 hX hY hk5 hb5 hb6 hb4 x1 x2
        go_loopw [12] (fun i wr => ∃ k : Nat, 80 ≤ k ∧ k ≤ 80 + bs.length ∧ i = .int .i64 (k : Nat) ∧ Below w7.heap.size w7 wr) (fun i _ => 80 + bs.length + 5 - (intOf i).toNat)
        case atStart => exact ⟨80, by omega, by omega, rfl, Below.refl _ _⟩
        case round =>
          obtain ⟨k, hk80, hkl, rfl, hbr⟩ := hrel
          have kx := hk6.next hbr
          have ky := hj6.next hbr
          have x1 : wr.cell? ⟨X, 1, none⟩ = some (.int .i64 bs.length) := kx.cell 1
          have hb7r := bnext hb7 hbr
          by_cases hlt : (k : Int) < (bs.length : Int)
          · have x0 : wr.cell? ⟨X, 0, none⟩ = some (.slice A4 (packB bs).length c4) := kx.cell 0
            have P1 := Lib.hid (pull_bit (bs := bs) (i := k) (by omega) (by omega))
            have P2 : Hid (pullN (packB cs) bs.length k 1 = (bt bs k, 0)) := Lib.hid (by rw [← HL.out, pull_bit (bs := cs) (i := k) (by rw [HL.out]; omega) (by rw [HL.out]; omega), Hat.out k hk80])
            obtain ⟨v, hv⟩ : ∃ v, bt bs k = v := ⟨_, rfl⟩
            rw [hv] at P1 P2
            clear hv
            go_wp2_with fail
            refine (pull_any A4 c4 (packB bs) bs.length k 1 (by omega) (by omega) (by omega) hpx (packB_bytes bs) _ (by exact hx6.out.next hbr)).mono ?_
            rintro e1 w8 ⟨rfl, hb8⟩
            rw [P1.out, R2e]
            have ky8 := ky.next hb8
            have y0 : w8.cell? ⟨Y, 0, none⟩ = some (.slice A6 (packB cs).length c6) := ky8.cell 0
            have y1 : w8.cell? ⟨Y, 1, none⟩ = some (.int .i64 bs.length) := ky8.cell 1
            have hb78 := bnext hbr hb8
            go_wp2_with fail
            refine (pull_any A6 c6 (packB cs) bs.length k 1 (by omega) (by omega) (by omega) hpy (packB_bytes cs) _ (by exact hy6.out.next hb78)).mono ?_
            rintro e2 w9 ⟨rfl, hb9⟩
            rw [P2.out, R2e]
            have hb79 := bnext hb78 hb9
            go_wp2_with fail
            refine (good_any _ 2 _ [0, 0] rfl (by decide) _ (Has.fresh w9 #[.int .i64 0, .int .i64 0] _)).mono ?_
            rintro e3 w10 ⟨rfl, n10, rfl⟩
            have hb10 : Below w7.heap.size w7 ((w9.alloc (.cells #[.int .i64 0, .int .i64 0] 27)).drewN n10) := below_drewN (hb79.alloc hb79.size _) _
            go_wp2_with fail
            go_roundw
            case rel => exact ⟨k + 1, by omega, by omega, by go_num, hb10⟩
            case measure => simp [intOf]; omega
          · go_wp2_with fail
            go_ret
            exact R1.mk rfl hb7r
end Go.Proofs.YtkcfhfplppdnnaaDoor
