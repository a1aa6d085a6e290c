/- What Check, upTo and Weight of package rank compute. Conditions: rows lie in their cells. -/
import Derived.Test.YthofijhjbaaokaaRankLaw
namespace Go.Proofs.Ythofijhjbaaokaa
open Go.RowKit

set_option maxRecDepth 1000000 in
set_option maxHeartbeats 1000000 in
theorem upTo_any (A : Option Addr) (n c : Nat) (l : List Int) (x : Int) (hn : l.length = n) (hl : n ≤ maxLen) (w : World) (h : Has w w.heap.size A (i64s l)) :
    Calls Try.prog 53 #[.slice A n c, .int .i64 x] w (R1 (.int .i64 (lead l x : Nat)) (Drawn w)) := by
  unfold maxLen at hl
  have Hn := Lib.hid hn; clear hn
  go_enter Try.func53, Try.ntmps53
  go_wp2_with fail
  go_loopw [5] (fun i wr => ∃ j : Nat, j ≤ n ∧ i = .int .i64 (j : Nat) ∧ Hid (∀ q, q < j → q < l.length → at_ l q ≤ x) ∧ Drawn w wr) (fun i _ => n + 5 - (intOf i).toNat)
  case atStart => exact ⟨0, by omega, rfl, Lib.hid (fun q h1 _ => by omega), Drawn.refl _⟩
  case round =>
    obtain ⟨j, hj, rfl, hs, nd, rfl⟩ := hrel
    by_cases hlt : (j : Int) < (n : Int)
    · obtain ⟨ad, rfl, _, c1⟩ := h.at (i64s_at (show j < l.length by rw [Hn.out]; omega))
      by_cases hx : at_ l j ≤ x
      · go_wp2_with fail
        go_roundw
        case rel => exact ⟨j + 1, by omega, by go_num, Lib.hid (fun q h1 h2 => by rcases (show q < j ∨ q = j by omega) with h3 | rfl; exact hs.out q h3 h2; exact hx), _, rfl⟩
        case measure => simp [intOf]; omega
      · go_wp2_with fail
        go_ret
        exact R1.mk (int_eq (by rw [lead_eq hs.out (by rw [Hn.out]; omega) (fun _ => by omega)])) ⟨_, rfl⟩
    · go_wp2_with fail
      go_ret
      exact R1.mk (int_eq (by rw [lead_eq hs.out (by rw [Hn.out]; omega) (fun h1 => by rw [Hn.out] at h1; omega)])) ⟨_, rfl⟩

theorem rkOk_false (K : Int) (L : List (List Int)) (m : Nat) : rkOk K L false m = false := by
  induction m with
  | zero => rfl
  | succ m ih => rw [rkOk, ih]; rfl
theorem rkN_succ (K : Int) (L : List (List Int)) (n : Int) (k : Nat) : rkN K L n (k + 1) = if (at_ L k).length = 0 then rkN K L n k else wrap64 (rkN K L n k + wrap64 (K * 2 ^ k)) := rfl
theorem rkOk_succ (K : Int) (L : List (List Int)) (b : Bool) (k : Nat) : rkOk K L b (k + 1) = (rkOk K L b k && lvOk K L.length k (at_ L k)) := rfl
theorem chkK_false {K : Int} {T : List Int} {L : List (List Int)} {N S : Int} (h : ok0 K T L S = false) : chkK K T L N S = 4 := by
  unfold chkK; rw [h, rkOk_false, if_neg (by simp)]

set_option maxRecDepth 1000000 in
set_option maxHeartbeats 40000000 in
theorem rcheck_any (K : Int) (hK : in64 K) (A : Option Addr) (c : Nat) (T : List Int) (B : Option Addr) (e : Nat) (L : List (List Int)) (vs : List Value) (N S : Int) (hLe : L.length ≤ e) (hem : e ≤ maxLen)
    (w : World) (hT : IntAt w (.slice A T.length c) T) (hB : Has w w.heap.size B vs) (hL : IntsAt w vs L) (hLl : L.length ≤ 5864062014634) :
    Calls Try.prog 30 #[.agg #[.int .i64 K, .slice A T.length c, .slice B L.length e, .int .i64 N, .int .i64 S]] w (R1 (.int .i64 (chkK K T L N S)) (Below w.heap.size w)) := by
  obtain ⟨A0, c0, e0, hT1, hT2, hT3, hT4, _⟩ := hT
  injection e0 with e01 _ e02
  subst e01 e02
  have hTm : T.length ≤ maxLen := Nat.le_trans hT1 hT2
  unfold in64 at hK
  have hb1 : Below w.heap.size w (w.alloc (.cells #[.int .i64 K, .slice A T.length c, .slice B L.length e, .int .i64 N, .int .i64 S] 26)) := (Below.refl _ _).alloc (Nat.le_refl _) _
  have hk1 : Blk (w.alloc (.cells #[.int .i64 K, .slice A T.length c, .slice B L.length e, .int .i64 N, .int .i64 S] 26)) w.heap.size 26 #[.int .i64 K, .slice A T.length c, .slice B L.length e, .int .i64 N, .int .i64 S] := Blk.new _ _ _
  have hTx := Lib.hid (Has.alloc hT4 (Nat.le_refl _) (.cells #[.int .i64 K, .slice A T.length c, .slice B L.length e, .int .i64 N, .int .i64 S] 26))
  by_cases h4 : 2 ≤ K ∧ K ≤ 64 ∧ (T.length : Int) < K ∧ (L.length : Int) ≤ 20
  · obtain ⟨h41, h42, h43, h44⟩ := h4
    go_enter Try.func30, Try.ntmps30
    go_wp2_with fail
    refine (isSorted_any A _ c T rfl hTm _ (by exact hTx.out.more (by simp))).mono ?_
    rintro e' w2 ⟨rfl, n2, rfl⟩
    rcases hs : srt T with _ | _
    · have hf : ok0 K T L S = false := by unfold ok0; rw [hs]; simp
      go_wp2_with fail
      go_loopw [3, 4, 50] (fun nv ok i wr => ∃ (k : Nat) (z : Int), k ≤ L.length ∧ i = .int .i64 (k : Nat) ∧ nv = .int .i64 z ∧ ok = .bool false ∧ Below w.heap.size w wr ∧ Blk wr w.heap.size 26 #[.int .i64 K, .slice A T.length c, .slice B L.length e, .int .i64 N, .int .i64 S]) (fun _ _ i _ => L.length + 5 - (intOf i).toNat)
      case atStart => exact ⟨0, _, by omega, rfl, rfl, rfl, by first | exact hb1 | exact below_drewN hb1 _, by first | exact hk1 | exact hk1.drewN _⟩
      case round =>
        obtain ⟨k, z, hk, rfl, rfl, rfl, hbr, hkr⟩ := hrel
        have y0 : wr.cell? ⟨w.heap.size, 0, none⟩ = some (.int .i64 K) := hkr.cell 0
        have y2 : wr.cell? ⟨w.heap.size, 2, none⟩ = some (.slice B L.length e) := hkr.cell 2
        by_cases hlt : (k : Int) < (L.length : Int)
        · obtain ⟨u, hu, A3, c3, rfl, h31, h32, h33, h34, _⟩ := hL.get (show k < L.length by omega)
          obtain ⟨bd, rfl, _, cB⟩ := (hB.below hbr).at hu
          obtain ⟨R, hR⟩ : ∃ R, at_ L k = R := ⟨_, rfl⟩
          rw [hR] at cB h31 h34
          clear hR hu
          by_cases h0 : (0 : Int) < (R.length : Int)
          · go_wp2_with fail
            go_roundw
            case rel => exact ⟨k + 1, _, by omega, by go_num, rfl, rfl, hbr, hkr⟩
            case measure => simp [intOf]; omega
          · go_wp2_with fail
            go_roundw
            case rel => exact ⟨k + 1, _, by omega, by go_num, rfl, rfl, hbr, hkr⟩
            case measure => simp [intOf]; omega
        · go_wp2_with fail
          go_ret
          exact R1.mk (int_eq (chkK_false hf).symm) hbr
    · by_cases hS : 0 ≤ S ∧ S ≤ 1152921504606846976
      · have ht : ok0 K T L S = true := by unfold ok0; rw [hs]; simp; omega
        obtain ⟨hS1, hS2⟩ := hS
        go_wp2_with fail
        go_loopw [3, 4, 50] (fun nv ok i wr => ∃ (k : Nat), k ≤ L.length ∧ i = .int .i64 (k : Nat) ∧ nv = .int .i64 (rkN K L T.length k) ∧ ok = .bool (rkOk K L true k) ∧ Below w.heap.size w wr ∧ Blk wr w.heap.size 26 #[.int .i64 K, .slice A T.length c, .slice B L.length e, .int .i64 N, .int .i64 S]) (fun _ _ i _ => L.length + 5 - (intOf i).toNat)
        case atStart => exact ⟨0, by omega, rfl, rfl, rfl, by first | exact hb1 | exact below_drewN hb1 _, by first | exact hk1 | exact hk1.drewN _⟩
        case round =>
          obtain ⟨k, hk, rfl, rfl, rfl, hbr, hkr⟩ := hrel
          have y0 : wr.cell? ⟨w.heap.size, 0, none⟩ = some (.int .i64 K) := hkr.cell 0
          have y2 : wr.cell? ⟨w.heap.size, 2, none⟩ = some (.slice B L.length e) := hkr.cell 2
          have y3 : wr.cell? ⟨w.heap.size, 3, none⟩ = some (.int .i64 N) := hkr.cell 3
          by_cases hlt : (k : Int) < (L.length : Int)
          · obtain ⟨u, hu, A3, c3, rfl, h31, h32, h33, h34, _⟩ := hL.get (show k < L.length by omega)
            obtain ⟨bd, rfl, _, cB⟩ := (hB.below hbr).at hu
            obtain ⟨R, hR⟩ : ∃ R, at_ L k = R := ⟨_, rfl⟩
            have h35 : Has wr wr.heap.size A3 (i64s (at_ L k)) := h34.next hbr
            rw [hR] at cB h31 h34 h35
            have eN := rkN_succ K L T.length k
            have eO := rkOk_succ K L true k
            rw [hR] at eN eO
            obtain ⟨z, hz⟩ : ∃ z, rkN K L T.length k = z := ⟨_, rfl⟩
            obtain ⟨ok, hok⟩ : ∃ ok, rkOk K L true k = ok := ⟨_, rfl⟩
            rw [hz] at eN
            rw [hok] at eO
            rw [hz, hok]
            have HN := Lib.hid eN
            have HO := Lib.hid eO
            clear hR hu eN eO hz hok
            have e1 : IntKind.i64.wrap ((L.length : Int) - 1) = (L.length : Int) - 1 := IntWalk.i64_in _ (by omega)
            by_cases h0 : (0 : Int) < (R.length : Int)
            · have d0 : decide ((R.length : Int) = 0) = false := decide_eq_false (by omega)
              have d0' : decide (R.length = 0) = false := decide_eq_false (by omega)
              have hn0 : ¬ R.length = 0 := by omega
              rcases ok with _ | _
              · go_wp2_with fail
                go_roundw
                case rel => exact ⟨k + 1, by omega, by go_num, int_eq (by rw [HN.out, if_neg (by omega)]), bool_eq (by rw [HO.out]; rfl), hbr, hkr⟩
                case measure => simp [intOf]; omega
              · by_cases h1 : (R.length : Int) = K
                · have d1 : decide ((R.length : Int) = K) = true := decide_eq_true h1
                  have Hk1 := Lib.hid h1; clear h1
                  go_wp2_with fail
                  refine (isSorted_any A3 _ c3 R rfl (by omega) _ (by exact h35)).mono ?_
                  rintro e' w2 ⟨rfl, n2, rfl⟩
                  go_wp2_with fail
                  go_roundw
                  case rel => exact ⟨k + 1, by omega, by go_num, int_eq (by rw [HN.out, if_neg (by omega)]), bool_eq (by rw [HO.out, lvOk, d1]; simp), below_drewN hbr _, hkr.drewN _⟩
                  case measure => simp [intOf]; omega
                · have d1 : decide ((R.length : Int) = K) = false := decide_eq_false h1
                  go_wp2_with fail
                  go_roundw
                  case rel => exact ⟨k + 1, by omega, by go_num, int_eq (by rw [HN.out, if_neg (by omega)]), bool_eq (by rw [HO.out, lvOk, d1, d0']; rfl), hbr, hkr⟩
                  case measure => simp [intOf]; omega
            · obtain rfl : R = [] := List.eq_nil_of_length_eq_zero (by omega)
              have cB : wr.cell? (bd.add k) = some (.slice A3 0 c3) := cB
              have H35 := Lib.hid h35
              clear h0 h31 h34 h35
              have d1 : decide ((0 : Int) = K) = false := decide_eq_false (by omega)
              have d1' : decide ((([] : List Int).length : Int) = K) = false := d1
              have D1 := Lib.hid d1'
              clear d1'
              rcases ok with _ | _
              · go_wp2_with fail
                go_roundw
                case rel => exact ⟨k + 1, by omega, by go_num, int_eq (by rw [HN.out]; rfl), bool_eq (by rw [HO.out]; rfl), hbr, hkr⟩
                case measure => simp [intOf]; omega
              · by_cases h1 : (k : Int) < (L.length : Int) - 1
                · have d2 : decide ((k : Int) < (L.length : Int) - 1) = true := decide_eq_true h1
                  go_wp2_with fail
                  refine (isSorted_any A3 0 c3 [] rfl (by omega) _ (by exact H35.out)).mono ?_
                  rintro e' w2 ⟨rfl, n2, rfl⟩
                  go_wp2_with fail
                  go_roundw
                  case rel => exact ⟨k + 1, by omega, by go_num, int_eq (by rw [HN.out]; rfl), bool_eq (by rw [HO.out, lvOk, D1.out, d2]; rfl), below_drewN hbr _, hkr.drewN _⟩
                  case measure => simp [intOf]; omega
                · have d2 : decide ((k : Int) < (L.length : Int) - 1) = false := decide_eq_false h1
                  go_wp2_with fail
                  go_roundw
                  case rel => exact ⟨k + 1, by omega, by go_num, int_eq (by rw [HN.out]; rfl), bool_eq (by rw [HO.out, lvOk, D1.out, d2]; rfl), hbr, hkr⟩
                  case measure => simp [intOf]; omega
          · have hkl : k = L.length := by omega
            subst hkl
            obtain ⟨z, hz⟩ : ∃ z, rkN K L T.length L.length = z := ⟨_, rfl⟩
            obtain ⟨ok, hok⟩ : ∃ ok, rkOk K L true L.length = ok := ⟨_, rfl⟩
            have eC : chkK K T L N S = if ok = true ∧ z = N then 0 else 4 := by unfold chkK; rw [ht, hz, hok]
            rw [hz, hok]
            have HC := Lib.hid eC
            clear hz hok eC
            rcases ok with _ | _
            · go_wp2_with fail
              go_ret
              exact R1.mk (int_eq (by rw [HC.out]; simp)) hbr
            · by_cases hN : z = N
              · have dN : decide (z = N) = true := decide_eq_true hN
                go_wp2_with fail
                go_ret
                exact R1.mk (int_eq (by rw [HC.out]; simp [hN])) hbr
              · have dN : decide (z = N) = false := decide_eq_false hN
                go_wp2_with fail
                go_ret
                exact R1.mk (int_eq (by rw [HC.out]; simp [hN])) hbr
      · have hf : ok0 K T L S = false := by unfold ok0; rw [hs]; simp; omega
        by_cases hS0 : 0 ≤ S
        · have hd0 : decide (S ≤ 1152921504606846976) = false := decide_eq_false (fun h => hS ⟨hS0, h⟩)
          have hd1 : ¬ S ≤ 1152921504606846976 := fun h => hS ⟨hS0, h⟩
          go_wp2_with fail
          go_loopw [3, 4, 50] (fun nv ok i wr => ∃ (k : Nat) (z : Int), k ≤ L.length ∧ i = .int .i64 (k : Nat) ∧ nv = .int .i64 z ∧ ok = .bool false ∧ Below w.heap.size w wr ∧ Blk wr w.heap.size 26 #[.int .i64 K, .slice A T.length c, .slice B L.length e, .int .i64 N, .int .i64 S]) (fun _ _ i _ => L.length + 5 - (intOf i).toNat)
          case atStart => exact ⟨0, _, by omega, rfl, rfl, rfl, by first | exact hb1 | exact below_drewN hb1 _, by first | exact hk1 | exact hk1.drewN _⟩
          case round =>
            obtain ⟨k, z, hk, rfl, rfl, rfl, hbr, hkr⟩ := hrel
            have y0 : wr.cell? ⟨w.heap.size, 0, none⟩ = some (.int .i64 K) := hkr.cell 0
            have y2 : wr.cell? ⟨w.heap.size, 2, none⟩ = some (.slice B L.length e) := hkr.cell 2
            by_cases hlt : (k : Int) < (L.length : Int)
            · obtain ⟨u, hu, A3, c3, rfl, h31, h32, h33, h34, _⟩ := hL.get (show k < L.length by omega)
              obtain ⟨bd, rfl, _, cB⟩ := (hB.below hbr).at hu
              obtain ⟨R, hR⟩ : ∃ R, at_ L k = R := ⟨_, rfl⟩
              rw [hR] at cB h31 h34
              clear hR hu
              by_cases h0 : (0 : Int) < (R.length : Int)
              · go_wp2_with fail
                go_roundw
                case rel => exact ⟨k + 1, _, by omega, by go_num, rfl, rfl, hbr, hkr⟩
                case measure => simp [intOf]; omega
              · go_wp2_with fail
                go_roundw
                case rel => exact ⟨k + 1, _, by omega, by go_num, rfl, rfl, hbr, hkr⟩
                case measure => simp [intOf]; omega
            · go_wp2_with fail
              go_ret
              exact R1.mk (int_eq (chkK_false hf).symm) hbr
        · go_wp2_with fail
          go_loopw [3, 4, 50] (fun nv ok i wr => ∃ (k : Nat) (z : Int), k ≤ L.length ∧ i = .int .i64 (k : Nat) ∧ nv = .int .i64 z ∧ ok = .bool false ∧ Below w.heap.size w wr ∧ Blk wr w.heap.size 26 #[.int .i64 K, .slice A T.length c, .slice B L.length e, .int .i64 N, .int .i64 S]) (fun _ _ i _ => L.length + 5 - (intOf i).toNat)
          case atStart => exact ⟨0, _, by omega, rfl, rfl, rfl, by first | exact hb1 | exact below_drewN hb1 _, by first | exact hk1 | exact hk1.drewN _⟩
          case round =>
            obtain ⟨k, z, hk, rfl, rfl, rfl, hbr, hkr⟩ := hrel
            have y0 : wr.cell? ⟨w.heap.size, 0, none⟩ = some (.int .i64 K) := hkr.cell 0
            have y2 : wr.cell? ⟨w.heap.size, 2, none⟩ = some (.slice B L.length e) := hkr.cell 2
            by_cases hlt : (k : Int) < (L.length : Int)
            · obtain ⟨u, hu, A3, c3, rfl, h31, h32, h33, h34, _⟩ := hL.get (show k < L.length by omega)
              obtain ⟨bd, rfl, _, cB⟩ := (hB.below hbr).at hu
              obtain ⟨R, hR⟩ : ∃ R, at_ L k = R := ⟨_, rfl⟩
              rw [hR] at cB h31 h34
              clear hR hu
              by_cases h0 : (0 : Int) < (R.length : Int)
              · go_wp2_with fail
                go_roundw
                case rel => exact ⟨k + 1, _, by omega, by go_num, rfl, rfl, hbr, hkr⟩
                case measure => simp [intOf]; omega
              · go_wp2_with fail
                go_roundw
                case rel => exact ⟨k + 1, _, by omega, by go_num, rfl, rfl, hbr, hkr⟩
                case measure => simp [intOf]; omega
            · go_wp2_with fail
              go_ret
              exact R1.mk (int_eq (chkK_false hf).symm) hbr
  · have hf : ok0 K T L S = false := by rw [Bool.eq_false_iff]; intro h; exact h4 (ok0_facts h)
    go_enter Try.func30, Try.ntmps30
    go_wp2_with fail
    all_goals try (exfalso; omega)
    all_goals
      go_loopw [3, 4, 50] (fun nv ok i wr => ∃ (k : Nat) (z : Int), k ≤ L.length ∧ i = .int .i64 (k : Nat) ∧ nv = .int .i64 z ∧ ok = .bool false ∧ Below w.heap.size w wr ∧ Blk wr w.heap.size 26 #[.int .i64 K, .slice A T.length c, .slice B L.length e, .int .i64 N, .int .i64 S]) (fun _ _ i _ => L.length + 5 - (intOf i).toNat)
      case atStart => exact ⟨0, _, by omega, rfl, rfl, rfl, by first | exact hb1 | exact below_drewN hb1 _, by first | exact hk1 | exact hk1.drewN _⟩
      case round =>
        obtain ⟨k, z, hk, rfl, rfl, rfl, hbr, hkr⟩ := hrel
        have y0 : wr.cell? ⟨w.heap.size, 0, none⟩ = some (.int .i64 K) := hkr.cell 0
        have y2 : wr.cell? ⟨w.heap.size, 2, none⟩ = some (.slice B L.length e) := hkr.cell 2
        by_cases hlt : (k : Int) < (L.length : Int)
        · obtain ⟨u, hu, A3, c3, rfl, h31, h32, h33, h34, _⟩ := hL.get (show k < L.length by omega)
          obtain ⟨bd, rfl, _, cB⟩ := (hB.below hbr).at hu
          obtain ⟨R, hR⟩ : ∃ R, at_ L k = R := ⟨_, rfl⟩
          rw [hR] at cB h31 h34
          clear hR hu
          by_cases h0 : (0 : Int) < (R.length : Int)
          · go_wp2_with fail
            go_roundw
            case rel => exact ⟨k + 1, _, by omega, by go_num, rfl, rfl, hbr, hkr⟩
            case measure => simp [intOf]; omega
          · go_wp2_with fail
            go_roundw
            case rel => exact ⟨k + 1, _, by omega, by go_num, rfl, rfl, hbr, hkr⟩
            case measure => simp [intOf]; omega
        · go_wp2_with fail
          go_ret
          exact R1.mk (int_eq (chkK_false hf).symm) hbr
end Go.Proofs.Ythofijhjbaaokaa
