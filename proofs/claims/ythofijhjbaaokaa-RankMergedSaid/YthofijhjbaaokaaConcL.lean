/- slices.Concat of no more than twenty rows of no more than 64 int64 each. Conditions: rows lie in their cells. -/
import Derived.Test.YthofijhjbaaokaaConcI
import Derived.Test.YthofijhjbaaokaaRowsI
namespace Go.Proofs.Ythofijhjbaaokaa
open Go.RowKit

def preL (L : List (List Int)) (k : Nat) : List Int := (L.take k).flatten
theorem preL_zero (L : List (List Int)) : preL L 0 = [] := by simp [preL]
theorem preL_all (L : List (List Int)) : preL L L.length = L.flatten := by simp [preL]
theorem preL_succ {L : List (List Int)} {k : Nat} (h : k < L.length) : preL L (k + 1) = preL L k ++ at_ L k := by
  unfold preL; rw [take_at h]; simp
theorem preL_le {L : List (List Int)} (hl : ∀ k, k < L.length → (at_ L k).length ≤ 64) : ∀ {k : Nat}, k ≤ L.length → (preL L k).length ≤ 64 * k
  | 0, _ => by simp [preL]
  | k + 1, h => by
    have h1 := preL_le hl (k := k) (by omega)
    have h2 := hl k (by omega)
    rw [preL_succ (by omega), List.length_append]
    omega

set_option maxRecDepth 1000000 in
set_option maxHeartbeats 8000000 in
theorem concatL_any (B : Option Addr) (e : Nat) (L : List (List Int)) (vs : List Value) (hLe : L.length ≤ e) (hem : e ≤ maxLen) (hn : L.length ≤ 20) (hl : ∀ k, k < L.length → (at_ L k).length ≤ 64) (w : World)
    (hB : Has w w.heap.size B vs) (hL : IntsAt w vs L) :
    Calls Try.prog 13 #[.slice B L.length e] w (RV fun v w' => ∃ A' c'', v = .slice A' L.flatten.length c'' ∧ w'.ownsRow w.heap.size 2 1 (.slice A' L.flatten.length c'') L.flatten.length (i64s L.flatten) ∧ Below w.heap.size w w') := by
  have hP := Lib.hid (fun k (hk : k ≤ L.length) => preL_le hl (k := k) hk)
  have hA1 := preL_all L
  obtain ⟨F, hF⟩ : ∃ F, L.flatten = F := ⟨_, rfl⟩
  rw [hF] at hA1
  rw [hF]
  clear hF
  have hA := Lib.hid hA1
  clear hA1
  have hS := Lib.hid (fun k (hk : k < L.length) => preL_succ (L := L) hk)
  have HL := Lib.hid hl
  clear hl
  go_enter Try.func13, Try.ntmps13
  go_wp2_with fail
  go_loopw [3, 11] (fun s i wr => ∃ k p : Nat, k ≤ L.length ∧ i = .int .i64 (k : Nat) ∧ s = .int .i64 (p : Nat) ∧ Hid (p = (preL L k).length) ∧ wr = w) (fun _ i _ => L.length - (intOf i).toNat)
  case atStart => exact ⟨0, 0, by omega, rfl, rfl, Lib.hid (by rw [preL_zero]; rfl), rfl⟩
  case round =>
    obtain ⟨k, p, hk, rfl, rfl, hp, rfl⟩ := hrel
    have hp64 : p ≤ 1280 := by have := hP.out k hk; rw [hp.out]; omega
    by_cases hlt : (k : Int) < (L.length : Int)
    · obtain ⟨u, hu, A3, c3, rfl, h31, h32, h33, h34, _⟩ := hL.get (show k < L.length by omega)
      obtain ⟨bd, rfl, _, cB⟩ := hB.at hu
      have hm64 := HL.out k (by omega)
      have hs1 := hS.out k (by omega)
      obtain ⟨m, hm⟩ : ∃ m, (at_ L k).length = m := ⟨_, rfl⟩
      rw [hm] at cB h31 hm64
      have e1 : IntKind.i64.wrap ((p : Int) + (m : Int)) = ((p + m : Nat) : Int) := (IntWalk.i64_in _ (by omega)).trans (by omega)
      have hq : Hid (p + m = (preL L (k + 1)).length) := Lib.hid (by rw [hs1, List.length_append, hm, hp.out])
      obtain ⟨q, hq2⟩ : ∃ q, p + m = q := ⟨_, rfl⟩
      rw [hq2] at e1 hq
      clear hm hs1 hu h33 h34
      go_wp2_with fail
      go_roundw
      case rel => exact ⟨k + 1, q, by omega, by go_num, rfl, hq, by trivial⟩
      case measure => simp [intOf]; omega
    · have hkl : k = L.length := by omega
      subst hkl
      have hpt : p = F.length := by rw [hp.out, hA.out]
      subst hpt
      clear hp
      obtain ⟨t, ht⟩ : ∃ t, F.length = t := ⟨_, rfl⟩
      have HT := Lib.hid ht
      rw [ht] at hp64
      rw [ht]
      clear ht
      obtain ⟨W0, rfl⟩ : ∃ W0, W0 = wr := ⟨_, rfl⟩
      go_wp2_with fail
      refine (growI_any t (by omega) _).mono ?_
      rintro e w2 ⟨v, rfl, A3, c3, rfl, hown3, htc3, hb2⟩
      have hown3 := Lib.hid hown3
      go_wp2_with fail
      go_loopw [6, 8, 27] (fun o _ i wq => ∃ (k p : Nat) (A4 : Option Addr) (c4 : Nat), k ≤ L.length ∧ i = .int .i64 (k : Nat) ∧ o = .slice A4 p c4 ∧ Hid (p = (preL L k).length) ∧ Hid (wq.ownsRow W0.heap.size 2 1 (.slice A4 p c4) p (i64s (preL L k))) ∧ Below W0.heap.size W0 wq) (fun _ _ i _ => L.length - (intOf i).toNat)
      case atStart => exact ⟨0, 0, A3, c3, by omega, rfl, rfl, Lib.hid (by rw [preL_zero]; rfl), Lib.hid (by rw [preL_zero]; exact hown3.out), hb2⟩
      case round =>
        obtain ⟨wq, rfl⟩ : ∃ wq, wq = wr := ⟨_, rfl⟩
        obtain ⟨k, p, A4, c4, hk, rfl, rfl, hp, hown, hbr⟩ := hrel
        have hp64 : p ≤ 1280 := by have := hP.out k hk; rw [hp.out]; omega
        by_cases hlt : (k : Int) < (L.length : Int)
        · obtain ⟨u, hu, A5, c5, rfl, h31, h32, h33, h34, _⟩ := hL.get (show k < L.length by omega)
          obtain ⟨bd, rfl, _, cB⟩ := (hB.below hbr).at hu
          have hm64 := HL.out k (by omega)
          have hs1 := hS.out k (by omega)
          have h35 := Lib.hid (h34.next hbr)
          obtain ⟨m, hm⟩ : ∃ m, (at_ L k).length = m := ⟨_, rfl⟩
          have HM := Lib.hid hm
          rw [hm] at cB h31 hm64
          have hsz := Lib.hid hbr.size
          have HS1 := Lib.hid hs1
          clear hm hs1 hu h33 h34
          go_wp2_with (at_builtin; refine wpList_spread rfl _ _ _ rfl elI64 rfl hown.out rfl (by exact h35.out) ?_ ?c1 ?c2 ?c3 ?c4 ?c5; intro A6 c6 w5 hown5 hgrow5 hbel5)
          case c1 => rw [i64sC_len, HM.out, Nat.mul_one]
          case c2 => exact i64sC_one _
          case c3 => omega
          case c4 => unfold maxLen; omega
          case c5 => exact hsz.out
          have HO := Lib.hid hown5
          have HB := Lib.hid hbel5
          clear hown5 hbel5 hgrow5
          go_wp2_with fail
          go_roundw
          case rel => exact ⟨k + 1, p + m, A6, c6, by omega, by go_num, rfl, Lib.hid (by rw [HS1.out, List.length_append, HM.out, hp.out]), Lib.hid (by rw [HS1.out, i64sC_app]; exact HO.out), hbr.trans HB.out⟩
          case measure => simp [intOf]; omega
        · have hkl : k = L.length := by omega
          subst hkl
          have hpt : p = t := by rw [hp.out, hA.out, HT.out]
          subst hpt
          have HO := Lib.hid (show wq.ownsRow W0.heap.size 2 1 (.slice A4 p c4) p (i64s F) from by rw [← hA.out]; exact hown.out)
          clear hown
          go_wp2_with fail
          go_ret
          exact RV.mk (by rw [HT.out]; exact ⟨A4, c4, rfl, HO.out, hbr⟩)
end Go.Proofs.Ythofijhjbaaokaa
