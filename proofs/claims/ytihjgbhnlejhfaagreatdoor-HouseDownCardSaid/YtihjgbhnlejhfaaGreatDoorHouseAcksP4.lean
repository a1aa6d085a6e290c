/- Texts of the proof of HouseAcks, joined (by merge.py). Conditions: each theorem's own hypotheses. -/
import Derived.Test.YtihjgbhnlejhfaaGreatDoorHouseAcksP3
import Derived.Lib.AppendZeros
import Derived.OwnWalk
namespace Go.Proofs.YtihjgbhnlejhfaaGreatDoor
open Go.RowKit

theorem infoU8b : (Tryz.prog.info? 5).map (fun i => (i.zero, i.size, i.bytes)) = some (some (.int .u8 0), 1, 1) := by kernel_rfl
theorem u8sC_len (l : List Nat) : (u8s l).length = l.length * 1 := by rw [u8s_len, Nat.mul_one]
theorem u8sC_app (l m : List Nat) : u8s (l ++ m) = u8s l ++ u8s m := by simp [u8s]
theorem zeros_sizeB (v : Value) (n : Nat) : (Builtin.zeroCells #[v] n).size = n := by simp [Builtin.zeroCells]

set_option maxRecDepth 1000000 in
set_option maxHeartbeats 4000000 in
theorem growB_any (n : Nat) (hn : n ≤ 17592186044416) (w : World) :
    Calls Tryz.prog 94 #[.slice none 0 0, .int .i64 n] w (RV fun v w' => ∃ A c, v = .slice A 0 c ∧ w'.ownsRow w.heap.size 5 1 (.slice A 0 c) 0 [] ∧ n ≤ c ∧ Below w.heap.size w w') := by
  rcases Nat.eq_zero_or_pos n with rfl | hp
  · go_enter Tryz.func94, Tryz.ntmps94
    go_wp2_with fail
    go_ret
    exact RV.mk ⟨none, 0, rfl, ⟨rfl, .inl ⟨rfl, rfl⟩⟩, Nat.le_refl _, Below.refl _ _⟩
  · have e0 : IntKind.i64.wrap (n : Int) = (n : Int) := IntWalk.i64_in _ (by omega)
    have h1 : ¬ (n : Int) < 0 := by omega
    have h2 : (0 : Int) < (n : Int) := by omega
    obtain ⟨i0, i1, i2, i3, i4⟩ := info_parts infoU8b
    have hrun := fun ty => Lib.run_append_nil_zeros (P := Tryz.prog) w 76 3 ty 5 i0 (.int .u8 0) .i64 .i64 Tryz.underlying76 Tryz.underlying3 i1 i2 n hp (by omega) (by omega) (by rw [i4]; omega)
    have hge := grownCap_ge w n 0 5
    have hle := grownCap_le_maxLen w n 0 5 (by unfold maxLen; omega)
    obtain ⟨cp, hcp⟩ : ∃ cp, grownCap w n 0 5 = cp := ⟨_, rfl⟩
    rw [hcp] at hge hle
    obtain ⟨cs, hcs⟩ : ∃ cs, Builtin.zeroCells (Value.int .u8 0).cells n ++ Builtin.zeroCells (Value.int .u8 0).cells (cp - n) = cs := ⟨_, rfl⟩
    have hsz : cs.size = cp * 1 := by
      rw [← hcs]
      show (Builtin.zeroCells #[Value.int .u8 0] n ++ Builtin.zeroCells #[Value.int .u8 0] (cp - n)).size = _
      rw [Array.size_append, zeros_sizeB, zeros_sizeB]; omega
    simp only [hcp, hcs] at hrun
    have HR := Lib.hid hrun
    clear hcp hcs hrun
    go_enter Tryz.func94, Tryz.ntmps94
    go_wp2_with (at_builtin; refine Lib.wpList_append_run _ rfl _ _ _ _ rfl _ _ rfl rfl _ _ (HR.out _) ?_)
    go_ret
    refine RV.mk ⟨some ⟨w.heap.size, 0, none⟩, cp, rfl, ⟨rfl, .inr ⟨w.heap.size, cp, cs, rfl, Nat.le_refl _, heap_alloc_new w.drew _, Nat.zero_le _, hle, hsz, ?_⟩⟩, hge, ?_⟩
    · simp
    · exact (below_drewN (Below.refl w.heap.size w) 1).alloc (Nat.le_refl _) _

def preB (L : List (List Nat)) (k : Nat) : List Nat := (L.take k).flatten
theorem preB_zero (L : List (List Nat)) : preB L 0 = [] := by simp [preB]
theorem preB_all (L : List (List Nat)) : preB L L.length = L.flatten := by simp [preB]
theorem preB_succ {L : List (List Nat)} {k : Nat} (h : k < L.length) : preB L (k + 1) = preB L k ++ at_ L k := by
  unfold preB; rw [take_at h]; simp
theorem preB_le {L : List (List Nat)} (hl : ∀ k, k < L.length → (at_ L k).length ≤ 2000) : ∀ {k : Nat}, k ≤ L.length → (preB L k).length ≤ 2000 * k
  | 0, _ => by simp [preB]
  | k + 1, h => by
    have h1 := preB_le hl (k := k) (by omega)
    have h2 := hl k (by omega)
    rw [preB_succ (by omega), List.length_append]
    omega

set_option maxRecDepth 1000000 in
set_option maxHeartbeats 8000000 in
theorem concatB_any (B : Option Addr) (e : Nat) (L : List (List Nat)) (vs : List Value) (_hLe : L.length ≤ e) (_hem : e ≤ maxLen) (hn : L.length ≤ 20) (hl : ∀ k, k < L.length → (at_ L k).length ≤ 2000) (w : World)
    (hB : Has w w.heap.size B vs) (hL : RecsAt w vs L) :
    Calls Tryz.prog 66 #[.slice B L.length e] w (RV fun v w' => ∃ A' c'', v = .slice A' L.flatten.length c'' ∧ w'.ownsRow w.heap.size 5 1 (.slice A' L.flatten.length c'') L.flatten.length (u8s L.flatten) ∧ Below w.heap.size w w') := by
  have hP := Lib.hid (fun k (hk : k ≤ L.length) => preB_le hl (k := k) hk)
  have hA1 := preB_all L
  obtain ⟨F, hF⟩ : ∃ F, L.flatten = F := ⟨_, rfl⟩
  rw [hF] at hA1
  rw [hF]
  clear hF
  have hA := Lib.hid hA1
  clear hA1
  have hS := Lib.hid (fun k (hk : k < L.length) => preB_succ (L := L) hk)
  have HL := Lib.hid hl
  clear hl
  go_enter Tryz.func66, Tryz.ntmps66
  go_wp2_with fail
  go_loopw [3, 11] (fun s i wr => ∃ k p : Nat, k ≤ L.length ∧ i = .int .i64 (k : Nat) ∧ s = .int .i64 (p : Nat) ∧ Hid (p = (preB L k).length) ∧ wr = w) (fun _ i _ => L.length - (intOf i).toNat)
  case atStart => exact ⟨0, 0, by omega, rfl, rfl, Lib.hid (by rw [preB_zero]; rfl), rfl⟩
  case round =>
    obtain ⟨k, p, hk, rfl, rfl, hp, rfl⟩ := hrel
    have hp64 : p ≤ 40000 := by have := hP.out k hk; rw [hp.out]; omega
    by_cases hlt : (k : Int) < (L.length : Int)
    · obtain ⟨u, hu, A3, c3, rfl, h31, h32, h33, h34⟩ := hL.get (show k < L.length by omega)
      obtain ⟨bd, rfl, _, cB⟩ := hB.at hu
      have hm64 := HL.out k (by omega)
      have hs1 := hS.out k (by omega)
      obtain ⟨m, hm⟩ : ∃ m, (at_ L k).length = m := ⟨_, rfl⟩
      rw [hm] at cB h31 hm64
      have e1 : IntKind.i64.wrap ((p : Int) + (m : Int)) = ((p + m : Nat) : Int) := (IntWalk.i64_in _ (by omega)).trans (by omega)
      have hq : Hid (p + m = (preB L (k + 1)).length) := Lib.hid (by rw [hs1, List.length_append, hm, hp.out])
      obtain ⟨q, hq2⟩ : ∃ q, p + m = q := ⟨_, rfl⟩
      rw [hq2] at e1 hq
      clear hm hs1 hu h33 h34
      go_wp2_with fail
      go_roundw
      case rel => exact ⟨k + 1, q, by omega, by go_num, rfl, hq, by trivial⟩
      case measure => simp [intOf]; omega
    · have hkl : k = L.length := by omega
      subst hkl
      have hpt : p = F.length := by rw [hp.out, hA.out]
      subst hpt
      clear hp
      obtain ⟨t, ht⟩ : ∃ t, F.length = t := ⟨_, rfl⟩
      have HT := Lib.hid ht
      rw [ht] at hp64
      rw [ht]
      clear ht
      obtain ⟨W0, rfl⟩ : ∃ W0, W0 = wr := ⟨_, rfl⟩
      go_wp2_with fail
      refine (growB_any t (by omega) _).mono ?_
      rintro e w2 ⟨v, rfl, A3, c3, rfl, hown3, htc3, hb2⟩
      have hown3 := Lib.hid hown3
      go_wp2_with fail
      go_loopw [6, 8, 27] (fun o _ i wq => ∃ (k p : Nat) (A4 : Option Addr) (c4 : Nat), k ≤ L.length ∧ i = .int .i64 (k : Nat) ∧ o = .slice A4 p c4 ∧ Hid (p = (preB L k).length) ∧ Hid (wq.ownsRow W0.heap.size 5 1 (.slice A4 p c4) p (u8s (preB L k))) ∧ Below W0.heap.size W0 wq) (fun _ _ i _ => L.length - (intOf i).toNat)
      case atStart => exact ⟨0, 0, A3, c3, by omega, rfl, rfl, Lib.hid (by rw [preB_zero]; rfl), Lib.hid (by rw [preB_zero]; exact hown3.out), hb2⟩
      case round =>
        obtain ⟨wq, rfl⟩ : ∃ wq, wq = wr := ⟨_, rfl⟩
        obtain ⟨k, p, A4, c4, hk, rfl, rfl, hp, hown, hbr⟩ := hrel
        have hp64 : p ≤ 40000 := by have := hP.out k hk; rw [hp.out]; omega
        by_cases hlt : (k : Int) < (L.length : Int)
        · obtain ⟨u, hu, A5, c5, rfl, h31, h32, h33, h34⟩ := hL.get (show k < L.length by omega)
          obtain ⟨bd, rfl, _, cB⟩ := (hB.below hbr).at hu
          have hm64 := HL.out k (by omega)
          have hs1 := hS.out k (by omega)
          have h35 := Lib.hid (h34.next hbr)
          obtain ⟨m, hm⟩ : ∃ m, (at_ L k).length = m := ⟨_, rfl⟩
          have HM := Lib.hid hm
          rw [hm] at cB h31 hm64
          have hsz := Lib.hid hbr.size
          have HS1 := Lib.hid hs1
          clear hm hs1 hu h33 h34
          go_wp2_with (at_builtin; refine wpList_spread rfl _ _ _ rfl elU8 rfl hown.out rfl (by exact h35.out) ?_ ?c1 ?c2 ?c3 ?c4 ?c5; intro A6 c6 w5 hown5 hgrow5 hbel5)
          case c1 => rw [u8sC_len, HM.out, Nat.mul_one]
          case c2 => exact u8s_one _
          case c3 => omega
          case c4 => unfold maxLen; omega
          case c5 => exact hsz.out
          have HO := Lib.hid hown5
          have HB := Lib.hid hbel5
          clear hown5 hbel5 hgrow5
          go_wp2_with fail
          go_roundw
          case rel => exact ⟨k + 1, p + m, A6, c6, by omega, by go_num, rfl, Lib.hid (by rw [HS1.out, List.length_append, HM.out, hp.out]), Lib.hid (by rw [HS1.out, u8sC_app]; exact HO.out), hbr.trans HB.out⟩
          case measure => simp [intOf]; omega
        · have hkl : k = L.length := by omega
          subst hkl
          have hpt : p = t := by rw [hp.out, hA.out, HT.out]
          subst hpt
          have HO := Lib.hid (show wq.ownsRow W0.heap.size 5 1 (.slice A4 p c4) p (u8s F) from by rw [← hA.out]; exact hown.out)
          clear hown
          go_wp2_with fail
          go_ret
          exact RV.mk (by rw [HT.out]; exact ⟨A4, c4, rfl, HO.out, hbr⟩)
end Go.Proofs.YtihjgbhnlejhfaaGreatDoor
