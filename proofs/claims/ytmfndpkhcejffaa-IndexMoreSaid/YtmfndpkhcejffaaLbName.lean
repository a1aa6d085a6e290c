/- What name of package label tells. No conditions beyond the string's own length. -/
import Derived.Test.YtmfndpkhcejffaaLbLaw
import Derived.Test.YtmfndpkhcejffaaStep
import Derived.Lib.ConvBytes
import Derived.Lib.SmallJoins
namespace Go.Proofs.Ytmfndpkhcejffaa
open Go.RowKit

theorem has_sb (w : World) (e : TypeId) (s : ByteArray) : Has (Lib.bytesWorld w e s) (Lib.bytesWorld w e s).heap.size (some ⟨w.heap.size, 0, none⟩) (u8s (sb s)) := fun _ => by
  refine ⟨_, rfl, by rw [Lib.bytesWorld_size]; exact Nat.lt_succ_self _, fun j u hu => ?_⟩
  have hadd : (⟨w.heap.size, 0, none⟩ : Addr).add j = ⟨w.heap.size, j, none⟩ := by unfold Addr.add; split <;> simp_all
  have hj : j < s.size := by
    have := (List.getElem?_eq_some_iff.1 hu).1
    rw [u8s_len, sb_len] at this
    exact this
  rw [hadd, Lib.bytesWorld_cell w e s j hj, ← hu]
  have hj' : j < s.data.toList.length := by rw [Array.length_toList]; exact hj
  show some (Value.int .u8 (((s.data.toList.getD j 0).toNat : Nat) : Int)) = ((s.data.toList.map (·.toNat)).map u8v)[j]?
  rw [List.getElem?_map, List.getElem?_map, List.getElem?_eq_getElem hj', List.getD, List.getElem?_eq_getElem hj']
  rfl
theorem below_sb {w : World} (e : TypeId) (s : ByteArray) : Below w.heap.size w (Lib.bytesWorld w e s) := Joins.below_bytesWorld w.heap.size w e s (Nat.le_refl _)
theorem emptyS_false {a : ByteArray} (h : a ≠ noS) : a.toList.isEmpty = false := by
  cases hl : a.toList with
  | nil => exact absurd (bytes_ext (by rw [hl, Lib.toList_data]; rfl)) h
  | cons x l => rfl

set_option maxRecDepth 1000000 in
set_option maxHeartbeats 4000000 in
theorem lname_any (s : ByteArray) (hs : s.size ≤ maxLen) (w : World) :
    Calls Try.prog 35 #[.string s] w (R1 (.bool (nameOk s)) (Below w.heap.size w)) := by
  unfold maxLen at hs
  by_cases h0 : s = noS
  · have E := Lib.hid (show nameOk s = false by unfold nameOk; rw [decide_eq_false (fun g => g h0)]; rfl)
    rw [E.out]
    have h0 : s = ⟨#[]⟩ := h0
    subst h0
    go_enter Try.func35, Try.ntmps35
    go_wp2_with fail
    go_ret
    exact R1.mk rfl (Below.refl _ _)
  · have e0 : s.toList.isEmpty = false := emptyS_false h0
    have hpos : 0 < s.size := by
      rcases Nat.eq_zero_or_pos s.size with g | g
      · exact absurd (bytes_ext (by rw [Lib.toList_data, Lib.toList_data]; show _ = []; exact List.length_eq_zero_iff.1 (by rw [Array.length_toList]; exact g))) h0
      · exact g
    have H0 := Lib.hid h0
    clear h0
    by_cases h20 : 20 < s.size
    · have E := Lib.hid (show nameOk s = false by unfold nameOk; rw [decide_eq_true H0.out, decide_eq_false (by omega)]; rfl)
      rw [E.out]
      go_enter Try.func35, Try.ntmps35
      go_wp2_with fail
      go_ret
      exact R1.mk rfl (Below.refl _ _)
    · have h20' : ¬ (20 : Int) < (s.size : Int) := by omega
      have hat := Lib.hid (sb_at s 0 hpos)
      by_cases hd : 48 ≤ s[0].toNat ∧ s[0].toNat ≤ 57
      · have E := Lib.hid (show nameOk s = false by
          unfold nameOk; rw [hat.out, decide_eq_true H0.out, decide_eq_true (show s.size ≤ 20 by omega), decide_eq_true hd.1, decide_eq_true hd.2]; rfl)
        rw [E.out]
        have d1 : (48 : Int) ≤ (s[0].toNat : Int) := by omega
        have d2 : (s[0].toNat : Int) ≤ 57 := by omega
        clear hd
        go_enter Try.func35, Try.ntmps35
        go_wp2_with fail
        go_ret
        exact R1.mk rfl (Below.refl _ _)
      · have E := Lib.hid (show nameOk s = (sb s).all chOk by
          unfold nameOk; rw [hat.out, decide_eq_true H0.out, decide_eq_true (show s.size ≤ 20 by omega)]
          have : (decide (48 ≤ s[0].toNat) && decide (s[0].toNat ≤ 57)) = false := by
            rw [Bool.and_eq_false_iff]
            by_cases g : 48 ≤ s[0].toNat
            · exact .inr (decide_eq_false (fun g2 => hd ⟨g, g2⟩))
            · exact .inl (decide_eq_false g)
          rw [this]; rfl)
        rw [E.out]
        have hcv := fun (w : World) (s : ByteArray) => Lib.run_convert_string_bytes (P := Try.prog) w 9 87 5 s Try.underlying9 Try.underlying87 Try.underlying5
        go_enter Try.func35, Try.ntmps35
        rcases Decidable.em (48 ≤ s[0].toNat) with g | g
        · have d1 : (48 : Int) ≤ (s[0].toNat : Int) := by omega
          have d2 : ¬ (s[0].toNat : Int) ≤ 57 := by omega
          clear hd g
          go_wp2_with fail
          obtain ⟨W1, hW1⟩ : ∃ W1, Lib.bytesWorld w 5 s = W1 := ⟨_, rfl⟩
          have hh := has_sb w 5 s
          have hb1 : Below w.heap.size w (Lib.bytesWorld w 5 s) := below_sb _ _
          rw [hW1] at hh hb1 ⊢
          have Hh := Lib.hid hh
          clear hW1 hh
          clear hat hcv
          try clear d2
          clear d1 h20'
          go_loopw [25] (fun iv wr => ∃ k : Nat, k ≤ s.size ∧ iv = .int .i64 (k : Nat) ∧ Hid (((sb s).take k).all chOk = true) ∧ wr = W1) (fun iv _ => s.size + 5 - (intOf iv).toNat)
          case atStart => exact ⟨0, by omega, rfl, Lib.hid (by simp), rfl⟩
          case round =>
            obtain ⟨k, hk, rfl, hq, rfl⟩ := hrel
            by_cases hlt : (k : Int) < (s.size : Int)
            · have hkl : k < (sb s).length := by rw [sb_len]; omega
              obtain ⟨ad, e1, _, c0⟩ := Hh.out.at (u8s_at hkl)
              injection e1 with e1
              subst e1
              rw [show (⟨w.heap.size, 0, none⟩ : Addr).add k = ⟨w.heap.size, k, none⟩ from by unfold Addr.add; split <;> simp_all] at c0
              obtain ⟨y, hy⟩ : ∃ y, at_ (sb s) k = y := ⟨_, rfl⟩
              have htake := take_at (l := sb s) (k := k) hkl
              have hyl : y < 256 := by rw [← hy]; exact sb_lt s _ (at_mem hkl)
              have hmem : y ∈ sb s := by rw [← hy]; exact at_mem hkl
              rw [hy] at c0 htake
              have Ht := Lib.hid htake
              have Hmem := Lib.hid hmem
              have h0k : (0 : Int) ≤ (k : Int) := by omega
              clear hy htake hmem hkl
              have good : chOk y = true → Hid (((sb s).take (k + 1)).all chOk = true) := fun h => Lib.hid (by rw [Ht.out, List.all_append, hq.out, List.all_cons, h]; rfl)
              have bad : chOk y = false → Hid (((sb s).all chOk) = false) := fun h => Lib.hid (by rw [List.all_eq_false]; exact ⟨y, Hmem.out, by rw [h]; decide⟩)
              by_cases a1 : (y : Int) < 97
              · by_cases a2 : (y : Int) < 48
                · have E := bad (by unfold chOk; simp; omega)
                  have a4 : ((y : Int) != 95) = true := by rw [bne_iff_ne]; omega
                  clear good bad
                  go_wp2_with fail
                  go_ret
                  rw [E.out]
                  exact R1.mk rfl hb1
                · by_cases a3 : (57 : Int) < (y : Int)
                  · by_cases a4 : y = 95
                    · have E := good (by unfold chOk; simp; omega)
                      have a5 : ((y : Int) != 95) = false := by rw [bne_eq_false_iff_eq]; omega
                      clear good bad a4
                      go_wp2_with fail
                      go_roundw
                      case rel => exact ⟨k + 1, by omega, by go_num, E, (by first | rfl | trivial)⟩
                      case measure => simp [intOf]; omega
                    · have E := bad (by unfold chOk; simp; omega)
                      have a5 : ((y : Int) != 95) = true := by rw [bne_iff_ne]; omega
                      clear good bad
                      go_wp2_with fail
                      go_ret
                      rw [E.out]
                      exact R1.mk rfl hb1
                  · have E := good (by unfold chOk; simp; omega)
                    clear good bad
                    go_wp2_with fail
                    go_roundw
                    case rel => exact ⟨k + 1, by omega, by go_num, E, (by first | rfl | trivial)⟩
                    case measure => simp [intOf]; omega
              · by_cases b1 : (122 : Int) < (y : Int)
                · have E := bad (by unfold chOk; simp; omega)
                  have a4 : ((y : Int) != 95) = true := by rw [bne_iff_ne]; omega
                  have a2 : ¬ (y : Int) < 48 := by omega
                  have a3 : (57 : Int) < (y : Int) := by omega
                  clear good bad
                  go_wp2_with fail
                  go_ret
                  rw [E.out]
                  exact R1.mk rfl hb1
                · have E := good (by unfold chOk; simp; omega)
                  clear good bad
                  go_wp2_with fail
                  go_roundw
                  case rel => exact ⟨k + 1, by omega, by go_num, E, (by first | rfl | trivial)⟩
                  case measure => simp [intOf]; omega
            · have hkn : k = s.size := by omega
              have E := Lib.hid (show (sb s).all chOk = true by
                have h := hq.out
                rw [List.take_of_length_le (by rw [sb_len]; omega)] at h
                exact h)
              clear hkn
              go_wp2_with fail
              go_ret
              rw [E.out]
              exact R1.mk rfl hb1
        · have d1 : ¬ (48 : Int) ≤ (s[0].toNat : Int) := by omega
          clear hd g
          go_wp2_with fail
          obtain ⟨W1, hW1⟩ : ∃ W1, Lib.bytesWorld w 5 s = W1 := ⟨_, rfl⟩
          have hh := has_sb w 5 s
          have hb1 : Below w.heap.size w (Lib.bytesWorld w 5 s) := below_sb _ _
          rw [hW1] at hh hb1 ⊢
          have Hh := Lib.hid hh
          clear hW1 hh
          clear hat hcv
          try clear d2
          clear d1 h20'
          go_loopw [25] (fun iv wr => ∃ k : Nat, k ≤ s.size ∧ iv = .int .i64 (k : Nat) ∧ Hid (((sb s).take k).all chOk = true) ∧ wr = W1) (fun iv _ => s.size + 5 - (intOf iv).toNat)
          case atStart => exact ⟨0, by omega, rfl, Lib.hid (by simp), rfl⟩
          case round =>
            obtain ⟨k, hk, rfl, hq, rfl⟩ := hrel
            by_cases hlt : (k : Int) < (s.size : Int)
            · have hkl : k < (sb s).length := by rw [sb_len]; omega
              obtain ⟨ad, e1, _, c0⟩ := Hh.out.at (u8s_at hkl)
              injection e1 with e1
              subst e1
              rw [show (⟨w.heap.size, 0, none⟩ : Addr).add k = ⟨w.heap.size, k, none⟩ from by unfold Addr.add; split <;> simp_all] at c0
              obtain ⟨y, hy⟩ : ∃ y, at_ (sb s) k = y := ⟨_, rfl⟩
              have htake := take_at (l := sb s) (k := k) hkl
              have hyl : y < 256 := by rw [← hy]; exact sb_lt s _ (at_mem hkl)
              have hmem : y ∈ sb s := by rw [← hy]; exact at_mem hkl
              rw [hy] at c0 htake
              have Ht := Lib.hid htake
              have Hmem := Lib.hid hmem
              have h0k : (0 : Int) ≤ (k : Int) := by omega
              clear hy htake hmem hkl
              have good : chOk y = true → Hid (((sb s).take (k + 1)).all chOk = true) := fun h => Lib.hid (by rw [Ht.out, List.all_append, hq.out, List.all_cons, h]; rfl)
              have bad : chOk y = false → Hid (((sb s).all chOk) = false) := fun h => Lib.hid (by rw [List.all_eq_false]; exact ⟨y, Hmem.out, by rw [h]; decide⟩)
              by_cases a1 : (y : Int) < 97
              · by_cases a2 : (y : Int) < 48
                · have E := bad (by unfold chOk; simp; omega)
                  have a4 : ((y : Int) != 95) = true := by rw [bne_iff_ne]; omega
                  clear good bad
                  go_wp2_with fail
                  go_ret
                  rw [E.out]
                  exact R1.mk rfl hb1
                · by_cases a3 : (57 : Int) < (y : Int)
                  · by_cases a4 : y = 95
                    · have E := good (by unfold chOk; simp; omega)
                      have a5 : ((y : Int) != 95) = false := by rw [bne_eq_false_iff_eq]; omega
                      clear good bad a4
                      go_wp2_with fail
                      go_roundw
                      case rel => exact ⟨k + 1, by omega, by go_num, E, (by first | rfl | trivial)⟩
                      case measure => simp [intOf]; omega
                    · have E := bad (by unfold chOk; simp; omega)
                      have a5 : ((y : Int) != 95) = true := by rw [bne_iff_ne]; omega
                      clear good bad
                      go_wp2_with fail
                      go_ret
                      rw [E.out]
                      exact R1.mk rfl hb1
                  · have E := good (by unfold chOk; simp; omega)
                    clear good bad
                    go_wp2_with fail
                    go_roundw
                    case rel => exact ⟨k + 1, by omega, by go_num, E, (by first | rfl | trivial)⟩
                    case measure => simp [intOf]; omega
              · by_cases b1 : (122 : Int) < (y : Int)
                · have E := bad (by unfold chOk; simp; omega)
                  have a4 : ((y : Int) != 95) = true := by rw [bne_iff_ne]; omega
                  have a2 : ¬ (y : Int) < 48 := by omega
                  have a3 : (57 : Int) < (y : Int) := by omega
                  clear good bad
                  go_wp2_with fail
                  go_ret
                  rw [E.out]
                  exact R1.mk rfl hb1
                · have E := good (by unfold chOk; simp; omega)
                  clear good bad
                  go_wp2_with fail
                  go_roundw
                  case rel => exact ⟨k + 1, by omega, by go_num, E, (by first | rfl | trivial)⟩
                  case measure => simp [intOf]; omega
            · have hkn : k = s.size := by omega
              have E := Lib.hid (show (sb s).all chOk = true by
                have h := hq.out
                rw [List.take_of_length_le (by rw [sb_len]; omega)] at h
                exact h)
              clear hkn
              go_wp2_with fail
              go_ret
              rw [E.out]
              exact R1.mk rfl hb1
end Go.Proofs.Ytmfndpkhcejffaa
