/- Texts of the proof of HouseAcks, joined (by merge.py). Conditions: each theorem's own hypotheses. -/
import Derived.Test.YtihjgbhnlejhfaaGreatDoorHouseAcksP3
import Derived.Test.YtihjgbhnlejhfaaGreatDoorHouseAcksP7
import Derived.Test.YtihjgbhnlejhfaaGreatDoorHouseAcksP14
import Derived.Test.YtihjgbhnlejhfaaGreatDoorHouseAcksP15
import Derived.Lib.ConvBytes
import Derived.Lib.SmallJoins
import Derived.Laws.BytesArg
namespace Go.Proofs.YtihjgbhnlejhfaaGreatDoor
open Go.RowKit

theorem has_sb (w : World) (e : TypeId) (s : ByteArray) : Has (Lib.bytesWorld w e s) (Lib.bytesWorld w e s).heap.size (some ⟨w.heap.size, 0, none⟩) (u8s (sb s)) := fun _ => by
  refine ⟨_, rfl, by rw [Lib.bytesWorld_size]; exact Nat.lt_succ_self _, fun j u hu => ?_⟩
  have hadd : (⟨w.heap.size, 0, none⟩ : Addr).add j = ⟨w.heap.size, j, none⟩ := by unfold Addr.add; split <;> simp_all
  have hj : j < s.size := by
    have := (List.getElem?_eq_some_iff.1 hu).1
    rw [u8s_len, sb_len] at this
    exact this
  rw [hadd, Lib.bytesWorld_cell w e s j hj, ← hu]
  have hj' : j < s.data.toList.length := by rw [Array.length_toList]; exact hj
  show some (Value.int .u8 (((s.data.toList.getD j 0).toNat : Nat) : Int)) = ((s.data.toList.map (·.toNat)).map u8v)[j]?
  rw [List.getElem?_map, List.getElem?_map, List.getElem?_eq_getElem hj', List.getD, List.getElem?_eq_getElem hj']
  rfl
theorem below_sb {w : World} (e : TypeId) (s : ByteArray) : Below w.heap.size w (Lib.bytesWorld w e s) := Joins.below_bytesWorld w.heap.size w e s (Nat.le_refl _)
theorem emptyS_false {a : ByteArray} (h : a ≠ noS) : a.toList.isEmpty = false := by
  cases hl : a.toList with
  | nil => exact absurd (bytes_ext (by rw [hl, Lib.toList_data]; rfl)) h
  | cons x l => rfl

set_option maxRecDepth 1000000 in
set_option maxHeartbeats 4000000 in
theorem lname_any (s : ByteArray) (hs : s.size ≤ maxLen) (w : World) :
    Calls Tryz.prog 95 #[.string s] w (R1 (.bool (nameOk s)) (Below w.heap.size w)) := by
  unfold maxLen at hs
  by_cases h0 : s = noS
  · have E := Lib.hid (show nameOk s = false by unfold nameOk; rw [decide_eq_false (fun g => g h0)]; rfl)
    rw [E.out]
    have h0 : s = ⟨#[]⟩ := h0
    subst h0
    go_enter Tryz.func95, Tryz.ntmps95
    go_wp2_with fail
    go_ret
    exact R1.mk rfl (Below.refl _ _)
  · have e0 : s.toList.isEmpty = false := emptyS_false h0
    have hpos : 0 < s.size := by
      rcases Nat.eq_zero_or_pos s.size with g | g
      · exact absurd (bytes_ext (by rw [Lib.toList_data, Lib.toList_data]; show _ = []; exact List.length_eq_zero_iff.1 (by rw [Array.length_toList]; exact g))) h0
      · exact g
    have H0 := Lib.hid h0
    clear h0
    by_cases h20 : 20 < s.size
    · have E := Lib.hid (show nameOk s = false by unfold nameOk; rw [decide_eq_true H0.out, decide_eq_false (by omega)]; rfl)
      rw [E.out]
      go_enter Tryz.func95, Tryz.ntmps95
      go_wp2_with fail
      go_ret
      exact R1.mk rfl (Below.refl _ _)
    · have h20' : ¬ (20 : Int) < (s.size : Int) := by omega
      have hat := Lib.hid (sb_at s 0 hpos)
      by_cases hd : 48 ≤ s[0].toNat ∧ s[0].toNat ≤ 57
      · have E := Lib.hid (show nameOk s = false by
          unfold nameOk; rw [hat.out, decide_eq_true H0.out, decide_eq_true (show s.size ≤ 20 by omega), decide_eq_true hd.1, decide_eq_true hd.2]; rfl)
        rw [E.out]
        have d1 : (48 : Int) ≤ (s[0].toNat : Int) := by omega
        have d2 : (s[0].toNat : Int) ≤ 57 := by omega
        clear hd
        go_enter Tryz.func95, Tryz.ntmps95
        go_wp2_with fail
        go_ret
        exact R1.mk rfl (Below.refl _ _)
      · have E := Lib.hid (show nameOk s = (sb s).all chOk by
          unfold nameOk; rw [hat.out, decide_eq_true H0.out, decide_eq_true (show s.size ≤ 20 by omega)]
          have : (decide (48 ≤ s[0].toNat) && decide (s[0].toNat ≤ 57)) = false := by
            rw [Bool.and_eq_false_iff]
            by_cases g : 48 ≤ s[0].toNat
            · exact .inr (decide_eq_false (fun g2 => hd ⟨g, g2⟩))
            · exact .inl (decide_eq_false g)
          rw [this]; rfl)
        rw [E.out]
        have hcv := fun (w : World) (s : ByteArray) => Lib.run_convert_string_bytes (P := Tryz.prog) w 9 76 5 s Tryz.underlying9 Tryz.underlying76 Tryz.underlying5
        go_enter Tryz.func95, Tryz.ntmps95
        rcases Decidable.em (48 ≤ s[0].toNat) with g | g
        · have d1 : (48 : Int) ≤ (s[0].toNat : Int) := by omega
          have d2 : ¬ (s[0].toNat : Int) ≤ 57 := by omega
          clear hd g
          go_wp2_with fail
          obtain ⟨W1, hW1⟩ : ∃ W1, Lib.bytesWorld w 5 s = W1 := ⟨_, rfl⟩
          have hh := has_sb w 5 s
          have hb1 : Below w.heap.size w (Lib.bytesWorld w 5 s) := below_sb _ _
          rw [hW1] at hh hb1 ⊢
          have Hh := Lib.hid hh
          clear hW1 hh
          clear hat hcv
          try clear d2
          clear d1 h20'
          go_loopw [25] (fun iv wr => ∃ k : Nat, k ≤ s.size ∧ iv = .int .i64 (k : Nat) ∧ Hid (((sb s).take k).all chOk = true) ∧ wr = W1) (fun iv _ => s.size + 5 - (intOf iv).toNat)
          case atStart => exact ⟨0, by omega, rfl, Lib.hid (by simp), rfl⟩
          case round =>
            obtain ⟨k, hk, rfl, hq, rfl⟩ := hrel
            by_cases hlt : (k : Int) < (s.size : Int)
            · have hkl : k < (sb s).length := by rw [sb_len]; omega
              obtain ⟨ad, e1, _, c0⟩ := Hh.out.at (u8s_at hkl)
              injection e1 with e1
              subst e1
              rw [show (⟨w.heap.size, 0, none⟩ : Addr).add k = ⟨w.heap.size, k, none⟩ from by unfold Addr.add; split <;> simp_all] at c0
              obtain ⟨y, hy⟩ : ∃ y, at_ (sb s) k = y := ⟨_, rfl⟩
              have htake := take_at (l := sb s) (k := k) hkl
              have hyl : y < 256 := by rw [← hy]; exact sb_lt s _ (at_mem hkl)
              have hmem : y ∈ sb s := by rw [← hy]; exact at_mem hkl
              rw [hy] at c0 htake
              have Ht := Lib.hid htake
              have Hmem := Lib.hid hmem
              have h0k : (0 : Int) ≤ (k : Int) := by omega
              clear hy htake hmem hkl
              have good : chOk y = true → Hid (((sb s).take (k + 1)).all chOk = true) := fun h => Lib.hid (by rw [Ht.out, List.all_append, hq.out, List.all_cons, h]; rfl)
              have bad : chOk y = false → Hid (((sb s).all chOk) = false) := fun h => Lib.hid (by rw [List.all_eq_false]; exact ⟨y, Hmem.out, by rw [h]; decide⟩)
              by_cases a1 : (y : Int) < 97
              · by_cases a2 : (y : Int) < 48
                · have E := bad (by unfold chOk; simp; omega)
                  have a4 : ((y : Int) != 95) = true := by rw [bne_iff_ne]; omega
                  clear good bad
                  go_wp2_with fail
                  go_ret
                  rw [E.out]
                  exact R1.mk rfl hb1
                · by_cases a3 : (57 : Int) < (y : Int)
                  · by_cases a4 : y = 95
                    · have E := good (by unfold chOk; simp; omega)
                      have a5 : ((y : Int) != 95) = false := by rw [bne_eq_false_iff_eq]; omega
                      clear good bad a4
                      go_wp2_with fail
                      go_roundw
                      case rel => exact ⟨k + 1, by omega, by go_num, E, (by first | rfl | trivial)⟩
                      case measure => simp [intOf]; omega
                    · have E := bad (by unfold chOk; simp; omega)
                      have a5 : ((y : Int) != 95) = true := by rw [bne_iff_ne]; omega
                      clear good bad
                      go_wp2_with fail
                      go_ret
                      rw [E.out]
                      exact R1.mk rfl hb1
                  · have E := good (by unfold chOk; simp; omega)
                    clear good bad
                    go_wp2_with fail
                    go_roundw
                    case rel => exact ⟨k + 1, by omega, by go_num, E, (by first | rfl | trivial)⟩
                    case measure => simp [intOf]; omega
              · by_cases b1 : (122 : Int) < (y : Int)
                · have E := bad (by unfold chOk; simp; omega)
                  have a4 : ((y : Int) != 95) = true := by rw [bne_iff_ne]; omega
                  have a2 : ¬ (y : Int) < 48 := by omega
                  have a3 : (57 : Int) < (y : Int) := by omega
                  clear good bad
                  go_wp2_with fail
                  go_ret
                  rw [E.out]
                  exact R1.mk rfl hb1
                · have E := good (by unfold chOk; simp; omega)
                  clear good bad
                  go_wp2_with fail
                  go_roundw
                  case rel => exact ⟨k + 1, by omega, by go_num, E, (by first | rfl | trivial)⟩
                  case measure => simp [intOf]; omega
            · have hkn : k = s.size := by omega
              have E := Lib.hid (show (sb s).all chOk = true by
                have h := hq.out
                rw [List.take_of_length_le (by rw [sb_len]; omega)] at h
                exact h)
              clear hkn
              go_wp2_with fail
              go_ret
              rw [E.out]
              exact R1.mk rfl hb1
        · have d1 : ¬ (48 : Int) ≤ (s[0].toNat : Int) := by omega
          clear hd g
          go_wp2_with fail
          obtain ⟨W1, hW1⟩ : ∃ W1, Lib.bytesWorld w 5 s = W1 := ⟨_, rfl⟩
          have hh := has_sb w 5 s
          have hb1 : Below w.heap.size w (Lib.bytesWorld w 5 s) := below_sb _ _
          rw [hW1] at hh hb1 ⊢
          have Hh := Lib.hid hh
          clear hW1 hh
          clear hat hcv
          try clear d2
          clear d1 h20'
          go_loopw [25] (fun iv wr => ∃ k : Nat, k ≤ s.size ∧ iv = .int .i64 (k : Nat) ∧ Hid (((sb s).take k).all chOk = true) ∧ wr = W1) (fun iv _ => s.size + 5 - (intOf iv).toNat)
          case atStart => exact ⟨0, by omega, rfl, Lib.hid (by simp), rfl⟩
          case round =>
            obtain ⟨k, hk, rfl, hq, rfl⟩ := hrel
            by_cases hlt : (k : Int) < (s.size : Int)
            · have hkl : k < (sb s).length := by rw [sb_len]; omega
              obtain ⟨ad, e1, _, c0⟩ := Hh.out.at (u8s_at hkl)
              injection e1 with e1
              subst e1
              rw [show (⟨w.heap.size, 0, none⟩ : Addr).add k = ⟨w.heap.size, k, none⟩ from by unfold Addr.add; split <;> simp_all] at c0
              obtain ⟨y, hy⟩ : ∃ y, at_ (sb s) k = y := ⟨_, rfl⟩
              have htake := take_at (l := sb s) (k := k) hkl
              have hyl : y < 256 := by rw [← hy]; exact sb_lt s _ (at_mem hkl)
              have hmem : y ∈ sb s := by rw [← hy]; exact at_mem hkl
              rw [hy] at c0 htake
              have Ht := Lib.hid htake
              have Hmem := Lib.hid hmem
              have h0k : (0 : Int) ≤ (k : Int) := by omega
              clear hy htake hmem hkl
              have good : chOk y = true → Hid (((sb s).take (k + 1)).all chOk = true) := fun h => Lib.hid (by rw [Ht.out, List.all_append, hq.out, List.all_cons, h]; rfl)
              have bad : chOk y = false → Hid (((sb s).all chOk) = false) := fun h => Lib.hid (by rw [List.all_eq_false]; exact ⟨y, Hmem.out, by rw [h]; decide⟩)
              by_cases a1 : (y : Int) < 97
              · by_cases a2 : (y : Int) < 48
                · have E := bad (by unfold chOk; simp; omega)
                  have a4 : ((y : Int) != 95) = true := by rw [bne_iff_ne]; omega
                  clear good bad
                  go_wp2_with fail
                  go_ret
                  rw [E.out]
                  exact R1.mk rfl hb1
                · by_cases a3 : (57 : Int) < (y : Int)
                  · by_cases a4 : y = 95
                    · have E := good (by unfold chOk; simp; omega)
                      have a5 : ((y : Int) != 95) = false := by rw [bne_eq_false_iff_eq]; omega
                      clear good bad a4
                      go_wp2_with fail
                      go_roundw
                      case rel => exact ⟨k + 1, by omega, by go_num, E, (by first | rfl | trivial)⟩
                      case measure => simp [intOf]; omega
                    · have E := bad (by unfold chOk; simp; omega)
                      have a5 : ((y : Int) != 95) = true := by rw [bne_iff_ne]; omega
                      clear good bad
                      go_wp2_with fail
                      go_ret
                      rw [E.out]
                      exact R1.mk rfl hb1
                  · have E := good (by unfold chOk; simp; omega)
                    clear good bad
                    go_wp2_with fail
                    go_roundw
                    case rel => exact ⟨k + 1, by omega, by go_num, E, (by first | rfl | trivial)⟩
                    case measure => simp [intOf]; omega
              · by_cases b1 : (122 : Int) < (y : Int)
                · have E := bad (by unfold chOk; simp; omega)
                  have a4 : ((y : Int) != 95) = true := by rw [bne_iff_ne]; omega
                  have a2 : ¬ (y : Int) < 48 := by omega
                  have a3 : (57 : Int) < (y : Int) := by omega
                  clear good bad
                  go_wp2_with fail
                  go_ret
                  rw [E.out]
                  exact R1.mk rfl hb1
                · have E := good (by unfold chOk; simp; omega)
                  clear good bad
                  go_wp2_with fail
                  go_roundw
                  case rel => exact ⟨k + 1, by omega, by go_num, E, (by first | rfl | trivial)⟩
                  case measure => simp [intOf]; omega
            · have hkn : k = s.size := by omega
              have E := Lib.hid (show (sb s).all chOk = true by
                have h := hq.out
                rw [List.take_of_length_le (by rw [sb_len]; omega)] at h
                exact h)
              clear hkn
              go_wp2_with fail
              go_ret
              rw [E.out]
              exact R1.mk rfl hb1
end Go.Proofs.YtihjgbhnlejhfaaGreatDoor
namespace Go.Proofs.YtihjgbhnlejhfaaGreatDoor
open Go.RowKit

def labC (x : Lab) : List Value := [.string x.nm, .string x.v]
def labCs (l : List Lab) : List Value := l.flatMap labC
theorem labCs_len (l : List Lab) : (labCs l).length = l.length * 2 := flat_len (f := labC) (C := 2) (fun _ => rfl) l
theorem labCs_0 {l : List Lab} {k : Nat} (h : k < l.length) : (labCs l)[k * 2]? = some (.string (at_ l k).nm) := flat_at (f := labC) (C := 2) (fun _ => rfl) h (r := 0) (by decide)
theorem labCs_1 {l : List Lab} {k : Nat} (h : k < l.length) : (labCs l)[k * 2 + 1]? = some (.string (at_ l k).v) := flat_at (f := labC) (C := 2) (fun _ => rfl) h (r := 1) (by decide)
def mtC (x : Mt) : List Value := [.int .i64 x.k, .string x.nm, .string x.v]
def mtCs (l : List Mt) : List Value := l.flatMap mtC
theorem mtCs_len (l : List Mt) : (mtCs l).length = l.length * 3 := flat_len (f := mtC) (C := 3) (fun _ => rfl) l
theorem mtCs_0 {l : List Mt} {k : Nat} (h : k < l.length) : (mtCs l)[k * 3]? = some (.int .i64 (at_ l k).k) := flat_at (f := mtC) (C := 3) (fun _ => rfl) h (r := 0) (by decide)
theorem mtCs_1 {l : List Mt} {k : Nat} (h : k < l.length) : (mtCs l)[k * 3 + 1]? = some (.string (at_ l k).nm) := flat_at (f := mtC) (C := 3) (fun _ => rfl) h (r := 1) (by decide)
theorem mtCs_2 {l : List Mt} {k : Nat} (h : k < l.length) : (mtCs l)[k * 3 + 2]? = some (.string (at_ l k).v) := flat_at (f := mtC) (C := 3) (fun _ => rfl) h (r := 2) (by decide)
def LabOk (x : Lab) : Prop := x.nm.size ≤ maxLen ∧ x.v.size ≤ maxLen
def MtOk (x : Mt) : Prop := in64 x.k ∧ x.nm.size ≤ maxLen ∧ x.v.size ≤ maxLen
def lastL (L : List Lab) (k : Nat) : ByteArray := if k = 0 then noS else (at_ L (k - 1)).nm

set_option maxRecDepth 1000000 in
set_option maxHeartbeats 4000000 in
theorem lcheck_any (A : Option Addr) (n c : Nat) (L : List Lab) (hn : L.length = n) (hl : n ≤ maxLen) (w : World) (h : Has w w.heap.size A (labCs L)) (hL : ∀ e ∈ L, LabOk e) :
    Calls Tryz.prog 69 #[.slice A n c] w (R1 (.int .i64 (chkL L)) (Below w.heap.size w)) := by
  unfold maxLen at hl
  have Hn := Lib.hid hn
  by_cases h20 : (10 : Int) < (n : Int)
  · have E := Lib.hid (show chkL L = 2 by unfold chkL; rw [if_pos (by omega)])
    rw [E.out]
    clear hL h
    go_enter Tryz.func69, Tryz.ntmps69
    go_wp2_with fail
    go_ret
    exact R1.mk rfl (Below.refl _ _)
  · obtain ⟨r, hr⟩ : ∃ r, chkL L = r := ⟨_, rfl⟩
    have hr0 : chkLGo noS L = r := by rw [← hr]; unfold chkL; rw [if_neg (by omega)]
    have HR := Lib.hid hr0
    rw [hr]
    have HL := Lib.hid hL
    have Hh := Lib.hid h
    clear hr hr0 hL h hn
    go_enter Tryz.func69, Tryz.ntmps69
    go_wp2_with fail
    go_loopw [3, 11] (fun lv iv wr => ∃ k : Nat, k ≤ n ∧ iv = .int .i64 (k : Nat) ∧ lv = .string (lastL L k) ∧ Hid (chkLGo (lastL L k) (L.drop k) = r) ∧ Below w.heap.size w wr) (fun _ iv _ => n + 5 - (intOf iv).toNat)
    case atStart => exact ⟨0, by omega, rfl, rfl, HR, Below.refl _ _⟩
    case round =>
      obtain ⟨k, hk, rfl, rfl, hg, hbr⟩ := hrel
      have hbs := hbr.size
      by_cases hlt : (k : Int) < (n : Int)
      · have hkL : k < L.length := by rw [Hn.out]; omega
        obtain ⟨ad, rfl, _, c0⟩ := (Hh.out.next hbr).at (labCs_0 hkL)
        obtain ⟨ad', e', _, c1⟩ := (Hh.out.next hbr).at (labCs_1 hkL)
        injection e' with e'
        subst e'
        have c1 := cell_off c1 (by decide)
        obtain ⟨o1, o2⟩ := HL.out _ (at_mem hkL)
        have hd : L.drop k = at_ L k :: L.drop (k + 1) := by rw [at_eq hkL]; exact List.drop_eq_getElem_cons hkL
        have hlast : lastL L (k + 1) = (at_ L k).nm := by unfold lastL; rw [if_neg (by omega)]; rfl
        have hg2 := hg.out
        rw [hd, chkLGo] at hg2
        obtain ⟨x, hx⟩ : ∃ x, at_ L k = x := ⟨_, rfl⟩
        rw [hx] at c0 c1 o1 o2 hg2 hlast
        obtain ⟨nm, v⟩ := x
        simp only [] at c0 c1 o1 o2 hg2 hlast
        obtain ⟨last, hla⟩ : ∃ last, lastL L k = last := ⟨_, rfl⟩
        rw [hla] at hg2 ⊢
        have Hg2 := Lib.hid hg2
        have Hlast := Lib.hid hlast
        obtain ⟨W1, hW1⟩ : ∃ W1, wr.alloc (.cells #[.string nm, .string v] 85) = W1 := ⟨_, rfl⟩
        obtain ⟨g, hgs⟩ : ∃ g, wr.heap.size = g := ⟨_, rfl⟩
        have hk1 : Blk W1 g 85 #[.string nm, .string v] := by rw [← hW1, ← hgs]; exact Blk.new _ _ _
        have hb1 : Below wr.heap.size wr W1 := by rw [← hW1]; exact (Below.refl _ _).alloc (Nat.le_refl _) _
        have hb01 := bnext hbr hb1
        have HW := Lib.hid hW1
        have HG := Lib.hid hgs
        clear hg hg2 hlast hla hd hW1 hgs
        go_wp2_with fail
        rw [HW.out, HG.out]
        have y0 : W1.cell? ⟨g, 0, none⟩ = some (.string nm) := hk1.cell 0
        have hN := lname_any nm o1 W1
        obtain ⟨b, hb⟩ : ∃ b, nameOk nm = b := ⟨_, rfl⟩
        rw [hb] at hN
        have HN := Lib.hid hN
        have Hb := Lib.hid hb
        clear hN hb HW HG
        go_wp2_with fail
        refine HN.out.mono ?_
        rintro e2 w2 ⟨rfl, hb2⟩
        have hk2 := hk1.next hb2
        have hb02 := bnext hb01 hb2
        have y0 : w2.cell? ⟨g, 0, none⟩ = some (.string nm) := hk2.cell 0
        have y1 : w2.cell? ⟨g, 1, none⟩ = some (.string v) := hk2.cell 1
        clear hk1 hb2 hb1 c0 c1 hbr hbs hb01
        cases b with
        | false =>
          have E := Lib.hid (show r = 4 by
            have hz : labErr last ⟨nm, v⟩ = 4 := by unfold labErr; simp only []; rw [if_pos Hb.out]
            rw [← Hg2.out, hz]; rfl)
          go_wp2_with fail
          go_ret
          rw [E.out]
          exact R1.mk rfl hb02
        | true =>
          by_cases n2 : nlt last nm
          · have b1 : Op.bytesLess last.toList nm.toList = true := by rw [nlt_bytes]; exact decide_eq_true n2
            have b2 : Op.bytesLess nm.toList last.toList = false := by rw [nlt_bytes]; exact decide_eq_false (nlt_asymm n2)
            have b3 : (nm.toList == last.toList) = false := by rw [beq_eq_false_iff_ne]; intro h; exact nlt_irrefl nm (by have := n2; rw [bytes_ext h] at this ⊢; exact this)
            have Hn2 := Lib.hid n2
            clear n2
            by_cases n3 : 40 < v.size
            · have E := Lib.hid (show r = 2 by
                have hz : labErr last ⟨nm, v⟩ = 2 := by unfold labErr; simp only []; rw [if_neg (by rw [Hb.out]; decide), if_neg (fun h => h Hn2.out), if_pos n3]
                rw [← Hg2.out, hz]; rfl)
              have n3' : (40 : Int) < (v.size : Int) := by omega
              go_wp2_with fail
              go_ret
              rw [E.out]
              exact R1.mk rfl hb02
            · have n3' : ¬ (40 : Int) < (v.size : Int) := by omega
              have hg3 := Hg2.out
              have hz : labErr last ⟨nm, v⟩ = 0 := by
                unfold labErr; simp only []
                rw [if_neg (by rw [Hb.out]; decide), if_neg (fun h => h Hn2.out), if_neg n3]
              rw [hz] at hg3
              have hg3 : chkLGo nm (List.drop (k + 1) L) = r := hg3
              have Hg3 := Lib.hid hg3
              clear hg3 hz
              go_wp2_with fail
              go_roundw
              case rel => exact ⟨k + 1, by omega, by go_num, by rw [Hlast.out], Lib.hid (by rw [Hlast.out]; exact Hg3.out), hb02⟩
              case measure => simp [intOf]; omega
          · have E := Lib.hid (show r = 5 by
              have hz : labErr last ⟨nm, v⟩ = 5 := by unfold labErr; simp only []; rw [if_neg (by rw [Hb.out]; decide), if_pos n2]
              rw [← Hg2.out, hz]; rfl)
            have b1 : Op.bytesLess last.toList nm.toList = false := by rw [nlt_bytes]; exact decide_eq_false n2
            rcases Decidable.em (nlt nm last) with n3 | n3
            · have b2 : Op.bytesLess nm.toList last.toList = true := by rw [nlt_bytes]; exact decide_eq_true n3
              clear n2 n3
              go_wp2_with fail
              go_ret
              rw [E.out]
              exact R1.mk rfl hb02
            · have b3 : (nm.toList == last.toList) = true := by rw [beq_iff_eq, nlt_tri n3 n2]
              have b2 : Op.bytesLess nm.toList last.toList = false := by rw [nlt_bytes]; exact decide_eq_false n3
              clear n2 n3
              go_wp2_with fail
              go_ret
              rw [E.out]
              exact R1.mk rfl hb02
      · have hkn : k = n := by omega
        have E := Lib.hid (show r = 0 by
          have h := hg.out
          rw [List.drop_of_length_le (by rw [Hn.out]; omega)] at h
          exact h.symm)
        clear hkn hg
        go_wp2_with fail
        go_ret
        rw [E.out]
        exact R1.mk rfl hbr

set_option maxRecDepth 1000000 in
set_option maxHeartbeats 4000000 in
theorem mcheck_any (A : Option Addr) (n c : Nat) (L : List Mt) (hn : L.length = n) (hl : n ≤ maxLen) (w : World) (h : Has w w.heap.size A (mtCs L)) (hL : ∀ e ∈ L, MtOk e) :
    Calls Tryz.prog 177 #[.slice A n c] w (R1 (.int .i64 (chkM L)) (Below w.heap.size w)) := by
  unfold maxLen at hl
  have Hn := Lib.hid hn
  by_cases h20 : (10 : Int) < (n : Int)
  · have E := Lib.hid (show chkM L = 2 by unfold chkM; rw [if_pos (by omega)])
    rw [E.out]
    clear hL h
    go_enter Tryz.func177, Tryz.ntmps177
    go_wp2_with fail
    go_ret
    exact R1.mk rfl (Below.refl _ _)
  · obtain ⟨r, hr⟩ : ∃ r, chkM L = r := ⟨_, rfl⟩
    have hr0 : chkMGo L = r := by rw [← hr]; unfold chkM; rw [if_neg (by omega)]
    have HR := Lib.hid hr0
    rw [hr]
    have HL := Lib.hid hL
    have Hh := Lib.hid h
    clear hr hr0 hL h hn
    go_enter Tryz.func177, Tryz.ntmps177
    go_wp2_with fail
    go_loopw [10] (fun iv wr => ∃ k : Nat, k ≤ n ∧ iv = .int .i64 (k : Nat) ∧ Hid (chkMGo (L.drop k) = r) ∧ Below w.heap.size w wr) (fun iv _ => n + 5 - (intOf iv).toNat)
    case atStart => exact ⟨0, by omega, rfl, HR, Below.refl _ _⟩
    case round =>
      obtain ⟨k, hk, rfl, hg, hbr⟩ := hrel
      have hbs := hbr.size
      by_cases hlt : (k : Int) < (n : Int)
      · have hkL : k < L.length := by rw [Hn.out]; omega
        obtain ⟨ad, rfl, _, c0⟩ := (Hh.out.next hbr).at (mtCs_0 hkL)
        obtain ⟨ad', e', _, c1⟩ := (Hh.out.next hbr).at (mtCs_1 hkL)
        injection e' with e'
        subst e'
        obtain ⟨ad', e', _, c2⟩ := (Hh.out.next hbr).at (mtCs_2 hkL)
        injection e' with e'
        subst e'
        have c1 := cell_off c1 (by decide)
        have c2 := cell_off c2 (by decide)
        obtain ⟨o0, o1, o2⟩ := HL.out _ (at_mem hkL)
        have hd : L.drop k = at_ L k :: L.drop (k + 1) := by rw [at_eq hkL]; exact List.drop_eq_getElem_cons hkL
        have hg2 := hg.out
        rw [hd, chkMGo] at hg2
        obtain ⟨x, hx⟩ : ∃ x, at_ L k = x := ⟨_, rfl⟩
        rw [hx] at c0 c1 c2 o0 o1 o2 hg2
        obtain ⟨q, nm, v⟩ := x
        simp only [] at c0 c1 c2 o0 o1 o2 hg2
        have Hg2 := Lib.hid hg2
        obtain ⟨W1, hW1⟩ : ∃ W1, wr.alloc (.cells #[.int .i64 q, .string nm, .string v] 157) = W1 := ⟨_, rfl⟩
        obtain ⟨g, hgs⟩ : ∃ g, wr.heap.size = g := ⟨_, rfl⟩
        have hk1 : Blk W1 g 157 #[.int .i64 q, .string nm, .string v] := by rw [← hW1, ← hgs]; exact Blk.new _ _ _
        have hb1 : Below wr.heap.size wr W1 := by rw [← hW1]; exact (Below.refl _ _).alloc (Nat.le_refl _) _
        have hb01 := bnext hbr hb1
        have HW := Lib.hid hW1
        have HG := Lib.hid hgs
        clear hg hg2 hd hW1 hgs
        by_cases q1 : q < 1
        · have E := Lib.hid (show r = 1 by
              have hz : mtErr ⟨q, nm, v⟩ = 1 := by unfold mtErr; simp only []; rw [if_pos (by omega)]
              rw [← Hg2.out, hz]; rfl)
          go_wp2_with fail
          rw [HW.out]
          go_ret
          rw [E.out]
          exact R1.mk rfl hb01
        · by_cases q2 : 4 < q
          · have E := Lib.hid (show r = 1 by
              have hz : mtErr ⟨q, nm, v⟩ = 1 := by unfold mtErr; simp only []; rw [if_pos (by omega)]
              rw [← Hg2.out, hz]; rfl)
            go_wp2_with fail
            rw [HW.out]
            go_ret
            rw [E.out]
            exact R1.mk rfl hb01
          · have Hq := Lib.hid (show ¬ (q < 1 ∨ 4 < q) by omega)
            go_wp2_with fail
            rw [HW.out, HG.out]
            have y1 : W1.cell? ⟨g, 1, none⟩ = some (.string nm) := hk1.cell 1
            have hN := lname_any nm o1 W1
            obtain ⟨b, hb⟩ : ∃ b, nameOk nm = b := ⟨_, rfl⟩
            rw [hb] at hN
            have HN := Lib.hid hN
            have Hb := Lib.hid hb
            clear hN hb HW HG
            go_wp2_with fail
            refine HN.out.mono ?_
            rintro e2 w2 ⟨rfl, hb2⟩
            have hk2 := hk1.next hb2
            have hb02 := bnext hb01 hb2
            have y2 : w2.cell? ⟨g, 2, none⟩ = some (.string v) := hk2.cell 2
            clear hk1 hb2 hb1 c0 c1 c2 hbr hbs hb01
            cases b with
            | false =>
              have E := Lib.hid (show r = 4 by
                have hz : mtErr ⟨q, nm, v⟩ = 4 := by unfold mtErr; simp only []; rw [if_neg Hq.out, if_pos Hb.out]
                rw [← Hg2.out, hz]; rfl)
              go_wp2_with fail
              go_ret
              rw [E.out]
              exact R1.mk rfl hb02
            | true =>
              by_cases n3 : 40 < v.size
              · have E := Lib.hid (show r = 2 by
                  have hz : mtErr ⟨q, nm, v⟩ = 2 := by unfold mtErr; simp only []; rw [if_neg Hq.out, if_neg (by rw [Hb.out]; decide), if_pos n3]
                  rw [← Hg2.out, hz]; rfl)
                have n3' : (40 : Int) < (v.size : Int) := by omega
                go_wp2_with fail
                go_ret
                rw [E.out]
                exact R1.mk rfl hb02
              · have n3' : ¬ (40 : Int) < (v.size : Int) := by omega
                have hg3 := Hg2.out
                have hz : mtErr ⟨q, nm, v⟩ = 0 := by
                  unfold mtErr; simp only []
                  rw [if_neg Hq.out, if_neg (by rw [Hb.out]; decide), if_neg n3]
                rw [hz] at hg3
                have hg3 : chkMGo (List.drop (k + 1) L) = r := hg3
                have Hg3 := Lib.hid hg3
                clear hg3 hz
                go_wp2_with fail
                go_roundw
                case rel => exact ⟨k + 1, by omega, by go_num, Hg3, hb02⟩
                case measure => simp [intOf]; omega
      · have hkn : k = n := by omega
        have E := Lib.hid (show r = 0 by
          have h := hg.out
          rw [List.drop_of_length_le (by rw [Hn.out]; omega)] at h
          exact h.symm)
        clear hkn hg
        go_wp2_with fail
        go_ret
        rw [E.out]
        exact R1.mk rfl hbr
end Go.Proofs.YtihjgbhnlejhfaaGreatDoor
namespace Go.Proofs.YtihjgbhnlejhfaaGreatDoor
open Go.RowKit Go.ChangeShapes Go.WideShapes Go.Deep

/-- a row of labels, by value -/
structure LbsE where
  A : Option Addr
  c : Nat
  l : List Lab
instance : Inhabited LbsE := ⟨⟨none, 0, []⟩⟩
def LbsE.ok (w : World) (x : LbsE) : Prop := (∀ e ∈ x.l, LabOk e) ∧ x.l.length ≤ x.c ∧ x.c ≤ maxLen ∧ (x.A = none → x.c = 0) ∧ Has w w.heap.size x.A (labCs x.l)
theorem LbsE.ok.next {w w' : World} {x : LbsE} (h : x.ok w) (hb : Below w.heap.size w w') : x.ok w' := ⟨h.1, h.2.1, h.2.2.1, h.2.2.2.1, h.2.2.2.2.next hb⟩
def lbsC (x : LbsE) : List Value := [.slice x.A x.l.length x.c]
def lbsCs (l : List LbsE) : List Value := l.flatMap lbsC
theorem lbsCs_at {l : List LbsE} {k : Nat} (h : k < l.length) : (lbsCs l)[k]? = some (.slice (at_ l k).A (at_ l k).l.length (at_ l k).c) := by
  have := flat_at (f := lbsC) (C := 1) (fun _ => rfl) h (r := 0) (by decide)
  rw [Nat.mul_one, Nat.add_zero] at this
  exact this
section
variable {H : Type} {enc : TypeId × Value → H} {P : Program} {w : World} {base : Nat} {spare : Nat → Bool} {held : Bool}
theorem open_stringL {r : Reach} {b0 : Nat} {t : TypeId} {v : Value} {d : DataW H} {ps : List MemPlace} (ht : P.underlying t = some .string) (hval : Value.okWide P w r b0 t v) (hd : DataW.Trod enc P w base spare held t v d ps) :
    ∃ s, v = .string s ∧ s.size ≤ maxLen := by
  obtain ⟨s, rfl⟩ := okWide_string ht hval
  obtain ⟨fuel, hf⟩ := hd
  obtain ⟨s', h, _, hw⟩ := DataW.trod_string ht hf
  simp [Value.cells] at h
  subst h
  exact ⟨s, rfl, hw⟩
theorem elem_lab {t : TypeId} {f0 f1 : Field} (hs : P.underlying t = some (.struct #[f0, f1])) (h0 : P.underlying f0.type = some .string) (h1 : P.underlying f1.type = some .string) (hone : oneCellFields P #[f0, f1] = true) :
    ∀ n cs x, cs.length = 2 → DataW.trod enc P w base spare held n t cs = some x → ∃ el : Lab, cs = labC el ∧ LabOk el := by
  intro n cs x hl h
  obtain ⟨xs, m, _, _, _, hxl, hff⟩ := DataW.trod_struct hs h
  obtain ⟨o0, k0⟩ := hone_of hone 0 f0 rfl
  obtain ⟨o1, k1⟩ := hone_of hone 1 f1 rfl
  match cs, hl with
  | [v0, v1], _ =>
    match xs, hxl with
    | [y0, y1], _ =>
      have t0 := hff 0 f0 rfl
      have t1 := hff 1 f1 rfl
      rw [o0, k0] at t0
      rw [o1, k1] at t1
      have t0 : DataW.trod enc P w base spare held m f0.type [v0] = some y0 := t0
      have t1 : DataW.trod enc P w base spare held m f1.type [v1] = some y1 := t1
      obtain ⟨a0, e0, _, w0⟩ := DataW.trod_string h0 t0
      obtain ⟨a1, e1, _, w1⟩ := DataW.trod_string h1 t1
      injection e0 with e0
      injection e1 with e1
      subst e0 e1
      exact ⟨⟨a0, a1⟩, rfl, w0, w1⟩
theorem elem_mt {t : TypeId} {f0 f1 f2 : Field} (hs : P.underlying t = some (.struct #[f0, f1, f2])) (h0 : P.underlying f0.type = some (.int .i64)) (h1 : P.underlying f1.type = some .string) (h2 : P.underlying f2.type = some .string) (hone : oneCellFields P #[f0, f1, f2] = true) :
    ∀ n cs x, cs.length = 3 → DataW.trod enc P w base spare held n t cs = some x → ∃ el : Mt, cs = mtC el ∧ MtOk el := by
  intro n cs x hl h
  obtain ⟨xs, m, _, _, _, hxl, hff⟩ := DataW.trod_struct hs h
  obtain ⟨o0, k0⟩ := hone_of hone 0 f0 rfl
  obtain ⟨o1, k1⟩ := hone_of hone 1 f1 rfl
  obtain ⟨o2, k2⟩ := hone_of hone 2 f2 rfl
  match cs, hl with
  | [v0, v1, v2], _ =>
    match xs, hxl with
    | [y0, y1, y2], _ =>
      have t0 := hff 0 f0 rfl
      have t1 := hff 1 f1 rfl
      have t2 := hff 2 f2 rfl
      rw [o0, k0] at t0
      rw [o1, k1] at t1
      rw [o2, k2] at t2
      have t0 : DataW.trod enc P w base spare held m f0.type [v0] = some y0 := t0
      have t1 : DataW.trod enc P w base spare held m f1.type [v1] = some y1 := t1
      have t2 : DataW.trod enc P w base spare held m f2.type [v2] = some y2 := t2
      obtain ⟨a0, e0, _, w0⟩ := DataW.trod_int h0 t0
      obtain ⟨a1, e1, _, w1⟩ := DataW.trod_string h1 t1
      obtain ⟨a2, e2, _, w2⟩ := DataW.trod_string h2 t2
      injection e0 with e0
      injection e1 with e1
      injection e2 with e2
      subst e0 e1 e2
      have hb := bounds_i64 w0
      exact ⟨⟨a0, a1, a2⟩, rfl, (show in64 a0 from ⟨by omega, by omega⟩), w1, w2⟩
/-- []api.Label -/
theorem open_labs {lt t : TypeId} {f0 f1 : Field} (ht : P.underlying lt = some (.slice t)) (hs : P.underlying t = some (.struct #[f0, f1])) (h0 : P.underlying f0.type = some .string) (h1 : P.underlying f1.type = some .string) (hone : oneCellFields P #[f0, f1] = true) (hC : P.cellsOf t = 2) (hB : P.bytesOf t = 32)
    {r : Reach} {b0 : Nat} {v : Value} {d : DataW H} {p : List MemPlace} (hval : Value.okWide P w r b0 lt v) (h : DataW.Trod enc P w base spare held lt v d p) (hsz : ∀ n ∈ d.weights P lt, n ≤ reachBytes) :
    ∃ (A : Option Addr) (c : Nat) (l : List Lab), v = .slice A l.length c ∧ (∀ e ∈ l, LabOk e) ∧ l.length ≤ c ∧ c ≤ maxLen ∧ (A = none → c = 0) ∧ Has w w.heap.size A (labCs l) ∧ l.length * 32 ≤ 140737488351232 :=
  open_list labC LabOk ht hC hB (by omega) (fun _ => rfl) (elem_lab hs h0 h1 hone) hval h hsz
/-- []api.Match -/
theorem open_mts {lt t : TypeId} {f0 f1 f2 : Field} (ht : P.underlying lt = some (.slice t)) (hs : P.underlying t = some (.struct #[f0, f1, f2])) (h0 : P.underlying f0.type = some (.int .i64)) (h1 : P.underlying f1.type = some .string) (h2 : P.underlying f2.type = some .string) (hone : oneCellFields P #[f0, f1, f2] = true) (hC : P.cellsOf t = 3) (hB : P.bytesOf t = 40)
    {r : Reach} {b0 : Nat} {v : Value} {d : DataW H} {p : List MemPlace} (hval : Value.okWide P w r b0 lt v) (h : DataW.Trod enc P w base spare held lt v d p) (hsz : ∀ n ∈ d.weights P lt, n ≤ reachBytes) :
    ∃ (A : Option Addr) (c : Nat) (l : List Mt), v = .slice A l.length c ∧ (∀ e ∈ l, MtOk e) ∧ l.length ≤ c ∧ c ≤ maxLen ∧ (A = none → c = 0) ∧ Has w w.heap.size A (mtCs l) ∧ l.length * 40 ≤ 140737488351232 :=
  open_list mtC MtOk ht hC hB (by omega) (fun _ => rfl) (elem_mt hs h0 h1 h2 hone) hval h hsz
/-- api.Match, by value -/
theorem open_mt {t : TypeId} {f0 f1 f2 : Field} (hs : P.underlying t = some (.struct #[f0, f1, f2])) (h0 : P.underlying f0.type = some (.int .i64)) (h1 : P.underlying f1.type = some .string) (h2 : P.underlying f2.type = some .string) (hone : oneCellFields P #[f0, f1, f2] = true) (hC : P.cellsOf t = 3)
    {r : Reach} {b0 : Nat} {v : Value} {d : DataW H} {p : List MemPlace} (hval : Value.okWide P w r b0 t v) (h : DataW.Trod enc P w base spare held t v d p) :
    ∃ x : Mt, v = .agg #[.int .i64 x.k, .string x.nm, .string x.v] ∧ MtOk x := by
  obtain ⟨cs, rfl, hsz⟩ := okWide_struct hs hval
  obtain ⟨fuel, hf⟩ := h
  obtain ⟨l⟩ := cs
  obtain ⟨e, h2, h3⟩ := elem_mt hs h0 h1 h2 hone fuel _ _ (by exact hsz.trans hC) hf
  have h2 : l = mtC e := h2
  subst h2
  exact ⟨e, rfl, h3⟩
/-- [][]api.Label -/
theorem open_labss {lt t e : TypeId} {f0 f1 : Field} (ht : P.underlying lt = some (.slice t)) (ht2 : P.underlying t = some (.slice e)) (hs : P.underlying e = some (.struct #[f0, f1])) (h0 : P.underlying f0.type = some .string) (h1 : P.underlying f1.type = some .string) (hone : oneCellFields P #[f0, f1] = true) (hC : P.cellsOf e = 2) (hCt : P.cellsOf t = 1) (hBt : P.bytesOf t = 24)
    {r : Reach} {b0 : Nat} {v : Value} {d : DataW H} {p : List MemPlace} (hval : Value.okWide P w r b0 lt v) (h : DataW.Trod enc P w base spare held lt v d p) (hsz : ∀ n ∈ d.weights P lt, n ≤ reachBytes) :
    ∃ (A : Option Addr) (c : Nat) (l : List LbsE), v = .slice A l.length c ∧ (∀ e ∈ l, e.ok w) ∧ l.length ≤ c ∧ c ≤ maxLen ∧ (A = none → c = 0) ∧ Has w w.heap.size A (lbsCs l) ∧ l.length * 24 ≤ 140737488351232 :=
  open_list lbsC (fun x => LbsE.ok w x) ht hCt hBt (by omega) (fun _ => rfl) (fun n cs x _ h => by
    obtain ⟨A, c, l, e1, e2, e3, e4, e5, e6, _⟩ := open_cells labC LabOk ht2 hC (by omega) (fun _ => rfl) (elem_lab hs h0 h1 hone) h
    exact ⟨⟨A, c, l⟩, e1, e2, e3, e4, e5, e6⟩) hval h hsz
end
end Go.Proofs.YtihjgbhnlejhfaaGreatDoor
namespace Go.Proofs.YtihjgbhnlejhfaaGreatDoor
open Go.RowKit

def nilV : Value := .slice none 0 0
/-- the cells of label's replacer: what stands for a quote, a backslash and a new line; and the texts that are replaced -/
def cells4 (tr a b d : Value) : Array Value := ((((Array.replicate 257 (.slice none 0 0)).setIfInBounds 256 tr).setIfInBounds 10 a).setIfInBounds 34 b).setIfInBounds 92 d
theorem zero130 : Tryz.zeroCells281 = cells4 nilV nilV nilV nilV := by kernel_rfl
theorem cells4_tr (tr a b d t : Value) : (cells4 tr a b d).setIfInBounds 256 t = cells4 t a b d := by kernel_rfl
theorem cells4_a (tr a b d t : Value) : (cells4 tr a b d).setIfInBounds 10 t = cells4 tr t b d := by kernel_rfl
theorem cells4_b (tr a b d t : Value) : (cells4 tr a b d).setIfInBounds 34 t = cells4 tr a t d := by kernel_rfl
theorem cells4_d (tr a b d t : Value) : (cells4 tr a b d).setIfInBounds 92 t = cells4 tr a b t := by kernel_rfl
theorem cells4_256 (tr a b d : Value) : (cells4 tr a b d)[256]? = some tr := by kernel_rfl
theorem cells4_10 (tr a b d : Value) : (cells4 tr a b d)[10]? = some a := by kernel_rfl
theorem cells4_34 (tr a b d : Value) : (cells4 tr a b d)[34]? = some b := by kernel_rfl
theorem cells4_92 (tr a b d : Value) : (cells4 tr a b d)[92]? = some d := by kernel_rfl
theorem cells4_at (tr a b d : Value) (i : Nat) (h : i < 256) : (cells4 tr a b d)[i]? = some (if i = 10 then a else if i = 34 then b else if i = 92 then d else nilV) := by
  unfold cells4
  simp only [Array.getElem?_setIfInBounds, Array.size_setIfInBounds, Array.size_replicate, Array.getElem?_replicate]
  by_cases h1 : i = 92
  · subst h1; simp
  · by_cases h2 : i = 34
    · subst h2; simp
    · by_cases h3 : i = 10
      · subst h3; simp
      · have e1 : ¬ 92 = i := fun e => h1 e.symm
        have e2 : ¬ 34 = i := fun e => h2 e.symm
        have e3 : ¬ 10 = i := fun e => h3 e.symm
        have e4 : ¬ 256 = i := by omega
        simp [e1, e2, e3, e4, h1, h2, h3, nilV, show i < 257 by omega]
/-- a row of bytes that can be read -/
def SlB (W : World) (v : Value) (l : List Nat) : Prop := ∃ b c cs fr, v = .slice (some ⟨b, 0, none⟩) l.length c ∧ W.heap[b]? = some (.cells cs 5 fr) ∧ cs.toList.take l.length = u8s l
theorem SlB.next {W W' : World} {v : Value} {l : List Nat} (h : SlB W v l) (hb : Below W.heap.size W W') : SlB W' v l := by
  obtain ⟨b, c, cs, fr, e, h1, h2⟩ := h
  exact ⟨b, c, cs, fr, e, (hb.block b (Array.getElem?_eq_some_iff.1 h1).1).trans h1, h2⟩
theorem SlB.grown {W W' : World} {v : Value} {l : List Nat} (h : SlB W v l) {base n : Nat} {u : Value} {xs : List Value} {e : TypeId} (ho : W.ownsRow base e 1 u n xs) (he : e ≠ 5) (hg : W.grownBy W' u.ownBlock) : SlB W' v l := by
  obtain ⟨b, c, cs, fr, e1, h1, h2⟩ := h
  refine ⟨b, c, cs, fr, e1, (hg.block b (Array.getElem?_eq_some_iff.1 h1).1 ?_).trans h1, h2⟩
  rcases ho.2 with ⟨rfl, _⟩ | ⟨q, cap, cur, rfl, _, hq, _⟩
  · intro h'; cases h'
  · intro h'
    injection h' with h'
    subst h'
    rw [h1] at hq
    injection hq with hq
    injection hq with _ h5
    exact he h5.symm
theorem SlB.set {W : World} {v : Value} {l : List Nat} (h : SlB W v l) {g : Nat} {t : TypeId} {ds : Array Value} (hk : Blk W g t ds) (ht : t ≠ 5) (i : Nat) (u : Value) : SlB (W.setCell ⟨g, i, none⟩ u) v l := by
  obtain ⟨b, c, cs, fr, e1, h1, h2⟩ := h
  refine ⟨b, c, cs, fr, e1, (Below.heap_setCell _ ⟨g, i, none⟩ _ b (fun e => ?_)).trans h1, h2⟩
  have e : b = g := by first | exact e | exact e.symm
  subst e
  rw [Blk] at hk
  rw [hk] at h1
  injection h1 with h1
  injection h1 with _ h5
  exact ht h5
theorem SlB.has {W : World} {b : Nat} {n c : Nat} {l : List Nat} (h : SlB W (.slice (some ⟨b, 0, none⟩) n c) l) : Has W W.heap.size (some ⟨b, 0, none⟩) (u8s l) := fun _ => by
  obtain ⟨b', c', cs, fr, e1, h1, h2⟩ := h
  injection e1 with e1
  injection e1 with e1
  injection e1 with e1
  subst e1
  refine ⟨_, rfl, (Array.getElem?_eq_some_iff.1 h1).1, fun j u hu => ?_⟩
  have hadd : (⟨b, 0, none⟩ : Addr).add j = ⟨b, j, none⟩ := by unfold Addr.add; split <;> simp_all
  rw [hadd, cell_of_row W b j cs 5 fr h1]
  rw [← h2] at hu
  have hj : j < l.length := by
    have := (List.getElem?_eq_some_iff.1 hu).1
    rw [List.length_take] at this
    omega
  rw [List.getElem?_take_of_lt hj] at hu
  rw [← Array.getElem?_toList]
  exact hu
theorem SlB.new (W : World) (s : ByteArray) (c : Nat) : SlB (Lib.bytesWorld W 5 s) (.slice (some ⟨W.heap.size, 0, none⟩) s.size c) (sb s) := by
  refine ⟨_, c, _, _, by rw [sb_len], Lib.bytesWorld_at_new W _ s, ?_⟩
  have hl : s.data.toList.length = s.size := by rw [Array.length_toList]; rfl
  unfold Lib.bytesCells
  rw [Array.toList_append, sb_len, List.take_append_of_le_length (by simp), List.take_of_length_le (by simp)]
  unfold sb u8s u8v
  simp
theorem blk_stored {w : World} {b : Nat} {t : TypeId} : ∀ (vs pre post : List Value), post.length = vs.length → Blk w b t (pre ++ post).toArray → Blk (w.setCells b pre.length vs) b t (pre ++ vs).toArray
  | [], pre, post, hl, h => by
    obtain rfl : post = [] := List.length_eq_zero_iff.1 hl
    exact h
  | v :: vs, pre, post, hl, h => by
    cases post with
    | nil => cases hl
    | cons p ps =>
      have h1 := h.set pre.length v
      have e : ((pre ++ p :: ps).toArray).setIfInBounds pre.length v = (pre ++ [v] ++ ps).toArray := by
        apply Array.ext'
        simp
      rw [e] at h1
      have := blk_stored vs (pre ++ [v]) ps (by simpa using hl) h1
      rw [List.length_append] at this
      rw [World.setCells]
      have e2 : pre ++ v :: vs = pre ++ [v] ++ vs := by simp
      rw [e2]
      exact this
theorem z130_one : ∀ v ∈ (cells4 nilV nilV nilV nilV).toList, v.oneCell' = true := by
  have h : (cells4 nilV nilV nilV nilV).toList.all (fun v => v.oneCell') = true := by kernel_rfl
  exact fun v hv => List.all_eq_true.1 h v hv
/-- a new object's cells, stored at once -/
theorem run_store130 (W : World) (v : Value) (hv : v.oneCell' = true) :
    ∃ W', (storeCells ⟨W.heap.size, 0, none⟩ (Tryz.zeroCells281.toList.set 256 v)).run Tryz.prog (W.alloc (.cells Tryz.zeroCells281 281)) = .ok () W' ∧
      Blk W' W.heap.size 281 (cells4 v nilV nilV nilV) ∧ Below W.heap.size W W' ∧ W'.heap.size = W.heap.size + 1 := by
  rw [zero130]
  have hb : Blk (W.alloc (.cells (cells4 nilV nilV nilV nilV) 281)) W.heap.size 281 (cells4 nilV nilV nilV nilV) := Blk.new _ _ _
  have hsz : (cells4 nilV nilV nilV nilV).size = 257 := by simp [cells4]
  have hst := run_storeCells_cells (P := Tryz.prog) W.heap.size 0 ((cells4 nilV nilV nilV nilV).toList.set 256 v) 0 (W.alloc (.cells (cells4 nilV nilV nilV nilV) 281))
    (by intro j hj; simp [hsz] at hj; rw [hb.cell]; simp [hsz, hj]) (by intro j _; exact hb.frozen _) (by
      intro u hu
      rcases List.mem_or_eq_of_mem_set hu with h | h
      · exact z130_one u h
      · rw [h]; exact hv)
  refine ⟨_, hst, ?_, ?_, ?_⟩
  · have h2 := blk_stored ((cells4 nilV nilV nilV nilV).toList.set 256 v) [] (cells4 nilV nilV nilV nilV).toList (by simp) (by simpa using hb)
    have e : ((cells4 nilV nilV nilV nilV).toList.set 256 v).toArray = cells4 v nilV nilV nilV := by
      rw [← cells4_tr nilV nilV nilV nilV v]
      apply Array.ext'
      simp
    rw [List.nil_append, e] at h2
    exact h2
  · have h3 : ∀ (vs : List Value) (o : Nat) (w : World), Below W.heap.size W w → Below W.heap.size W (w.setCells W.heap.size o vs) := by
      intro vs
      induction vs with
      | nil => intro o w h; exact h
      | cons u vs ih => intro o w h; exact ih _ _ (h.setCell (Nat.le_refl _) _)
    exact h3 _ _ _ ((Below.refl _ _).alloc (Nat.le_refl _) _)
  · have h4 : ∀ (vs : List Value) (o : Nat) (w : World), (w.setCells W.heap.size o vs).heap.size = w.heap.size := by
      intro vs
      induction vs with
      | nil => intro o w; rfl
      | cons u vs ih => intro o w; rw [World.setCells, ih]; simp [World.setCell]
    rw [h4]; simp
end Go.Proofs.YtihjgbhnlejhfaaGreatDoor
namespace Go.Proofs.YtihjgbhnlejhfaaGreatDoor
open Go.RowKit

theorem elStrL : Elem Tryz.prog 104 9 1 16 := Elem.mk' (z := .string ⟨#[]⟩) Tryz.underlying104 (by kernel_rfl) rfl (by decide)
theorem strCs_app1L (l : List ByteArray) (x : ByteArray) : strCs (l ++ [x]) = strCs l ++ (#[Value.string x] : Array Value).toList := by simp [strCs, strC]
theorem blk_neL {w : World} {g : Nat} {t : TypeId} {cs : Array Value} {base size n : Nat} {v : Value} {e : TypeId} {xs : List Value} (h : Blk w g t cs) (ho : w.ownsRow base e size v n xs) (ht : t ≠ e) : some g ≠ v.ownBlock := by
  rcases ho.2 with ⟨rfl, _⟩ | ⟨q, cap, cur, rfl, hb, hg, h1, h2, h3, h4⟩
  · intro h'; cases h'
  · intro h'
    injection h' with h'
    subst h'
    rw [Blk] at h
    rw [h] at hg
    injection hg with hg
    injection hg with _ h5
    exact ht h5
/-- the texts that are replaced, as build meets them -/
def trL (k : Nat) : List ByteArray := [(⟨#[10]⟩ : ByteArray), ⟨#[34]⟩, ⟨#[92]⟩].take k
/-- the replacer when build has taken k pairs -/
def RpSt (w : World) (h k : Nat) (W : World) : Prop :=
  ∃ (A : Option Addr) (c : Nat) (a b d : Value), Blk W h 281 (cells4 (.slice A k c) a b d) ∧ W.ownsRow w.heap.size 9 1 (.slice A k c) k (strCs (trL k)) ∧ Below w.heap.size w W ∧ w.heap.size ≤ h ∧
    (k = 0 → a = nilV) ∧ (1 ≤ k → SlB W a [92, 110]) ∧ (k ≤ 1 → b = nilV) ∧ (2 ≤ k → SlB W b [92, 34]) ∧ (k ≤ 2 → d = nilV) ∧ (3 ≤ k → SlB W d [92, 92])
theorem one_allocP (w : World) (o : Obj) : Below w.heap.size w (w.alloc o) := (Below.refl _ _).alloc (Nat.le_refl _) _
/-- behind a pair's text: the world W5 is what append made; the text is stored; then its bytes -/
theorem rp_step {w Wb W5 : World} {h : Nat} {T : TypeId} {base : Nat} {k : Nat} {A A5 : Option Addr} {c c5 : Nat} {a b d : Value} {xs xs0 : List Value} (hB : Blk Wb h 281 (cells4 (.slice A k c) a b d)) (hne : some h ≠ (Value.slice A k c).ownBlock) (hg : Wb.grownBy W5 (Value.slice A k c).ownBlock)
    (hownb : Wb.ownsRow base T 1 (.slice A k c) k xs0) (hT8 : T ≠ 5) (hown : W5.ownsRow base T 1 (.slice A5 (k + 1) c5) (k + 1) xs) (hT : 281 ≠ T) (hbel : Below w.heap.size w W5) (hwh : w.heap.size ≤ h) (s : ByteArray) :
    W5.cell? ⟨h, 256, none⟩ = some (.slice A k c) ∧ W5.frozen? ⟨h, 256, none⟩ = false ∧
    ∃ W6 W7, W5.setCell ⟨h, 256, none⟩ (.slice A5 (k + 1) c5) = W6 ∧ Lib.bytesWorld W6 5 s = W7 ∧ Blk W7 h 281 (cells4 (.slice A5 (k + 1) c5) a b d) ∧ W7.ownsRow base T 1 (.slice A5 (k + 1) c5) (k + 1) xs ∧ Below w.heap.size w W7 ∧
      W6.heap.size = W5.heap.size ∧ (∀ cp, SlB W7 (.slice (some ⟨W5.heap.size, 0, none⟩) s.size cp) (sb s)) ∧ (∀ v l, SlB Wb v l → SlB W7 v l) := by
  have h5 : Blk W5 h 281 (cells4 (.slice A k c) a b d) := hB.grown hg hne
  have e5 : W5.cell? ⟨h, 256, none⟩ = some (.slice A k c) := (h5.cell 256).trans (cells4_256 _ _ _ _)
  have hsz : (W5.setCell ⟨h, 256, none⟩ (.slice A5 (k + 1) c5)).heap.size = W5.heap.size := by simp [World.setCell]
  refine ⟨e5, h5.frozen 256, _, _, rfl, rfl, ?_, ?_, ?_, hsz, ?_, fun v l hv => ((hv.grown hownb hT8 hg).set h5 (by decide) 256 _).next (below_sb _ _)⟩
  · have h6 := h5.set 256 (.slice A5 (k + 1) c5)
    rw [cells4_tr] at h6
    exact h6.next (below_sb _ _)
  · have h6 : (W5.setCell ⟨h, 256, none⟩ (.slice A5 (k + 1) c5)).ownsRow base T 1 (.slice A5 (k + 1) c5) (k + 1) xs := ownsRow_setCell_other hown (a := ⟨h, 256, none⟩) (fun hh => blk_neL h5 hown hT hh.symm) _
    exact own_next h6 (below_sb _ _)
  · exact (hbel.setCell hwh _).trans ((below_sb _ _).mono (by rw [hsz]; exact hbel.size))
  · intro cp
    have := SlB.new (W5.setCell ⟨h, 256, none⟩ (.slice A5 (k + 1) c5)) s cp
    rw [hsz] at this
    exact this

theorem conv_byte (w : World) (x : Nat) (_hx : x < 256) : (convert 76 9 (.slice (some ⟨w.heap.size, 0, none⟩) 1 1)).run Tryz.prog (w.alloc (.cells #[.int .u8 (x : Nat)] 5)) = .ok (.string ⟨#[UInt8.ofNat x]⟩) (w.alloc (.cells #[.int .u8 (x : Nat)] 5)) := by
  have hk : Blk (w.alloc (.cells #[.int .u8 (x : Nat)] 5)) w.heap.size 5 #[.int .u8 (x : Nat)] := Blk.new _ _ _
  have := run_convert_bytes_arg (P := Tryz.prog) (w.alloc (.cells #[.int .u8 (x : Nat)] 5)) 76 5 Tryz.underlying76 Tryz.underlying5 w.heap.size 0 1 1 [(x : Int)] rfl (fun i hi => by
    obtain rfl : i = 0 := by omega
    exact hk.cell 0) 9 Tryz.underlying9
  exact this
set_option maxRecDepth 1000000 in
set_option maxHeartbeats 8000000 in
theorem rbuild_any (g o c : Nat) (w : World) (h4 : w.cell? ⟨g, 4, none⟩ = some (.slice (some ⟨o, 0, none⟩) 6 c))
    (k0 : w.cell? ⟨o, 0, none⟩ = some (.string ⟨#[92]⟩)) (k1 : w.cell? ⟨o, 1, none⟩ = some (.string ⟨#[92, 92]⟩)) (k2 : w.cell? ⟨o, 2, none⟩ = some (.string ⟨#[34]⟩))
    (k3 : w.cell? ⟨o, 3, none⟩ = some (.string ⟨#[92, 34]⟩)) (k4 : w.cell? ⟨o, 4, none⟩ = some (.string ⟨#[10]⟩)) (k5 : w.cell? ⟨o, 5, none⟩ = some (.string ⟨#[92, 110]⟩)) :
    Calls Tryz.prog 160 #[.pointer (some ⟨g, 0, none⟩)] w (R1 (.iface 282 (.pointer (some ⟨w.heap.size + 1, 0, none⟩))) (RpSt w (w.heap.size + 1) 3)) := by
  have hmk : ∀ w : World, (Instr.makeSlice 104 (.int .i64 0) (.int .i64 3)).run Tryz.prog w = .ok (.slice (some ⟨w.heap.size, 0, none⟩) 0 3) (w.alloc (.cells #[.string ⟨#[]⟩, .string ⟨#[]⟩, .string ⟨#[]⟩] 9)) := fun _ => by kernel_rfl
  obtain ⟨W0, hW0⟩ : ∃ W0, w.alloc (.cells #[.string ⟨#[]⟩, .string ⟨#[]⟩, .string ⟨#[]⟩] 9) = W0 := ⟨_, rfl⟩
  have hs0 : W0.heap.size = w.heap.size + 1 := by rw [← hW0]; simp
  have hb0 : Below w.heap.size w W0 := by rw [← hW0]; exact one_allocP w _
  have hown0 : W0.ownsRow w.heap.size 9 1 (.slice (some ⟨w.heap.size, 0, none⟩) 0 3) 0 [] := by rw [← hW0]; exact World.ownsRow_made (base := w.heap.size) w #[.string ⟨#[]⟩, .string ⟨#[]⟩, .string ⟨#[]⟩] 3 (Nat.le_refl _) (by decide) rfl
  obtain ⟨W1, hst, hB1, hb1, hs1⟩ := run_store130 W0 (.slice (some ⟨w.heap.size, 0, none⟩) 0 3) rfl
  have hown1 := own_next hown0 hb1
  have hb01 := bnext hb0 hb1
  have hst2 : (RpSt w (w.heap.size + 1) 0 W1) := ⟨some ⟨w.heap.size, 0, none⟩, 3, nilV, nilV, nilV, by rw [← hs0]; exact hB1, hown1, hb01, by omega, fun _ => rfl, fun h => absurd h (by decide), fun _ => rfl, fun h => absurd h (by decide), fun _ => rfl, fun h => absurd h (by decide)⟩
  rw [hs0] at hst
  have HW0 := Lib.hid hW0
  have Hst2 := Lib.hid hst2
  clear hW0 hb0 hown0 hB1 hb1 hs1 hown1 hb01 hst2 hs0
  go_enter Tryz.func160, Tryz.ntmps160
  go_wp2_with fail
  go_loop [4, 5] (fun b i => (b = .bool true ∧ i = .int .i64 0) ∨ (b = .bool false ∧ (i = .int .i64 2 ∨ i = .int .i64 4 ∨ i = .int .i64 6))) (fun _ i => 6 - (intOf i).toNat)
  case atStart => exact .inl ⟨rfl, rfl⟩
  case round =>
    rcases hrel with ⟨rfl, rfl⟩ | ⟨rfl, rfl | rfl | rfl⟩
    · go_wp2_with fail
      go_round
      case rel => exact .inr ⟨rfl, .inl rfl⟩
      case measure => simp [intOf]
    · go_wp2_with fail
      go_round
      case rel => exact .inr ⟨rfl, .inr (.inl rfl)⟩
      case measure => simp [intOf]
    · go_wp2_with fail
      go_round
      case rel => exact .inr ⟨rfl, .inr (.inr rfl)⟩
      case measure => simp [intOf]
    · go_wp2_with fail
      rw [HW0.out]
      rw [hst]
      go_wp2_with fail
      have hold : ∀ (W' : World), Below w.heap.size w W' → ∀ (j : Nat) (v : Value), w.cell? ⟨o, j, none⟩ = some v → W'.cell? ⟨o, j, none⟩ = some v := fun W' hb j v h => (hb.cell (p := ⟨o, j, none⟩) (World.block_lt_of_cell? w ⟨o, j, none⟩ h)).trans h
      have K0 := Lib.hid k0
      have hcv := fun (w : World) (s : ByteArray) => Lib.run_convert_string_bytes (P := Tryz.prog) w 9 76 5 s Tryz.underlying9 Tryz.underlying76 Tryz.underlying5
      have hq := fun (w : World) (a : Option Addr) (n c n' c' : Nat) => Lib.run_eql_slice_nil (P := Tryz.prog) w 76 5 a n c n' c' Tryz.underlying76
      go_loopw [12] (fun iv wr => (iv = .int .i64 4 ∧ Hid (RpSt w (w.heap.size + 1) 0 wr)) ∨ (iv = .int .i64 2 ∧ Hid (RpSt w (w.heap.size + 1) 1 wr)) ∨ (iv = .int .i64 0 ∧ Hid (RpSt w (w.heap.size + 1) 2 wr)) ∨ (iv = .int .i64 (-2) ∧ Hid (RpSt w (w.heap.size + 1) 3 wr))) (fun iv _ => (intOf iv + 10).toNat)
      case atStart => exact .inl ⟨rfl, Hst2⟩
      case round =>
        rcases hrel with ⟨rfl, hst⟩ | ⟨rfl, hst⟩ | ⟨rfl, hst⟩ | ⟨rfl, hst⟩
        · obtain ⟨A, c', a, b, d, hB, hown, hbel, hwh, q1, q2, q3, q4, q5, q6⟩ := hst.out
          have ha := q1 rfl
          have hb := q3 (by decide)
          have hd := q5 (by decide)
          subst ha hb hd
          clear q1 q2 q3 q4 q5 q6
          have hne := blk_neL hB hown (by decide)
          have hbs := hbel.size
          have i0 : wr.cell? ⟨o, 4, none⟩ = some (.string ⟨#[10]⟩) := hold wr hbel 4 _ k4
          have i1 : wr.cell? ⟨o, 5, none⟩ = some (.string ⟨#[92, 110]⟩) := hold wr hbel 5 _ k5
          have z0 : wr.cell? ⟨w.heap.size + 1, 10, none⟩ = some (.slice none 0 0) := (hB.cell 10).trans (cells4_10 _ _ _ _)
          have z1 : wr.cell? ⟨w.heap.size + 1, 256, none⟩ = some (.slice A 0 c') := (hB.cell 256).trans (cells4_256 _ _ _ _)
          have hc1 : (convert 76 9 (.slice (some ⟨wr.heap.size, 0, none⟩) 1 1)).run Tryz.prog (wr.alloc (.cells #[.int .u8 10] 5)) = .ok (.string ⟨#[10]⟩) (wr.alloc (.cells #[.int .u8 10] 5)) := conv_byte wr 10 (by decide)
          have hx : ((⟨#[10]⟩ : ByteArray)[0]'(by decide)).toNat = 10 := rfl
          have hB2 : Blk (wr.alloc (.cells #[.int .u8 10] 5)) (w.heap.size + 1) 281 (cells4 (.slice A 0 c') nilV nilV nilV) := hB.alloc _
          have hown2 : (wr.alloc (.cells #[.int .u8 10] 5)).ownsRow w.heap.size 9 1 (.slice A 0 c') 0 (strCs (trL 0)) := hown.alloc _
          have hk2 : ∀ v l, SlB wr v l → SlB (wr.alloc (.cells #[.int .u8 10] 5)) v l := fun v l hv => hv.next (one_allocP wr _)
          have hA1 : Below w.heap.size w (wr.alloc (.cells #[.int .u8 10] 5)) := hbel.alloc hbs _
          have Hst := Lib.hid hst
          clear hst
          go_wp2_with (at_builtin; refine wpList_append1 rfl _ _ _ rfl elStrL (v := .slice A 0 c') rfl hown2 (g := wr.heap.size + 1) rfl (by simp) rfl ?_ ?c1 ?c2 ?c3 ?c4; intro A5 c5 w5 hown5 hgrow5 hbel5; obtain ⟨p1, p2, W6, W7, e6, e7, hB7, hown7, hbel7, hs6, hslb7, hkeep7'⟩ := rp_step (w := w) hB2 hne hgrow5 hown2 (by decide) hown5 (by decide) (hA1.trans hbel5) (Nat.le_succ _) ⟨#[92, 110]⟩; have hkeep7 := fun v l hv => hkeep7' v l (hk2 v l hv); have yx : (Lib.bytesWorld (w5.setCell ⟨w.heap.size + 1, 256, none⟩ (.slice A5 1 c5)) 5 ⟨#[92, 110]⟩).cell? ⟨w.heap.size + 1, 10, none⟩ = some (.slice none 0 0) := by { rw [e6, e7]; exact (hB7.cell 10).trans (cells4_10 _ _ _ _) }; have fx : (Lib.bytesWorld (w5.setCell ⟨w.heap.size + 1, 256, none⟩ (.slice A5 1 c5)) 5 ⟨#[92, 110]⟩).frozen? ⟨w.heap.size + 1, 10, none⟩ = false := by { rw [e6, e7]; exact hB7.frozen 10 }; have E6 := Lib.hid e6; have E7 := Lib.hid e7; clear e6 e7 hkeep7')
          case c1 => first | (intro u hu; simp at hu; subst hu; rfl) | rfl
          case c3 => decide
          case c4 => simp; omega
          try (case c2 => decide)
          have hB8 := hB7.set 10 (.slice (some ⟨w5.heap.size, 0, none⟩) 2 (grownCap W6 2 0 5))
          rw [cells4_a] at hB8
          rw [E6.out, E7.out]
          refine ⟨.inr (.inl ⟨rfl, Lib.hid ⟨A5, c5, _, _, _, hB8, ownsRow_setCell_other hown7 (a := ⟨w.heap.size + 1, 10, none⟩) (fun hh => blk_neL hB7 hown7 (by decide) hh.symm) _, hbel7.setCell (Nat.le_succ _) _, Nat.le_succ _, (fun h => absurd h (by decide)), (fun _ => ((hslb7 _).set hB7 (by decide) 10 _)), (fun _ => rfl), (fun h => absurd h (by decide)), (fun _ => rfl), (fun h => absurd h (by decide))⟩⟩), by decide⟩
        · obtain ⟨A, c', a, b, d, hB, hown, hbel, hwh, q1, q2, q3, q4, q5, q6⟩ := hst.out
          have sa := q2 (by decide)
          have hb := q3 (by decide)
          have hd := q5 (by decide)
          subst hb hd
          clear q1 q2 q3 q4 q5 q6
          have hne := blk_neL hB hown (by decide)
          have hbs := hbel.size
          have i0 : wr.cell? ⟨o, 2, none⟩ = some (.string ⟨#[34]⟩) := hold wr hbel 2 _ k2
          have i1 : wr.cell? ⟨o, 3, none⟩ = some (.string ⟨#[92, 34]⟩) := hold wr hbel 3 _ k3
          have z0 : wr.cell? ⟨w.heap.size + 1, 34, none⟩ = some (.slice none 0 0) := (hB.cell 34).trans (cells4_34 _ _ _ _)
          have z1 : wr.cell? ⟨w.heap.size + 1, 256, none⟩ = some (.slice A 1 c') := (hB.cell 256).trans (cells4_256 _ _ _ _)
          have hc1 : (convert 76 9 (.slice (some ⟨wr.heap.size, 0, none⟩) 1 1)).run Tryz.prog (wr.alloc (.cells #[.int .u8 34] 5)) = .ok (.string ⟨#[34]⟩) (wr.alloc (.cells #[.int .u8 34] 5)) := conv_byte wr 34 (by decide)
          have hx : ((⟨#[34]⟩ : ByteArray)[0]'(by decide)).toNat = 34 := rfl
          have hB2 : Blk (wr.alloc (.cells #[.int .u8 34] 5)) (w.heap.size + 1) 281 (cells4 (.slice A 1 c') a nilV nilV) := hB.alloc _
          have hown2 : (wr.alloc (.cells #[.int .u8 34] 5)).ownsRow w.heap.size 9 1 (.slice A 1 c') 1 (strCs (trL 1)) := hown.alloc _
          have hk2 : ∀ v l, SlB wr v l → SlB (wr.alloc (.cells #[.int .u8 34] 5)) v l := fun v l hv => hv.next (one_allocP wr _)
          have hA1 : Below w.heap.size w (wr.alloc (.cells #[.int .u8 34] 5)) := hbel.alloc hbs _
          have Hst := Lib.hid hst
          clear hst
          go_wp2_with (at_builtin; refine wpList_append1 rfl _ _ _ rfl elStrL (v := .slice A 1 c') rfl hown2 (g := wr.heap.size + 1) rfl (by simp) rfl ?_ ?c1 ?c2 ?c3 ?c4; intro A5 c5 w5 hown5 hgrow5 hbel5; obtain ⟨p1, p2, W6, W7, e6, e7, hB7, hown7, hbel7, hs6, hslb7, hkeep7'⟩ := rp_step (w := w) hB2 hne hgrow5 hown2 (by decide) hown5 (by decide) (hA1.trans hbel5) (Nat.le_succ _) ⟨#[92, 34]⟩; have hkeep7 := fun v l hv => hkeep7' v l (hk2 v l hv); have sa7 := hkeep7 _ _ sa; have yx : (Lib.bytesWorld (w5.setCell ⟨w.heap.size + 1, 256, none⟩ (.slice A5 2 c5)) 5 ⟨#[92, 34]⟩).cell? ⟨w.heap.size + 1, 34, none⟩ = some (.slice none 0 0) := by { rw [e6, e7]; exact (hB7.cell 34).trans (cells4_34 _ _ _ _) }; have fx : (Lib.bytesWorld (w5.setCell ⟨w.heap.size + 1, 256, none⟩ (.slice A5 2 c5)) 5 ⟨#[92, 34]⟩).frozen? ⟨w.heap.size + 1, 34, none⟩ = false := by { rw [e6, e7]; exact hB7.frozen 34 }; have E6 := Lib.hid e6; have E7 := Lib.hid e7; clear e6 e7 hkeep7')
          case c1 => first | (intro u hu; simp at hu; subst hu; rfl) | rfl
          case c3 => decide
          case c4 => simp; omega
          try (case c2 => decide)
          have hB8 := hB7.set 34 (.slice (some ⟨w5.heap.size, 0, none⟩) 2 (grownCap W6 2 0 5))
          rw [cells4_b] at hB8
          rw [E6.out, E7.out]
          refine ⟨.inr (.inr (.inl ⟨rfl, Lib.hid ⟨A5, c5, _, _, _, hB8, ownsRow_setCell_other hown7 (a := ⟨w.heap.size + 1, 34, none⟩) (fun hh => blk_neL hB7 hown7 (by decide) hh.symm) _, hbel7.setCell (Nat.le_succ _) _, Nat.le_succ _, (fun h => absurd h (by decide)), (fun _ => (sa7.set hB7 (by decide) 34 _)), (fun h => absurd h (by decide)), (fun _ => ((hslb7 _).set hB7 (by decide) 34 _)), (fun _ => rfl), (fun h => absurd h (by decide))⟩⟩)), by decide⟩
        · obtain ⟨A, c', a, b, d, hB, hown, hbel, hwh, q1, q2, q3, q4, q5, q6⟩ := hst.out
          have sa := q2 (by decide)
          have sb' := q4 (by decide)
          have hd := q5 (by decide)
          subst hd
          clear q1 q2 q3 q4 q5 q6
          have hne := blk_neL hB hown (by decide)
          have hbs := hbel.size
          have i0 : wr.cell? ⟨o, 0, none⟩ = some (.string ⟨#[92]⟩) := hold wr hbel 0 _ k0
          have i1 : wr.cell? ⟨o, 1, none⟩ = some (.string ⟨#[92, 92]⟩) := hold wr hbel 1 _ k1
          have z0 : wr.cell? ⟨w.heap.size + 1, 92, none⟩ = some (.slice none 0 0) := (hB.cell 92).trans (cells4_92 _ _ _ _)
          have z1 : wr.cell? ⟨w.heap.size + 1, 256, none⟩ = some (.slice A 2 c') := (hB.cell 256).trans (cells4_256 _ _ _ _)
          have hc1 : (convert 76 9 (.slice (some ⟨wr.heap.size, 0, none⟩) 1 1)).run Tryz.prog (wr.alloc (.cells #[.int .u8 92] 5)) = .ok (.string ⟨#[92]⟩) (wr.alloc (.cells #[.int .u8 92] 5)) := conv_byte wr 92 (by decide)
          have hx : ((⟨#[92]⟩ : ByteArray)[0]'(by decide)).toNat = 92 := rfl
          have hB2 : Blk (wr.alloc (.cells #[.int .u8 92] 5)) (w.heap.size + 1) 281 (cells4 (.slice A 2 c') a b nilV) := hB.alloc _
          have hown2 : (wr.alloc (.cells #[.int .u8 92] 5)).ownsRow w.heap.size 9 1 (.slice A 2 c') 2 (strCs (trL 2)) := hown.alloc _
          have hk2 : ∀ v l, SlB wr v l → SlB (wr.alloc (.cells #[.int .u8 92] 5)) v l := fun v l hv => hv.next (one_allocP wr _)
          have hA1 : Below w.heap.size w (wr.alloc (.cells #[.int .u8 92] 5)) := hbel.alloc hbs _
          have Hst := Lib.hid hst
          clear hst
          go_wp2_with (at_builtin; refine wpList_append1 rfl _ _ _ rfl elStrL (v := .slice A 2 c') rfl hown2 (g := wr.heap.size + 1) rfl (by simp) rfl ?_ ?c1 ?c2 ?c3 ?c4; intro A5 c5 w5 hown5 hgrow5 hbel5; obtain ⟨p1, p2, W6, W7, e6, e7, hB7, hown7, hbel7, hs6, hslb7, hkeep7'⟩ := rp_step (w := w) hB2 hne hgrow5 hown2 (by decide) hown5 (by decide) (hA1.trans hbel5) (Nat.le_succ _) ⟨#[92, 92]⟩; have hkeep7 := fun v l hv => hkeep7' v l (hk2 v l hv); have sa7 := hkeep7 _ _ sa; have sb7 := hkeep7 _ _ sb'; have yx : (Lib.bytesWorld (w5.setCell ⟨w.heap.size + 1, 256, none⟩ (.slice A5 3 c5)) 5 ⟨#[92, 92]⟩).cell? ⟨w.heap.size + 1, 92, none⟩ = some (.slice none 0 0) := by { rw [e6, e7]; exact (hB7.cell 92).trans (cells4_92 _ _ _ _) }; have fx : (Lib.bytesWorld (w5.setCell ⟨w.heap.size + 1, 256, none⟩ (.slice A5 3 c5)) 5 ⟨#[92, 92]⟩).frozen? ⟨w.heap.size + 1, 92, none⟩ = false := by { rw [e6, e7]; exact hB7.frozen 92 }; have E6 := Lib.hid e6; have E7 := Lib.hid e7; clear e6 e7 hkeep7')
          case c1 => first | (intro u hu; simp at hu; subst hu; rfl) | rfl
          case c3 => decide
          case c4 => simp; omega
          try (case c2 => decide)
          have hB8 := hB7.set 92 (.slice (some ⟨w5.heap.size, 0, none⟩) 2 (grownCap W6 2 0 5))
          rw [cells4_d] at hB8
          rw [E6.out, E7.out]
          refine ⟨.inr (.inr (.inr ⟨rfl, Lib.hid ⟨A5, c5, _, _, _, hB8, ownsRow_setCell_other hown7 (a := ⟨w.heap.size + 1, 92, none⟩) (fun hh => blk_neL hB7 hown7 (by decide) hh.symm) _, hbel7.setCell (Nat.le_succ _) _, Nat.le_succ _, (fun h => absurd h (by decide)), (fun _ => (sa7.set hB7 (by decide) 92 _)), (fun h => absurd h (by decide)), (fun _ => (sb7.set hB7 (by decide) 92 _)), (fun h => absurd h (by decide)), (fun _ => ((hslb7 _).set hB7 (by decide) 92 _))⟩⟩)), by decide⟩
        · go_wp2_with fail
          go_ret
          exact R1.mk rfl hst.out
end Go.Proofs.YtihjgbhnlejhfaaGreatDoor
namespace Go.Proofs.YtihjgbhnlejhfaaGreatDoor
open Go.RowKit

/-- label's pairs, in the order of the call -/
def rpPairs : List ByteArray := [⟨#[92]⟩, ⟨#[92, 92]⟩, ⟨#[34]⟩, ⟨#[92, 34]⟩, ⟨#[10]⟩, ⟨#[92, 110]⟩]
theorem strCs_len1 (l : List ByteArray) : (strCs l).length = l.length := by
  have := flat_len (f := strC) (C := 1) (fun _ => rfl) l
  rw [Nat.mul_one] at this
  exact this
theorem strCs_oneL (l : List ByteArray) : ∀ u ∈ strCs l, u.oneCell' = true := by
  intro u hu
  unfold strCs at hu
  obtain ⟨x, _, h⟩ := List.mem_flatMap.1 hu
  simp [strC] at h
  subst h; rfl
/-- what NewReplacer makes -/
def NewRP (w : World) (v : Value) (w' : World) : Prop :=
  ∃ g o c, v = .pointer (some ⟨g, 0, none⟩) ∧ w.heap.size ≤ g ∧ w.heap.size ≤ o ∧ o ≠ g ∧ Blk w' g 233 #[.int .u32 0, .int .i32 0, .int .u32 0, .nilIface, .slice (some ⟨o, 0, none⟩) 6 c] ∧ w'.ownsRow w.heap.size 9 1 (.slice (some ⟨o, 0, none⟩) 6 c) 6 (strCs rpPairs) ∧ Below w.heap.size w w'
set_option maxRecDepth 1000000 in
set_option maxHeartbeats 4000000 in
theorem newReplacer_any (A : Option Addr) (c : Nat) (w : World) (h : Has w w.heap.size A (strCs rpPairs)) :
    Calls Tryz.prog 115 #[.slice A 6 c] w (RV (NewRP w)) := by
  go_enter Tryz.func115, Tryz.ntmps115
  go_wp2_with (at_builtin; refine wpList_spread rfl _ _ _ rfl elStrL rfl (World.ownsRow_nil w w.heap.size 9 1) rfl h ?_ ?c1 ?c2 ?c3 ?c4 ?c5; intro A' c' w1 hown hgrow hbel)
  case c1 => rfl
  case c2 => exact strCs_oneL _
  case c3 => decide
  case c4 => decide
  case c5 => exact Nat.le_refl _
  obtain ⟨o, cap, ev, ho1, ho2⟩ := hown.form (by decide)
  injection ev with e1 _ e3
  subst e1 e3
  go_ret
  refine RV.mk ⟨w1.heap.size, o, c', rfl, hbel.size, ho1, by omega, Blk.new _ _ _, ?_, hbel.trans ((one_allocP w1 _).mono hbel.size)⟩
  exact own_next hown (one_allocP w1 _)

/-- the replacer when it is built -/
def RpAt (w : World) (g h : Nat) (W : World) : Prop :=
  ∃ A c a b d, W.cell? ⟨g, 3, none⟩ = some (.iface 282 (.pointer (some ⟨h, 0, none⟩))) ∧ Blk W h 281 (cells4 (.slice A 3 c) a b d) ∧ Has W W.heap.size A (strCs (trL 3)) ∧ SlB W a [92, 110] ∧ SlB W b [92, 34] ∧ SlB W d [92, 92] ∧ Below w.heap.size w W
/-- between the lock's ends -/
def RpMid (w : World) (g h : Nat) (u v : Value) (W : World) : Prop :=
  Blk W g 233 #[u, v, .int .u32 0, .iface 282 (.pointer (some ⟨h, 0, none⟩)), .slice none 0 0] ∧ ∃ A c a b d, Blk W h 281 (cells4 (.slice A 3 c) a b d) ∧ W.ownsRow w.heap.size 9 1 (.slice A 3 c) 3 (strCs (trL 3)) ∧ SlB W a [92, 110] ∧ SlB W b [92, 34] ∧ SlB W d [92, 92] ∧ Below w.heap.size w W
theorem RpMid.set {w W : World} {g h : Nat} {u v : Value} (hm : RpMid w g h u v W) (hg : w.heap.size ≤ g) (hgh : g ≠ h) (i : Nat) (x : Value) {u' v' : Value} (he : (#[u, v, .int .u32 0, .iface 282 (.pointer (some ⟨h, 0, none⟩)), .slice none 0 0] : Array Value).setIfInBounds i x = #[u', v', .int .u32 0, .iface 282 (.pointer (some ⟨h, 0, none⟩)), .slice none 0 0]) :
    RpMid w g h u' v' (W.setCell ⟨g, i, none⟩ x) := by
  obtain ⟨hB, A, c, a, b, d, h1, h2, h3, h4, h5, h6⟩ := hm
  refine ⟨by rw [← he]; exact hB.set i x, A, c, a, b, d, (Below.heap_setCell _ ⟨g, i, none⟩ _ h (fun e => hgh e.symm)).trans h1, ownsRow_setCell_other h2 (a := ⟨g, i, none⟩) (fun hh => blk_neL hB h2 (by decide) hh.symm) _, h3.set hB (by decide) _ _, h4.set hB (by decide) _ _, h5.set hB (by decide) _ _, h6.setCell hg _⟩
theorem RpMid.drew {w W : World} {g h : Nat} {u v : Value} (hm : RpMid w g h u v W) : RpMid w g h u v W.drew := by
  obtain ⟨hB, A, c, a, b, d, h1, h2, h3, h4, h5, h6⟩ := hm
  exact ⟨hB, A, c, a, b, d, h1, own_drewN h2 1, h3, h4, h5, below_drewN h6 1⟩

set_option maxRecDepth 1000000 in
set_option maxHeartbeats 4000000 in
theorem rbuildOnce_any (g o c : Nat) (w0 w : World) (hb0 : Below w0.heap.size w0 w) (hg : w0.heap.size ≤ g) (_ho : w0.heap.size ≤ o) (hB : Blk w g 233 #[.int .u32 0, .int .i32 1, .int .u32 0, .nilIface, .slice (some ⟨o, 0, none⟩) 6 c])
    (hown : w.ownsRow w0.heap.size 9 1 (.slice (some ⟨o, 0, none⟩) 6 c) 6 (strCs rpPairs)) :
    Calls Tryz.prog 142 #[.pointer (some ⟨g, 0, none⟩)] w fun e w' => e = .returned (.tuple #[]) ∧ RpMid w0 g (w.heap.size + 1) (.int .u32 0) (.int .i32 1) w' := by
  have hk : ∀ j u, (strCs rpPairs)[j]? = some u → w.cell? ⟨o, j, none⟩ = some u := fun j u hj => by
    rw [hown.cellAt j (by have := (List.getElem?_eq_some_iff.1 hj).1; exact this)]
    exact hj
  have HBu := Lib.hid (rbuild_any g o c w (hB.cell 4) (hk 0 _ rfl) (hk 1 _ rfl) (hk 2 _ rfl) (hk 3 _ rfl) (hk 4 _ rfl) (hk 5 _ rfl))
  have HB := Lib.hid hB
  have hgl := hB.lt
  clear hk hown hB
  go_enter Tryz.func142, Tryz.ntmps142
  go_wp2_with fail
  refine HBu.out.mono ?_
  rintro e w1 ⟨rfl, A, c', a, b, d, hB1, hown1, hbel1, _, _, q2, _, q4, _, q6⟩
  have hg1 := HB.out.below hbel1 hgl
  have y3 : w1.cell? ⟨g, 3, none⟩ = some .nilIface := hg1.cell 3
  have y4 : w1.cell? ⟨g, 4, none⟩ = some (.slice (some ⟨o, 0, none⟩) 6 c) := hg1.cell 4
  have z3 : w1.frozen? ⟨g, 3, none⟩ = false := hg1.frozen 3
  have z4 : w1.frozen? ⟨g, 4, none⟩ = false := hg1.frozen 4
  have hne : g ≠ w.heap.size + 1 := by omega
  have hs0 := hb0.size
  have hF := Lib.hid (show RpMid w0 g (w.heap.size + 1) (.int .u32 0) (.int .i32 1) ((w1.setCell ⟨g, 3, none⟩ (.iface 282 (.pointer (some ⟨w.heap.size + 1, 0, none⟩)))).setCell ⟨g, 4, none⟩ (.slice none 0 0)) from by
    have hB2 := hg1.set 3 (.iface 282 (.pointer (some ⟨w.heap.size + 1, 0, none⟩)))
    have hB3 := hB2.set 4 (.slice none 0 0)
    refine ⟨hB3, A, c', a, b, d, ?_, ?_, ?_, ?_, ?_, ?_⟩
    · exact (Below.heap_setCell _ ⟨g, 4, none⟩ _ _ (fun e => hne e.symm)).trans ((Below.heap_setCell _ ⟨g, 3, none⟩ _ _ (fun e => hne e.symm)).trans hB1)
    · have ho2 := ownsRow_setCell_other hown1 (a := ⟨g, 3, none⟩) (fun hh => blk_neL hg1 hown1 (by decide) hh.symm) (.iface 282 (.pointer (some ⟨w.heap.size + 1, 0, none⟩)))
      exact own_less (ownsRow_setCell_other ho2 (a := ⟨g, 4, none⟩) (fun hh => blk_neL hB2 ho2 (by decide) hh.symm) _) hs0
    · exact ((q2 (by decide)).set hg1 (by decide) _ _).set hB2 (by decide) _ _
    · exact ((q4 (by decide)).set hg1 (by decide) _ _).set hB2 (by decide) _ _
    · exact ((q6 (by decide)).set hg1 (by decide) _ _).set hB2 (by decide) _ _
    · exact ((hb0.trans (hbel1.mono hs0)).setCell hg _).setCell hg _)
  clear hB1 hown1 hbel1 q2 q4 q6 hg1
  go_wp2_with fail
  go_end0
  exact ⟨rfl, hF.out⟩
end Go.Proofs.YtihjgbhnlejhfaaGreatDoor
namespace Go.Proofs.YtihjgbhnlejhfaaGreatDoor
open Go.RowKit

theorem foLab : Tryz.prog.fieldsOf 85 = #[{ name := "Name", type := 9, offset := 0, embedded := false, tag := "", pkgPath := "", byteOffset := 0 }, { name := "Value", type := 9, offset := 1, embedded := false, tag := "", pkgPath := "", byteOffset := 16 }] := by kernel_rfl
theorem shLab : Tryz.prog.stoodInHeld 85 = false := by kernel_rfl
theorem egLab : Tryz.prog.eqGuardType Tryz.prog.depth 85 = false := by kernel_rfl
theorem unLab : Tryz.prog.underlying 85 = some (.struct (Tryz.prog.fieldsOf 85)) := by kernel_rfl
theorem toL_eq (a b : ByteArray) : a.toList = b.toList ↔ a = b := by
  constructor
  · exact bytes_ext
  · rintro rfl; rfl
theorem neqLab (w : World) (a b c d : ByteArray) : (binOp .neq 85 (.agg #[.string a, .string b]) (.agg #[.string c, .string d])).run Tryz.prog w = .ok (.bool (!(decide (a = c) && decide (b = d)))) w := by
  rw [run_neq_struct, run_equalIn_struct w 9999 85 _ _ unLab shLab, foLab]
  simp [Op.eqFields, go_sem]
  by_cases h1 : a = c <;> by_cases h2 : b = d <;> simp [h1, h2, toL_eq]
theorem guardLab (w : World) (op : BinOp) (x y : Operand) (xs ys : Array Value) : (eqGuard op 85 x y (.agg xs) (.agg ys)).run Tryz.prog w = .ok () w := run_eqGuard_agg w op _ x y xs ys egLab
set_option maxRecDepth 1000000 in
set_option maxHeartbeats 1000000 in
theorem equalLabN_any (A B : Option Addr) (n m c d : Nat) (l k : List Lab) (hn : l.length = n) (hm : k.length = m) (hl : n ≤ maxLen) (hk : m ≤ maxLen) (w : World) (h : Has w w.heap.size A (labCs l)) (h' : Has w w.heap.size B (labCs k)) :
    Calls Tryz.prog 41 #[.slice A n c, .slice B m d] w (R1 (.bool (decide (l = k))) (Drawn w)) := by
  unfold maxLen at hl hk
  have hq1 := neqLab
  have hq2 := guardLab
  by_cases hnm : n = m
  · subst hnm
    go_enter Tryz.func41, Tryz.ntmps41
    go_wp2
    go_loopw [13] (fun i wr => ∃ j : Nat, j ≤ n ∧ i = .int .i64 (j : Nat) ∧ Hid (∀ q, q < j → at_ l q = at_ k q) ∧ Drawn w wr) (fun i _ => n - (intOf i).toNat)
    case atStart => exact ⟨0, by omega, rfl, Lib.hid (fun q hq => by omega), Drawn.refl _⟩
    case round =>
      obtain ⟨j, hj, rfl, heq, nd, rfl⟩ := hrel
      by_cases hlt : (j : Int) < (n : Int)
      · obtain ⟨ad, rfl, _, c1⟩ := h.at (labCs_0 (show j < l.length by omega))
        obtain ⟨ad', e, _, c2⟩ := h.at (labCs_1 (show j < l.length by omega))
        injection e with e
        subst e
        obtain ⟨bd, rfl, _, c3⟩ := h'.at (labCs_0 (show j < k.length by omega))
        obtain ⟨bd', e, _, c4⟩ := h'.at (labCs_1 (show j < k.length by omega))
        injection e with e
        subst e
        have c2 := cell_off c2 (by decide)
        have c4 := cell_off c4 (by decide)
        have q1 : (0 : Int) ≤ (j : Int) := by omega
        by_cases e : at_ l j = at_ k j
        · have f1 : (!(decide ((at_ l j).nm = (at_ k j).nm) && decide ((at_ l j).v = (at_ k j).v))) = false := by rw [e]; simp
          have E := Lib.hid e; clear e
          go_wp2
          go_quiet (fail)
          go_wp2
          go_roundw
          case rel => exact ⟨j + 1, by omega, by go_num, Lib.hid (fun q hq => by rcases Nat.lt_or_ge q j with h1 | h1; exact heq.out q h1; rw [show q = j by omega]; exact E.out), _, rfl⟩
          case measure => simp [intOf]; omega
        · have f1 : (!(decide ((at_ l j).nm = (at_ k j).nm) && decide ((at_ l j).v = (at_ k j).v))) = true := by
            rw [Bool.not_eq_true']
            cases hb : (decide ((at_ l j).nm = (at_ k j).nm) && decide ((at_ l j).v = (at_ k j).v))
            · rfl
            · simp only [Bool.and_eq_true, decide_eq_true_eq] at hb
              exact absurd (by cases hx : at_ l j; cases hy : at_ k j; rw [hx, hy] at hb; simp at hb; simp [hb]) e
          have E := Lib.hid e; clear e
          go_wp2
          go_quiet (fail)
          go_wp2
          go_ret
          exact R1.mk (bool_eq (by rw [eq_comm, decide_eq_false_iff_not]; intro h1; exact E.out (by rw [h1]))) (Drawn.two _ _ _)
      · go_wp2
        go_ret
        exact R1.mk (bool_eq (by rw [eq_comm, decide_eq_true_iff]; exact eq_of_at (by omega) (fun i hi => heq.out i (by omega)))) ⟨_, rfl⟩
  · have f0 : ((n : Int) != (m : Int)) = true := by rw [bne_iff_ne]; omega
    have E := Lib.hid hnm; clear hnm
    go_enter Tryz.func41, Tryz.ntmps41
    go_wp2
    go_ret
    exact R1.mk (bool_eq (by rw [eq_comm, decide_eq_false_iff_not]; intro h1; exact E.out (by rw [← hn, ← hm, h1]))) (Drawn.refl _)

set_option maxRecDepth 1000000 in
theorem sameLabN_any (A B : Option Addr) (n m c d : Nat) (l k : List Lab) (hn : l.length = n) (hm : k.length = m) (hl : n ≤ maxLen) (hk : m ≤ maxLen) (w : World) (h : Has w w.heap.size A (labCs l)) (h' : Has w w.heap.size B (labCs k)) :
    Calls Tryz.prog 13 #[.slice A n c, .slice B m d] w (R1 (.bool (decide (l = k))) (Drawn w)) := by
  go_enter Tryz.func13, Tryz.ntmps13
  go_wp2_with fail
  refine (equalLabN_any A B n m c d l k hn hm hl hk _ (by exact h) (by exact h')).mono ?_
  rintro e w1 ⟨rfl, n1, rfl⟩
  go_wp2_with fail
  go_ret
  exact R1.mk rfl ⟨_, rfl⟩
end Go.Proofs.YtihjgbhnlejhfaaGreatDoor
namespace Go.Proofs.YtihjgbhnlejhfaaGreatDoor
open Go.RowKit Go.ChangeShapes Go.WideShapes Go.Deep

structure PutE where
  t : LbsE
  x : Smp
instance : Inhabited PutE := ⟨⟨⟨none, 0, []⟩, ⟨0, 0⟩⟩⟩
def putC (e : PutE) : List Value := [.slice e.t.A e.t.l.length e.t.c, .int .i64 e.x.t, .int .i64 e.x.v]
def putCs (l : List PutE) : List Value := l.flatMap putC
def PutE.good (w : World) (e : PutE) : Prop := LbsE.ok w e.t ∧ e.x.ok
section
variable {H : Type} {enc : TypeId × Value → H} {P : Program} {w : World} {base : Nat} {spare : Nat → Bool} {held : Bool}
theorem list3T {α : Type} {l : List α} (h : l.length = 3) : ∃ a b c, l = [a, b, c] := by
  match l, h with
  | [a, b, c], _ => exact ⟨a, b, c, rfl⟩
theorem elem_put {t lb : TypeId} {f0 f1 g0 g1 h0 h1 : Field} (hs : P.underlying t = some (.struct #[f0, f1])) (hl : P.underlying f0.type = some (.slice lb)) (hx : P.underlying f1.type = some (.struct #[g0, g1]))
    (i0 : P.underlying g0.type = some (.int .i64)) (i1 : P.underlying g1.type = some (.int .i64)) (hlb : P.underlying lb = some (.struct #[h0, h1])) (j0 : P.underlying h0.type = some .string) (j1 : P.underlying h1.type = some .string) (hone : oneCellFields P #[h0, h1] = true) (hone2 : oneCellFields P #[g0, g1] = true)
    (o : (f0.offset, f1.offset) = (0, 1)) (c : (P.cellsOf f0.type, P.cellsOf f1.type, P.cellsOf lb) = (1, 2, 2)) :
    ∀ n cs x, cs.length = 3 → DataW.trod enc P w base spare held n t cs = some x → ∃ el : PutE, cs = putC el ∧ el.good w := by
  intro n cs x hlen h
  obtain ⟨o0, o1⟩ : f0.offset = 0 ∧ f1.offset = 1 := by simpa using o
  obtain ⟨c0, c1, c2⟩ : P.cellsOf f0.type = 1 ∧ P.cellsOf f1.type = 2 ∧ P.cellsOf lb = 2 := by simpa using c
  obtain ⟨v0, v1, v2, rfl⟩ := list3T hlen
  obtain ⟨xs, m, _, _, _, hxl, hff⟩ := DataW.trod_struct hs h
  match xs, hxl with
  | [y0, y1], _ =>
    have t0 := hff 0 f0 rfl
    have t1 := hff 1 f1 rfl
    rw [o0, c0] at t0
    rw [o1, c1] at t1
    have t0 : DataW.trod enc P w base spare held m f0.type [v0] = some y0 := t0
    have t1 : DataW.trod enc P w base spare held m f1.type [v1, v2] = some y1 := t1
    obtain ⟨A, k, l, e1, e2, e3, e4, e5, e6, _⟩ := open_cells labC LabOk hl c2 (by omega) (fun _ => rfl) (elem_lab hlb j0 j1 hone) t0
    obtain ⟨s, e7, e8⟩ := elem_smp hx i0 i1 hone2 _ _ _ rfl t1
    refine ⟨⟨⟨A, k, l⟩, s⟩, ?_, ⟨e2, e3, e4, e5, e6⟩, e8⟩
    have e9 : v0 = .slice A l.length k := by injection e1
    have e10 : [v1, v2] = [.int .i64 s.t, .int .i64 s.v] := e7
    show v0 :: [v1, v2] = _
    rw [e9, e10]
    rfl
/-- a put, by value -/
theorem open_put {t lb : TypeId} {f0 f1 g0 g1 h0 h1 : Field} (hs : P.underlying t = some (.struct #[f0, f1])) (hl : P.underlying f0.type = some (.slice lb)) (hx : P.underlying f1.type = some (.struct #[g0, g1]))
    (i0 : P.underlying g0.type = some (.int .i64)) (i1 : P.underlying g1.type = some (.int .i64)) (hlb : P.underlying lb = some (.struct #[h0, h1])) (j0 : P.underlying h0.type = some .string) (j1 : P.underlying h1.type = some .string) (hone : oneCellFields P #[h0, h1] = true) (hone2 : oneCellFields P #[g0, g1] = true)
    (o : (f0.offset, f1.offset) = (0, 1)) (c : (P.cellsOf f0.type, P.cellsOf f1.type, P.cellsOf lb) = (1, 2, 2)) (hC : P.cellsOf t = 3)
    {r : Reach} {b0 : Nat} {v : Value} {d : DataW H} {p : List MemPlace} (hval : Value.okWide P w r b0 t v) (h : DataW.Trod enc P w base spare held t v d p) :
    ∃ e : PutE, v = .agg #[.slice e.t.A e.t.l.length e.t.c, .int .i64 e.x.t, .int .i64 e.x.v] ∧ e.good w := by
  obtain ⟨cs, rfl, hsz⟩ := okWide_struct hs hval
  obtain ⟨fuel, hf⟩ := h
  obtain ⟨l⟩ := cs
  obtain ⟨e, h2, h3⟩ := elem_put hs hl hx i0 i1 hlb j0 j1 hone hone2 o c fuel _ _ (by exact hsz.trans hC) hf
  have h2 : l = putC e := h2
  subst h2
  exact ⟨e, rfl, h3⟩
/-- puts -/
theorem open_puts {pt : TypeId} {t lb : TypeId} {f0 f1 g0 g1 h0 h1 : Field} (hs : P.underlying t = some (.struct #[f0, f1])) (hl : P.underlying f0.type = some (.slice lb)) (hx : P.underlying f1.type = some (.struct #[g0, g1]))
    (i0 : P.underlying g0.type = some (.int .i64)) (i1 : P.underlying g1.type = some (.int .i64)) (hlb : P.underlying lb = some (.struct #[h0, h1])) (j0 : P.underlying h0.type = some .string) (j1 : P.underlying h1.type = some .string) (hone : oneCellFields P #[h0, h1] = true) (hone2 : oneCellFields P #[g0, g1] = true)
    (o : (f0.offset, f1.offset) = (0, 1)) (c : (P.cellsOf f0.type, P.cellsOf f1.type, P.cellsOf lb) = (1, 2, 2)) (hC : P.cellsOf t = 3) (ht : P.underlying pt = some (.slice t)) (hB : P.bytesOf t = 40)
    {r : Reach} {b0 : Nat} {v : Value} {d : DataW H} {p : List MemPlace} (hval : Value.okWide P w r b0 pt v) (h : DataW.Trod enc P w base spare held pt v d p) (hsz : ∀ n ∈ d.weights P pt, n ≤ reachBytes) :
    ∃ (A : Option Addr) (k : Nat) (l : List PutE), v = .slice A l.length k ∧ (∀ e ∈ l, e.good w) ∧ l.length ≤ k ∧ k ≤ maxLen ∧ (A = none → k = 0) ∧ Has w w.heap.size A (putCs l) ∧ l.length * 40 ≤ 140737488351232 :=
  open_list putC (fun e => e.good w) ht hC hB (by omega) (fun _ => rfl) (elem_put hs hl hx i0 i1 hlb j0 j1 hone hone2 o c) hval h hsz
/-- a sample, by value -/
theorem open_smp {t : TypeId} {g0 g1 : Field} (hx : P.underlying t = some (.struct #[g0, g1])) (i0 : P.underlying g0.type = some (.int .i64)) (i1 : P.underlying g1.type = some (.int .i64)) (hone2 : oneCellFields P #[g0, g1] = true) (hC : P.cellsOf t = 2)
    {r : Reach} {b0 : Nat} {v : Value} {d : DataW H} {p : List MemPlace} (hval : Value.okWide P w r b0 t v) (h : DataW.Trod enc P w base spare held t v d p) :
    ∃ x : Smp, v = .agg #[.int .i64 x.t, .int .i64 x.v] ∧ x.ok := by
  obtain ⟨cs, rfl, hsz⟩ := okWide_struct hx hval
  obtain ⟨fuel, hf⟩ := h
  obtain ⟨l⟩ := cs
  obtain ⟨e, h2, h3⟩ := elem_smp hx i0 i1 hone2 fuel _ _ (by exact hsz.trans hC) hf
  have h2 : l = smpC e := h2
  subst h2
  exact ⟨e, rfl, h3⟩
end
end Go.Proofs.YtihjgbhnlejhfaaGreatDoor
