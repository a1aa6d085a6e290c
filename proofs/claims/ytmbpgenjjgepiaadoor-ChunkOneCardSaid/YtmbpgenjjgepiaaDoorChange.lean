
/- What change of package delta reads off bits. Conditions: the reader's cells are a block of their own; the table of widths lies in its cells. -/
import Derived.Test.YtmbpgenjjgepiaaDoorPackD
import Derived.Test.YtmbpgenjjgepiaaDoorTakeBits
namespace Go.Proofs.YtmbpgenjjgepiaaDoor
open Go.RowKit

def ones (bs : List Bool) : Nat → Nat × Bool → Nat × (Nat × Bool)
  | 0, s => (0, s)
  | f + 1, s => if (tk bs s 1).1 = 1 then ((ones bs f (tk bs s 1).2).1 + 1, (ones bs f (tk bs s 1).2).2) else (0, (tk bs s 1).2)
def sext (v n : Nat) : Int := wrap64 ((v : Int) * 2 ^ (64 - n)) / 2 ^ (64 - n)
theorem wrap_sext (v n : Nat) : wrap64 (IntKind.u64.wrap ((v : Int) * 2 ^ (64 - n))) / 2 ^ (64 - n) = sext v n := by
  unfold sext
  congr 1
  obtain ⟨x, hx⟩ : ∃ x : Int, (v : Int) * 2 ^ (64 - n) = x := ⟨_, rfl⟩
  rw [hx, IntKind.wrap_u64]
  unfold wrap64; omega
def chgD (bs : List Bool) (s : Nat × Bool) : Int × (Nat × Bool) :=
  if (ones bs 4 s).1 = 0 then (0, (ones bs 4 s).2) else (sext (tk bs (ones bs 4 s).2 (markOf (ones bs 4 s).1).2.2).1 (markOf (ones bs 4 s).1).2.2, (tk bs (ones bs 4 s).2 (markOf (ones bs 4 s).1).2.2).2)

theorem tab_row {w : World} (h : TabAt w) {k : Nat} (hk : k ≤ 4) : w.cell? ⟨0, k * 3 + 2, none⟩ = some (.int .i64 ((markOf k).2.2 : Nat)) := by
  unfold TabAt at h
  obtain ⟨_, _, h2, _, _, h5, _, _, h8, _, _, h11, _, _, h14⟩ := h
  rcases (show k = 0 ∨ k = 1 ∨ k = 2 ∨ k = 3 ∨ k = 4 by omega) with rfl | rfl | rfl | rfl | rfl
  · exact h2
  · exact h5
  · exact h8
  · exact h11
  · exact h14
theorem mark_n {k : Nat} (hk : k ≤ 4) : (k = 0 → (markOf k).2.2 = 0) ∧ (k ≠ 0 → 1 ≤ (markOf k).2.2) ∧ (markOf k).2.2 ≤ 64 := by
  rcases (show k = 0 ∨ k = 1 ∨ k = 2 ∨ k = 3 ∨ k = 4 by omega) with rfl | rfl | rfl | rfl | rfl <;> decide
theorem chg_none {bs : List Bool} {s q : Nat × Bool} (h : ones bs 4 s = (0, q)) : chgD bs s = (0, q) := by
  unfold chgD; rw [h]; rfl
theorem chg_some {bs : List Bool} {s q : Nat × Bool} {k : Nat} (h : ones bs 4 s = (k, q)) (hk : k ≠ 0) : chgD bs s = (sext (tk bs q (markOf k).2.2).1 (markOf k).2.2, (tk bs q (markOf k).2.2).2) := by
  unfold chgD; rw [h]; simp only; rw [if_neg hk]
theorem only_tab {g : Nat} {w w' : World} (ht : TabAt w) (hg : 0 < g) (hgl : g ≤ w.heap.size) (ho : Only g w w') : TabAt w' := ht.below hg (ho.below hgl (Nat.le_refl _))
def ChgP (g : Nat) (A : Option Addr) (c : Nat) (bs : List Bool) (r : Int × (Nat × Bool)) (w : World) (v : Value) (w' : World) : Prop := v = .int .i64 r.1 ∧ RdAt w' g A c bs r.2 ∧ Only g w w'

set_option maxRecDepth 1000000 in
set_option maxHeartbeats 2000000 in
theorem change_any (A : Option Addr) (c : Nat) (bs : List Bool) (s : Nat × Bool) (r : Int × (Nat × Bool)) (hr : chgD bs s = r) (g : Nat) (hg : 0 < g) (hp : s.1 ≤ bs.length) (hl : bs.length ≤ 1125899906842624) (w : World) (h : Has w g A (u8s (packB bs))) (hB : RdAt w g A c bs s) (ht : TabAt w) :
    Calls Tryd.prog 31 #[.pointer (some ⟨g, 0, none⟩)] w (RV (ChgP g A c bs r w)) := by
  have hgl := hB.lt
  have hB := Lib.hid hB
  have HT := Lib.hid ht; clear ht
  have Hr := Lib.hid hr; clear hr
  go_enter Tryd.func31, Tryd.ntmps31
  go_wp2_with fail
  go_loopw [3] (fun i wr => ∃ (j : Nat) (q : Nat × Bool), j ≤ 4 ∧ i = .int .i64 (j : Nat) ∧ q.1 ≤ bs.length ∧ Hid (ones bs 4 s = (j + (ones bs (4 - j) q).1, (ones bs (4 - j) q).2)) ∧ Hid (RdAt wr g A c bs q) ∧ Only g w wr) (fun i _ => 10 - (intOf i).toNat)
  case atStart => exact ⟨0, s, by omega, rfl, hp, Lib.hid (by simp), hB, Only.refl _ _⟩
  case round =>
    obtain ⟨j, q, hj, rfl, hq, ho, hR, hon⟩ := hrel
    have hbel : Below g w wr := hon.below (Nat.le_of_lt hgl) (Nat.le_refl _)
    have hH := Lib.hid (h.below hbel)
    rcases (show j = 4 ∨ j < 4 by omega) with rfl | hj4
    · have HO := Lib.hid (show ones bs 4 s = (4, q) by rw [ho.out]; rfl)
      have hn := mark_n (k := 4) (by omega)
      have c2 := tab_row (only_tab HT.out hg (Nat.le_of_lt hgl) hon) (k := 4) (by omega)
      obtain ⟨m, hm⟩ : ∃ m, (markOf 4).2.2 = m := ⟨_, rfl⟩
      rw [hm] at hn c2
      by_cases hk0 : 4 = 0
      · have hm0 : m = 0 := hn.1 hk0
        have hres := Lib.hid (Hr.out.symm.trans (chg_none (by rw [HO.out, hk0])))
        clear hn hm
        subst hm0
        have HK0 := Lib.hid hk0; clear hk0
        go_wp2_with fail
        go_ret
        rw [hres.out]
        exact RV.mk ⟨rfl, hR.out, hon⟩
      · have hm1 := hn.2.1 hk0
        have hm64 := hn.2.2
        have hres := Hr.out.symm.trans (chg_some HO.out hk0)
        rw [hm] at hres
        obtain ⟨⟨v2, q2⟩, hv2⟩ : ∃ r, tk bs q m = r := ⟨_, rfl⟩
        rw [hv2] at hres
        have hv2l : v2 < 18446744073709551616 := by have := tk_lt (bs := bs) (s := q) (n := m) hm64; rw [hv2] at this; exact this
        have hres := Lib.hid hres
        have Hv2 := Lib.hid hv2
        clear hn hm hv2
        have HK0 := Lib.hid hk0; clear hk0
        have fm : ((m : Int) == 0) = false := by rw [beq_eq_false_iff_ne]; omega
        have hHq := Lib.hid (h.below (hon.below (Nat.le_of_lt hgl) (Nat.le_refl _)))
        go_wp2_with fail
        refine (tk_any A c bs q m _ rfl (v2, q2) Hv2.out hm64 g hq hl _ (by exact hHq.out) (by exact hR.out)).mono ?_
        rintro e w2 ⟨v, rfl, rfl, hR2, hon2⟩
        have hR2 := Lib.hid hR2
        have hon3 := hon.trans hon2
        have e1 : IntKind.i64.wrap (64 - (m : Int)) = 64 - (m : Int) := IntWalk.i64_in _ (by omega)
        have e2 : (0 : Int) ≤ 64 - (m : Int) := by omega
        have e3 : (64 - (m : Int)).toNat = 64 - m := by omega
        go_wp2_with fail
        go_ret
        rw [hres.out]
        exact RV.mk ⟨int_eq (wrap_sext v2 m), hR2.out, hon3⟩
    · have f1 : decide ((j : Int) < 4) = true := by rw [decide_eq_true_iff]; omega
      obtain ⟨⟨v1, q1⟩, hv1⟩ : ∃ r, tk bs q 1 = r := ⟨_, rfl⟩
      have Hv := Lib.hid hv1
      have hq1 : q1.1 ≤ bs.length := by have := tk_le (bs := bs) (s := q) (n := 1); rw [hv1] at this; exact this
      clear hv1
      go_wp2_with fail
      refine (tk_any A c bs q 1 _ rfl (v1, q1) Hv.out (by omega) g hq hl _ (by exact hH.out) (by exact hR.out)).mono ?_
      rintro e w1 ⟨v, rfl, rfl, hR1, hon1⟩
      have hR1 := Lib.hid hR1
      by_cases h1 : v1 = 1
      · have f2 : ((v1 : Int) == 1) = true := by rw [beq_iff_eq]; omega
        go_wp2_with fail
        go_roundw
        case rel => exact ⟨j + 1, q1, by omega, by go_num, hq1, Lib.hid (by rw [ho.out, show 4 - j = (4 - (j + 1)) + 1 by omega, ones, Hv.out, if_pos h1]; simp; omega), hR1, hon.trans hon1⟩
        case measure => simp [intOf]; omega
      · have f2 : ((v1 : Int) == 1) = false := by rw [beq_eq_false_iff_ne]; omega
        have HO := Lib.hid (show ones bs 4 s = (j, q1) by rw [ho.out, show 4 - j = (4 - (j + 1)) + 1 by omega, ones, Hv.out, if_neg h1]; rfl)
        have hon := hon.trans hon1
        clear h1
        have hn := mark_n (k := j) (by omega)
        have c2 := tab_row (only_tab HT.out hg (Nat.le_of_lt hgl) hon) (k := j) (by omega)
        obtain ⟨m, hm⟩ : ∃ m, (markOf j).2.2 = m := ⟨_, rfl⟩
        rw [hm] at hn c2
        by_cases hk0 : j = 0
        · have hm0 : m = 0 := hn.1 hk0
          have hres := Lib.hid (Hr.out.symm.trans (chg_none (by rw [HO.out, hk0])))
          clear hn hm
          subst hm0
          have HK0 := Lib.hid hk0; clear hk0
          go_wp2_with fail
          go_ret
          rw [hres.out]
          exact RV.mk ⟨rfl, hR1.out, hon⟩
        · have hm1 := hn.2.1 hk0
          have hm64 := hn.2.2
          have hres := Hr.out.symm.trans (chg_some HO.out hk0)
          rw [hm] at hres
          obtain ⟨⟨v2, q2⟩, hv2⟩ : ∃ r, tk bs q1 m = r := ⟨_, rfl⟩
          rw [hv2] at hres
          have hv2l : v2 < 18446744073709551616 := by have := tk_lt (bs := bs) (s := q1) (n := m) hm64; rw [hv2] at this; exact this
          have hres := Lib.hid hres
          have Hv2 := Lib.hid hv2
          clear hn hm hv2
          have HK0 := Lib.hid hk0; clear hk0
          have fm : ((m : Int) == 0) = false := by rw [beq_eq_false_iff_ne]; omega
          have hHq := Lib.hid (h.below (hon.below (Nat.le_of_lt hgl) (Nat.le_refl _)))
          go_wp2_with fail
          refine (tk_any A c bs q1 m _ rfl (v2, q2) Hv2.out hm64 g hq1 hl _ (by exact hHq.out) (by exact hR1.out)).mono ?_
          rintro e w2 ⟨v, rfl, rfl, hR2, hon2⟩
          have hR2 := Lib.hid hR2
          have hon3 := hon.trans hon2
          have e1 : IntKind.i64.wrap (64 - (m : Int)) = 64 - (m : Int) := IntWalk.i64_in _ (by omega)
          have e2 : (0 : Int) ≤ 64 - (m : Int) := by omega
          have e3 : (64 - (m : Int)).toNat = 64 - m := by omega
          go_wp2_with fail
          go_ret
          rw [hres.out]
          exact RV.mk ⟨int_eq (wrap_sext v2 m), hR2.out, hon3⟩
end Go.Proofs.YtmbpgenjjgepiaaDoor
