/- What Check and CheckMatch of package label tell. Conditions: what comes in lies in its cells. -/
import Derived.Test.YtmfndpkhcejffaaLbName
import Derived.Test.YtmfndpkhcejffaaOpen
namespace Go.Proofs.Ytmfndpkhcejffaa
open Go.RowKit

def labC (x : Lab) : List Value := [.string x.nm, .string x.v]
def labCs (l : List Lab) : List Value := l.flatMap labC
theorem labCs_len (l : List Lab) : (labCs l).length = l.length * 2 := flat_len (f := labC) (C := 2) (fun _ => rfl) l
theorem labCs_0 {l : List Lab} {k : Nat} (h : k < l.length) : (labCs l)[k * 2]? = some (.string (at_ l k).nm) := flat_at (f := labC) (C := 2) (fun _ => rfl) h (r := 0) (by decide)
theorem labCs_1 {l : List Lab} {k : Nat} (h : k < l.length) : (labCs l)[k * 2 + 1]? = some (.string (at_ l k).v) := flat_at (f := labC) (C := 2) (fun _ => rfl) h (r := 1) (by decide)
def mtC (x : Mt) : List Value := [.int .i64 x.k, .string x.nm, .string x.v]
def mtCs (l : List Mt) : List Value := l.flatMap mtC
theorem mtCs_len (l : List Mt) : (mtCs l).length = l.length * 3 := flat_len (f := mtC) (C := 3) (fun _ => rfl) l
theorem mtCs_0 {l : List Mt} {k : Nat} (h : k < l.length) : (mtCs l)[k * 3]? = some (.int .i64 (at_ l k).k) := flat_at (f := mtC) (C := 3) (fun _ => rfl) h (r := 0) (by decide)
theorem mtCs_1 {l : List Mt} {k : Nat} (h : k < l.length) : (mtCs l)[k * 3 + 1]? = some (.string (at_ l k).nm) := flat_at (f := mtC) (C := 3) (fun _ => rfl) h (r := 1) (by decide)
theorem mtCs_2 {l : List Mt} {k : Nat} (h : k < l.length) : (mtCs l)[k * 3 + 2]? = some (.string (at_ l k).v) := flat_at (f := mtC) (C := 3) (fun _ => rfl) h (r := 2) (by decide)
def LabOk (x : Lab) : Prop := x.nm.size ≤ maxLen ∧ x.v.size ≤ maxLen
def MtOk (x : Mt) : Prop := in64 x.k ∧ x.nm.size ≤ maxLen ∧ x.v.size ≤ maxLen
def lastL (L : List Lab) (k : Nat) : ByteArray := if k = 0 then noS else (at_ L (k - 1)).nm

set_option maxRecDepth 1000000 in
set_option maxHeartbeats 4000000 in
theorem lcheck_any (A : Option Addr) (n c : Nat) (L : List Lab) (hn : L.length = n) (hl : n ≤ maxLen) (w : World) (h : Has w w.heap.size A (labCs L)) (hL : ∀ e ∈ L, LabOk e) :
    Calls Try.prog 19 #[.slice A n c] w (R1 (.int .i64 (chkL L)) (Below w.heap.size w)) := by
  unfold maxLen at hl
  have Hn := Lib.hid hn
  by_cases h20 : (10 : Int) < (n : Int)
  · have E := Lib.hid (show chkL L = 2 by unfold chkL; rw [if_pos (by omega)])
    rw [E.out]
    clear hL h
    go_enter Try.func19, Try.ntmps19
    go_wp2_with fail
    go_ret
    exact R1.mk rfl (Below.refl _ _)
  · obtain ⟨r, hr⟩ : ∃ r, chkL L = r := ⟨_, rfl⟩
    have hr0 : chkLGo noS L = r := by rw [← hr]; unfold chkL; rw [if_neg (by omega)]
    have HR := Lib.hid hr0
    rw [hr]
    have HL := Lib.hid hL
    have Hh := Lib.hid h
    clear hr hr0 hL h hn
    go_enter Try.func19, Try.ntmps19
    go_wp2_with fail
    go_loopw [3, 11] (fun lv iv wr => ∃ k : Nat, k ≤ n ∧ iv = .int .i64 (k : Nat) ∧ lv = .string (lastL L k) ∧ Hid (chkLGo (lastL L k) (L.drop k) = r) ∧ Below w.heap.size w wr) (fun _ iv _ => n + 5 - (intOf iv).toNat)
    case atStart => exact ⟨0, by omega, rfl, rfl, HR, Below.refl _ _⟩
    case round =>
      obtain ⟨k, hk, rfl, rfl, hg, hbr⟩ := hrel
      have hbs := hbr.size
      by_cases hlt : (k : Int) < (n : Int)
      · have hkL : k < L.length := by rw [Hn.out]; omega
        obtain ⟨ad, rfl, _, c0⟩ := (Hh.out.next hbr).at (labCs_0 hkL)
        obtain ⟨ad', e', _, c1⟩ := (Hh.out.next hbr).at (labCs_1 hkL)
        injection e' with e'
        subst e'
        have c1 := cell_off c1 (by decide)
        obtain ⟨o1, o2⟩ := HL.out _ (at_mem hkL)
        have hd : L.drop k = at_ L k :: L.drop (k + 1) := by rw [at_eq hkL]; exact List.drop_eq_getElem_cons hkL
        have hlast : lastL L (k + 1) = (at_ L k).nm := by unfold lastL; rw [if_neg (by omega)]; rfl
        have hg2 := hg.out
        rw [hd, chkLGo] at hg2
        obtain ⟨x, hx⟩ : ∃ x, at_ L k = x := ⟨_, rfl⟩
        rw [hx] at c0 c1 o1 o2 hg2 hlast
        obtain ⟨nm, v⟩ := x
        simp only [] at c0 c1 o1 o2 hg2 hlast
        obtain ⟨last, hla⟩ : ∃ last, lastL L k = last := ⟨_, rfl⟩
        rw [hla] at hg2 ⊢
        have Hg2 := Lib.hid hg2
        have Hlast := Lib.hid hlast
        obtain ⟨W1, hW1⟩ : ∃ W1, wr.alloc (.cells #[.string nm, .string v] 55) = W1 := ⟨_, rfl⟩
        obtain ⟨g, hgs⟩ : ∃ g, wr.heap.size = g := ⟨_, rfl⟩
        have hk1 : Blk W1 g 55 #[.string nm, .string v] := by rw [← hW1, ← hgs]; exact Blk.new _ _ _
        have hb1 : Below wr.heap.size wr W1 := by rw [← hW1]; exact (Below.refl _ _).alloc (Nat.le_refl _) _
        have hb01 := bnext hbr hb1
        have HW := Lib.hid hW1
        have HG := Lib.hid hgs
        clear hg hg2 hlast hla hd hW1 hgs
        go_wp2_with fail
        rw [HW.out, HG.out]
        have y0 : W1.cell? ⟨g, 0, none⟩ = some (.string nm) := hk1.cell 0
        have hN := lname_any nm o1 W1
        obtain ⟨b, hb⟩ : ∃ b, nameOk nm = b := ⟨_, rfl⟩
        rw [hb] at hN
        have HN := Lib.hid hN
        have Hb := Lib.hid hb
        clear hN hb HW HG
        go_wp2_with fail
        refine HN.out.mono ?_
        rintro e2 w2 ⟨rfl, hb2⟩
        have hk2 := hk1.next hb2
        have hb02 := bnext hb01 hb2
        have y0 : w2.cell? ⟨g, 0, none⟩ = some (.string nm) := hk2.cell 0
        have y1 : w2.cell? ⟨g, 1, none⟩ = some (.string v) := hk2.cell 1
        clear hk1 hb2 hb1 c0 c1 hbr hbs hb01
        cases b with
        | false =>
          have E := Lib.hid (show r = 4 by
            have hz : labErr last ⟨nm, v⟩ = 4 := by unfold labErr; simp only []; rw [if_pos Hb.out]
            rw [← Hg2.out, hz]; rfl)
          go_wp2_with fail
          go_ret
          rw [E.out]
          exact R1.mk rfl hb02
        | true =>
          by_cases n2 : nlt last nm
          · have b1 : Op.bytesLess last.toList nm.toList = true := by rw [nlt_bytes]; exact decide_eq_true n2
            have b2 : Op.bytesLess nm.toList last.toList = false := by rw [nlt_bytes]; exact decide_eq_false (nlt_asymm n2)
            have b3 : (nm.toList == last.toList) = false := by rw [beq_eq_false_iff_ne]; intro h; exact nlt_irrefl nm (by have := n2; rw [bytes_ext h] at this ⊢; exact this)
            have Hn2 := Lib.hid n2
            clear n2
            by_cases n3 : 40 < v.size
            · have E := Lib.hid (show r = 2 by
                have hz : labErr last ⟨nm, v⟩ = 2 := by unfold labErr; simp only []; rw [if_neg (by rw [Hb.out]; decide), if_neg (fun h => h Hn2.out), if_pos n3]
                rw [← Hg2.out, hz]; rfl)
              have n3' : (40 : Int) < (v.size : Int) := by omega
              go_wp2_with fail
              go_ret
              rw [E.out]
              exact R1.mk rfl hb02
            · have n3' : ¬ (40 : Int) < (v.size : Int) := by omega
              have hg3 := Hg2.out
              have hz : labErr last ⟨nm, v⟩ = 0 := by
                unfold labErr; simp only []
                rw [if_neg (by rw [Hb.out]; decide), if_neg (fun h => h Hn2.out), if_neg n3]
              rw [hz] at hg3
              have hg3 : chkLGo nm (List.drop (k + 1) L) = r := hg3
              have Hg3 := Lib.hid hg3
              clear hg3 hz
              go_wp2_with fail
              go_roundw
              case rel => exact ⟨k + 1, by omega, by go_num, by rw [Hlast.out], Lib.hid (by rw [Hlast.out]; exact Hg3.out), hb02⟩
              case measure => simp [intOf]; omega
          · have E := Lib.hid (show r = 5 by
              have hz : labErr last ⟨nm, v⟩ = 5 := by unfold labErr; simp only []; rw [if_neg (by rw [Hb.out]; decide), if_pos n2]
              rw [← Hg2.out, hz]; rfl)
            have b1 : Op.bytesLess last.toList nm.toList = false := by rw [nlt_bytes]; exact decide_eq_false n2
            rcases Decidable.em (nlt nm last) with n3 | n3
            · have b2 : Op.bytesLess nm.toList last.toList = true := by rw [nlt_bytes]; exact decide_eq_true n3
              clear n2 n3
              go_wp2_with fail
              go_ret
              rw [E.out]
              exact R1.mk rfl hb02
            · have b3 : (nm.toList == last.toList) = true := by rw [beq_iff_eq, nlt_tri n3 n2]
              have b2 : Op.bytesLess nm.toList last.toList = false := by rw [nlt_bytes]; exact decide_eq_false n3
              clear n2 n3
              go_wp2_with fail
              go_ret
              rw [E.out]
              exact R1.mk rfl hb02
      · have hkn : k = n := by omega
        have E := Lib.hid (show r = 0 by
          have h := hg.out
          rw [List.drop_of_length_le (by rw [Hn.out]; omega)] at h
          exact h.symm)
        clear hkn hg
        go_wp2_with fail
        go_ret
        rw [E.out]
        exact R1.mk rfl hbr

set_option maxRecDepth 1000000 in
set_option maxHeartbeats 4000000 in
theorem mcheck_any (A : Option Addr) (n c : Nat) (L : List Mt) (hn : L.length = n) (hl : n ≤ maxLen) (w : World) (h : Has w w.heap.size A (mtCs L)) (hL : ∀ e ∈ L, MtOk e) :
    Calls Try.prog 21 #[.slice A n c] w (R1 (.int .i64 (chkM L)) (Below w.heap.size w)) := by
  unfold maxLen at hl
  have Hn := Lib.hid hn
  by_cases h20 : (10 : Int) < (n : Int)
  · have E := Lib.hid (show chkM L = 2 by unfold chkM; rw [if_pos (by omega)])
    rw [E.out]
    clear hL h
    go_enter Try.func21, Try.ntmps21
    go_wp2_with fail
    go_ret
    exact R1.mk rfl (Below.refl _ _)
  · obtain ⟨r, hr⟩ : ∃ r, chkM L = r := ⟨_, rfl⟩
    have hr0 : chkMGo L = r := by rw [← hr]; unfold chkM; rw [if_neg (by omega)]
    have HR := Lib.hid hr0
    rw [hr]
    have HL := Lib.hid hL
    have Hh := Lib.hid h
    clear hr hr0 hL h hn
    go_enter Try.func21, Try.ntmps21
    go_wp2_with fail
    go_loopw [10] (fun iv wr => ∃ k : Nat, k ≤ n ∧ iv = .int .i64 (k : Nat) ∧ Hid (chkMGo (L.drop k) = r) ∧ Below w.heap.size w wr) (fun iv _ => n + 5 - (intOf iv).toNat)
    case atStart => exact ⟨0, by omega, rfl, HR, Below.refl _ _⟩
    case round =>
      obtain ⟨k, hk, rfl, hg, hbr⟩ := hrel
      have hbs := hbr.size
      by_cases hlt : (k : Int) < (n : Int)
      · have hkL : k < L.length := by rw [Hn.out]; omega
        obtain ⟨ad, rfl, _, c0⟩ := (Hh.out.next hbr).at (mtCs_0 hkL)
        obtain ⟨ad', e', _, c1⟩ := (Hh.out.next hbr).at (mtCs_1 hkL)
        injection e' with e'
        subst e'
        obtain ⟨ad', e', _, c2⟩ := (Hh.out.next hbr).at (mtCs_2 hkL)
        injection e' with e'
        subst e'
        have c1 := cell_off c1 (by decide)
        have c2 := cell_off c2 (by decide)
        obtain ⟨o0, o1, o2⟩ := HL.out _ (at_mem hkL)
        have hd : L.drop k = at_ L k :: L.drop (k + 1) := by rw [at_eq hkL]; exact List.drop_eq_getElem_cons hkL
        have hg2 := hg.out
        rw [hd, chkMGo] at hg2
        obtain ⟨x, hx⟩ : ∃ x, at_ L k = x := ⟨_, rfl⟩
        rw [hx] at c0 c1 c2 o0 o1 o2 hg2
        obtain ⟨q, nm, v⟩ := x
        simp only [] at c0 c1 c2 o0 o1 o2 hg2
        have Hg2 := Lib.hid hg2
        obtain ⟨W1, hW1⟩ : ∃ W1, wr.alloc (.cells #[.int .i64 q, .string nm, .string v] 25) = W1 := ⟨_, rfl⟩
        obtain ⟨g, hgs⟩ : ∃ g, wr.heap.size = g := ⟨_, rfl⟩
        have hk1 : Blk W1 g 25 #[.int .i64 q, .string nm, .string v] := by rw [← hW1, ← hgs]; exact Blk.new _ _ _
        have hb1 : Below wr.heap.size wr W1 := by rw [← hW1]; exact (Below.refl _ _).alloc (Nat.le_refl _) _
        have hb01 := bnext hbr hb1
        have HW := Lib.hid hW1
        have HG := Lib.hid hgs
        clear hg hg2 hd hW1 hgs
        by_cases q1 : q < 1
        · have E := Lib.hid (show r = 1 by
              have hz : mtErr ⟨q, nm, v⟩ = 1 := by unfold mtErr; simp only []; rw [if_pos (by omega)]
              rw [← Hg2.out, hz]; rfl)
          go_wp2_with fail
          rw [HW.out]
          go_ret
          rw [E.out]
          exact R1.mk rfl hb01
        · by_cases q2 : 4 < q
          · have E := Lib.hid (show r = 1 by
              have hz : mtErr ⟨q, nm, v⟩ = 1 := by unfold mtErr; simp only []; rw [if_pos (by omega)]
              rw [← Hg2.out, hz]; rfl)
            go_wp2_with fail
            rw [HW.out]
            go_ret
            rw [E.out]
            exact R1.mk rfl hb01
          · have Hq := Lib.hid (show ¬ (q < 1 ∨ 4 < q) by omega)
            go_wp2_with fail
            rw [HW.out, HG.out]
            have y1 : W1.cell? ⟨g, 1, none⟩ = some (.string nm) := hk1.cell 1
            have hN := lname_any nm o1 W1
            obtain ⟨b, hb⟩ : ∃ b, nameOk nm = b := ⟨_, rfl⟩
            rw [hb] at hN
            have HN := Lib.hid hN
            have Hb := Lib.hid hb
            clear hN hb HW HG
            go_wp2_with fail
            refine HN.out.mono ?_
            rintro e2 w2 ⟨rfl, hb2⟩
            have hk2 := hk1.next hb2
            have hb02 := bnext hb01 hb2
            have y2 : w2.cell? ⟨g, 2, none⟩ = some (.string v) := hk2.cell 2
            clear hk1 hb2 hb1 c0 c1 c2 hbr hbs hb01
            cases b with
            | false =>
              have E := Lib.hid (show r = 4 by
                have hz : mtErr ⟨q, nm, v⟩ = 4 := by unfold mtErr; simp only []; rw [if_neg Hq.out, if_pos Hb.out]
                rw [← Hg2.out, hz]; rfl)
              go_wp2_with fail
              go_ret
              rw [E.out]
              exact R1.mk rfl hb02
            | true =>
              by_cases n3 : 40 < v.size
              · have E := Lib.hid (show r = 2 by
                  have hz : mtErr ⟨q, nm, v⟩ = 2 := by unfold mtErr; simp only []; rw [if_neg Hq.out, if_neg (by rw [Hb.out]; decide), if_pos n3]
                  rw [← Hg2.out, hz]; rfl)
                have n3' : (40 : Int) < (v.size : Int) := by omega
                go_wp2_with fail
                go_ret
                rw [E.out]
                exact R1.mk rfl hb02
              · have n3' : ¬ (40 : Int) < (v.size : Int) := by omega
                have hg3 := Hg2.out
                have hz : mtErr ⟨q, nm, v⟩ = 0 := by
                  unfold mtErr; simp only []
                  rw [if_neg Hq.out, if_neg (by rw [Hb.out]; decide), if_neg n3]
                rw [hz] at hg3
                have hg3 : chkMGo (List.drop (k + 1) L) = r := hg3
                have Hg3 := Lib.hid hg3
                clear hg3 hz
                go_wp2_with fail
                go_roundw
                case rel => exact ⟨k + 1, by omega, by go_num, Hg3, hb02⟩
                case measure => simp [intOf]; omega
      · have hkn : k = n := by omega
        have E := Lib.hid (show r = 0 by
          have h := hg.out
          rw [List.drop_of_length_le (by rw [Hn.out]; omega)] at h
          exact h.symm)
        clear hkn hg
        go_wp2_with fail
        go_ret
        rw [E.out]
        exact R1.mk rfl hbr
end Go.Proofs.Ytmfndpkhcejffaa
