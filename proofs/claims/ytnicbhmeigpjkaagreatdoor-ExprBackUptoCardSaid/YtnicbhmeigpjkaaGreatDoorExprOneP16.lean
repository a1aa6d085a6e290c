/- Texts of the proof of ExprOne, joined (by merge.py). Conditions: each theorem's own hypotheses. -/
import Derived.Test.YtnicbhmeigpjkaaGreatDoorExprOneP1
import Derived.Test.YtnicbhmeigpjkaaGreatDoorExprOneP12
namespace Go.Proofs.YtnicbhmeigpjkaaGreatDoor
open Go.RowKit

theorem nameE (a b : ByteArray) : (a.toList == b.toList) = decide (a = b) := by
  by_cases h : a = b
  · rw [h, decide_eq_true rfl, beq_iff_eq]
  · rw [decide_eq_false h, beq_eq_false_iff_ne]; exact fun e => h (bytes_ext e)
/-- the library's own variable is a number -/
def LenAt (w : World) : Prop := ∃ m : Int, w.cell? ⟨2, 0, none⟩ = some (.int .i64 m)
theorem LenAt.next {w w' : World} (h : LenAt w) (hb : Below w.heap.size w w') : LenAt w' := by
  obtain ⟨m, h⟩ := h
  exact ⟨m, (hb.cell (World.block_lt_of_cell? w _ h)).trans h⟩

set_option maxRecDepth 1000000 in
set_option maxHeartbeats 4000000 in
theorem lvalue_any (A : Option Addr) (n c : Nat) (L : List Lab) (hn : L.length = n) (hl : n ≤ maxLen) (a : ByteArray) (w : World) (h : Has w w.heap.size A (labCs L)) :
    Calls Tryz.prog 59 #[.slice A n c, .string a] w (R1 (.string (valL L a)) (Below w.heap.size w)) := by
  unfold maxLen at hl
  have Hn := Lib.hid hn
  obtain ⟨r, hr⟩ : ∃ r, valL L a = r := ⟨_, rfl⟩
  rw [hr]
  have HR := Lib.hid hr
  have Hh := Lib.hid h
  clear hr h hn
  go_enter Tryz.func59, Tryz.ntmps59
  go_wp2_with fail
  go_loopw [9] (fun iv wr => ∃ k : Nat, k ≤ n ∧ iv = .int .i64 (k : Nat) ∧ Hid (valL (L.drop k) a = r) ∧ Below w.heap.size w wr) (fun iv _ => n + 5 - (intOf iv).toNat)
  case atStart => exact ⟨0, by omega, rfl, HR, Below.refl _ _⟩
  case round =>
    obtain ⟨k, hk, rfl, hg, hbr⟩ := hrel
    have hbs := hbr.size
    by_cases hlt : (k : Int) < (n : Int)
    · have hkL : k < L.length := by rw [Hn.out]; omega
      obtain ⟨ad, rfl, _, c0⟩ := (Hh.out.next hbr).at (labCs_0 hkL)
      obtain ⟨ad', e', _, c1⟩ := (Hh.out.next hbr).at (labCs_1 hkL)
      injection e' with e'
      subst e'
      have c1 := cell_off c1 (by decide)
      have hd : L.drop k = at_ L k :: L.drop (k + 1) := by rw [at_eq hkL]; exact List.drop_eq_getElem_cons hkL
      have hg2 := hg.out
      rw [hd, valL] at hg2
      obtain ⟨x, hx⟩ : ∃ x, at_ L k = x := ⟨_, rfl⟩
      rw [hx] at c0 c1 hg2
      obtain ⟨nm, v⟩ := x
      simp only [] at c0 c1 hg2
      have Hg2 := Lib.hid hg2
      obtain ⟨W1, hW1⟩ : ∃ W1, wr.alloc (.cells #[.string nm, .string v] 78) = W1 := ⟨_, rfl⟩
      obtain ⟨g, hgs⟩ : ∃ g, wr.heap.size = g := ⟨_, rfl⟩
      have hk1 : Blk W1 g 78 #[.string nm, .string v] := by rw [← hW1, ← hgs]; exact Blk.new _ _ _
      have hb1 : Below wr.heap.size wr W1 := by rw [← hW1]; exact (Below.refl _ _).alloc (Nat.le_refl _) _
      have hb01 := bnext hbr hb1
      have HW := Lib.hid hW1
      have HG := Lib.hid hgs
      clear hg hg2 hd hW1 hgs
      by_cases e : nm = a
      · have f1 : (nm.toList == a.toList) = true := by rw [nameE, decide_eq_true e]
        have E := Lib.hid (show v = r by rw [← Hg2.out, if_pos e])
        clear e
        go_wp2_with fail
        rw [HW.out]
        go_ret
        rw [E.out]
        exact R1.mk rfl hb01
      · have f1 : (nm.toList == a.toList) = false := by rw [nameE, decide_eq_false e]
        have E := Lib.hid (show valL (L.drop (k + 1)) a = r by rw [← Hg2.out, if_neg e])
        clear e
        go_wp2_with fail
        rw [HW.out]
        go_roundw
        case rel => exact ⟨k + 1, by omega, by go_num, E, hb01⟩
        case measure => simp [intOf]; omega
    · have E := Lib.hid (show noS = r by
        have h := hg.out
        rw [List.drop_of_length_le (by rw [Hn.out]; omega)] at h
        exact h)
      clear hg
      go_wp2_with fail
      go_ret
      rw [← E.out]
      exact R1.mk rfl hbr

set_option maxRecDepth 1000000 in
set_option maxHeartbeats 4000000 in
theorem lfit_any (A : Option Addr) (n c : Nat) (L : List Lab) (hn : L.length = n) (hl : n ≤ maxLen) (x : Mt) (hv : (valL L x.nm).size < 4294967281) (w : World) (hm : LenAt w) (h : Has w w.heap.size A (labCs L)) :
    Calls Tryz.prog 37 #[.slice A n c, .agg #[.int .i64 x.k, .string x.nm, .string x.v]] w (R1 (.bool (fitL L x)) (Below w.heap.size w)) := by
  obtain ⟨q, nm, v⟩ := x
  simp only [] at hv ⊢
  obtain ⟨W1, hW1⟩ : ∃ W1, w.alloc (.cells #[.int .i64 q, .string nm, .string v] 83) = W1 := ⟨_, rfl⟩
  obtain ⟨g, hgs⟩ : ∃ g, w.heap.size = g := ⟨_, rfl⟩
  have hk1 : Blk W1 g 83 #[.int .i64 q, .string nm, .string v] := by rw [← hW1, ← hgs]; exact Blk.new _ _ _
  have hb1 : Below w.heap.size w W1 := by rw [← hW1]; exact (Below.refl _ _).alloc (Nat.le_refl _) _
  have y1 : W1.cell? ⟨g, 1, none⟩ = some (.string nm) := hk1.cell 1
  have HV := Lib.hid (lvalue_any A n c L hn hl nm W1 (h.next hb1))
  obtain ⟨r, hr⟩ : ∃ r, valL L nm = r := ⟨_, rfl⟩
  rw [hr] at HV hv
  have hF : Hid (fitL L ⟨q, nm, v⟩ = if q = 1 then decide (r = v) else if q = 2 then decide (r ≠ v) else if q = 3 then Lib.hasPrefix r.data.toList v.data.toList else Lib.contains r.data.toList v.data.toList) := Lib.hid (by unfold fitL; simp only [hr])
  have hm1 := hm.next hb1
  have HW := Lib.hid hW1
  have HG := Lib.hid hgs
  clear h hn hm hr hW1 hgs
  go_enter Tryz.func37, Tryz.ntmps37
  go_wp2_with fail
  rw [HW.out, HG.out]
  refine HV.out.mono ?_
  rintro e2 w2 ⟨rfl, hb2⟩
  have hk2 := hk1.next hb2
  have hb02 := bnext hb1 hb2
  have y0 : w2.cell? ⟨g, 0, none⟩ = some (.int .i64 q) := hk2.cell 0
  have y2 : w2.cell? ⟨g, 2, none⟩ = some (.string v) := hk2.cell 2
  obtain ⟨m, hm2⟩ := hm1.next hb2
  have HC := Lib.hid (Tryz.strings_Contains r v m w2 hv hm2)
  have HP := Lib.hid (Tryz.strings_HasPrefix r v w2)
  clear hk1 hb2 hb1 y1 hm1 hm2 HV hk2 HW HG
  by_cases q1 : q = 1
  · subst q1
    have E := Lib.hid (hF.out.trans (if_pos rfl))
    have f1 := nameE r v
    clear hF
    go_wp2_with fail
    go_ret
    exact R1.mk (congrArg Value.bool E.out.symm) hb02
  · have p1 : (q == 1) = false := beq_eq_false_iff_ne.2 q1
    by_cases q2 : q = 2
    · subst q2
      have E := Lib.hid (hF.out.trans ((if_neg q1).trans (if_pos rfl)))
      have f1 := Lib.hid (show (!(r.toList == v.toList)) = decide (r ≠ v) by rw [nameE]; simp)
      clear hF q1
      go_wp2_with fail
      go_ret
      exact R1.mk (congrArg Value.bool (f1.out.trans E.out.symm)) hb02
    · have p2 : (q == 2) = false := beq_eq_false_iff_ne.2 q2
      by_cases q3 : q = 3
      · subst q3
        have E := Lib.hid (hF.out.trans ((if_neg q1).trans ((if_neg q2).trans (if_pos rfl))))
        clear hF q1 q2
        go_wp2_with fail
        refine HP.out.mono ?_
        rintro e3 w3 ⟨rfl, rfl⟩
        go_wp2_with fail
        go_ret
        exact R1.mk (congrArg Value.bool E.out.symm) hb02
      · have p3 : (q == 3) = false := beq_eq_false_iff_ne.2 q3
        have E := Lib.hid (hF.out.trans ((if_neg q1).trans ((if_neg q2).trans (if_neg q3))))
        clear hF q1 q2 q3
        go_wp2_with fail
        refine HC.out.mono ?_
        rintro e3 w3 ⟨rfl, rfl⟩
        go_wp2_with fail
        go_ret
        exact R1.mk (congrArg Value.bool E.out.symm) hb02

theorem fitsL_bad {L : List Lab} {M : List Mt} (h : fitsE L M ≠ 0) : fitsL L M = false := by
  unfold fitsE at h
  unfold fitsL
  by_cases h1 : chkL L = 0
  · rw [if_neg (fun g => g h1)] at h
    rw [decide_eq_false h, Bool.and_false]; rfl
  · rw [decide_eq_false h1]; rfl
theorem fitsL_ok {L : List Lab} {M : List Mt} (h : fitsE L M = 0) : fitsL L M = M.all (fitL L) ∧ chkL L = 0 ∧ chkM M = 0 := by
  unfold fitsE at h
  unfold fitsL
  by_cases h1 : chkL L = 0
  · rw [if_neg (fun g => g h1)] at h
    rw [decide_eq_true h1, decide_eq_true h]; exact ⟨rfl, h1, h⟩
  · rw [if_pos h1] at h; exact absurd h h1

set_option maxRecDepth 1000000 in
set_option maxHeartbeats 4000000 in
theorem lfits_any (A B : Option Addr) (n m c d : Nat) (L : List Lab) (M : List Mt) (hn : L.length = n) (hm : M.length = m) (hl : n ≤ maxLen) (hl2 : m ≤ maxLen) (w : World) (hlen : LenAt w) (h : Has w w.heap.size A (labCs L)) (h' : Has w w.heap.size B (mtCs M)) (hL : ∀ e ∈ L, LabOk e) (hM : ∀ e ∈ M, MtOk e) :
    Calls Tryz.prog 19 #[.slice A n c, .slice B m d] w (R1 (.tuple #[.bool (fitsL L M), .int .i64 (fitsE L M)]) (Below w.heap.size w)) := by
  have HC := Lib.hid (lcheck_any A n c L hn hl w h hL)
  have HM := Lib.hid (fun (w' : World) (hb : Below w.heap.size w w') => mcheck_any B m d M hm hl2 w' (h'.next hb) hM)
  obtain ⟨E, hE⟩ : ∃ E, fitsE L M = E := ⟨_, rfl⟩
  obtain ⟨r, hr⟩ : ∃ r, fitsL L M = r := ⟨_, rfl⟩
  rw [hE, hr]
  by_cases h1 : chkL L = 0
  · rw [h1] at HC
    have e1 : fitsE L M = chkM M := by unfold fitsE; rw [if_neg (fun g => g h1)]
    have hEM : chkM M = E := e1.symm.trans hE
    rw [hEM] at HM
    by_cases h2 : E = 0
    · subst h2
      obtain ⟨h3, h4, h5⟩ := fitsL_ok hE
      have hall : M.all (fitL L) = r := h3.symm.trans hr
      have hv : ∀ a, (valL L a).size < 4294967281 := fun a => by have := valL_le (fun x hx => ((chkL_iff.1 h1).2.1 x hx).2) a; omega
      have HF := Lib.hid (fun (x : Mt) (w' : World) (hb : Below w.heap.size w w') => lfit_any A n c L hn hl x (hv x.nm) w' (hlen.next hb) (h.next hb))
      have Hall := Lib.hid hall
      have Hm := Lib.hid hm
      have Hh := Lib.hid h'
      clear h1 h3 h4 h5 hE hr e1 hEM hn hm h h' hL hM hlen hv hall
      unfold maxLen at hl2
      go_enter Tryz.func19, Tryz.ntmps19
      go_wp2_with fail
      refine HC.out.mono ?_
      rintro e2 w2 ⟨rfl, hb2⟩
      go_wp2_with fail
      refine (HM.out w2 hb2).mono ?_
      rintro e3 w3 ⟨rfl, hb3⟩
      have hb03 := bnext hb2 hb3
      clear hb2 hb3 HC HM
      go_wp2_with fail
      go_loopw [22] (fun iv wr => ∃ k : Nat, k ≤ m ∧ iv = .int .i64 (k : Nat) ∧ Hid ((M.drop k).all (fitL L) = r) ∧ Below w.heap.size w wr) (fun iv _ => m + 5 - (intOf iv).toNat)
      case atStart => exact ⟨0, by omega, rfl, Hall, hb03⟩
      case round =>
        obtain ⟨k, hk, rfl, hg, hbr⟩ := hrel
        have hbs := hbr.size
        by_cases hlt : (k : Int) < (m : Int)
        · have hkL : k < M.length := by rw [Hm.out]; omega
          obtain ⟨ad, rfl, _, c0⟩ := (Hh.out.next hbr).at (mtCs_0 hkL)
          obtain ⟨ad', e', _, c1⟩ := (Hh.out.next hbr).at (mtCs_1 hkL)
          injection e' with e'
          subst e'
          obtain ⟨ad', e', _, c2⟩ := (Hh.out.next hbr).at (mtCs_2 hkL)
          injection e' with e'
          subst e'
          have c1 := cell_off c1 (by decide)
          have c2 := cell_off c2 (by decide)
          have hd : M.drop k = at_ M k :: M.drop (k + 1) := by rw [at_eq hkL]; exact List.drop_eq_getElem_cons hkL
          have hg2 := hg.out
          rw [hd, List.all_cons] at hg2
          obtain ⟨x, hx⟩ : ∃ x, at_ M k = x := ⟨_, rfl⟩
          rw [hx] at c0 c1 c2 hg2
          obtain ⟨b, hb⟩ : ∃ b, fitL L x = b := ⟨_, rfl⟩
          rw [hb] at hg2
          have hF := HF.out x
          rw [hb] at hF
          obtain ⟨q, nm, v⟩ := x
          simp only [] at c0 c1 c2 hF
          have HF2 := Lib.hid hF
          have Hg2 := Lib.hid hg2
          obtain ⟨W1, hW1⟩ : ∃ W1, wr.alloc (.cells #[.int .i64 q, .string nm, .string v] 83) = W1 := ⟨_, rfl⟩
          obtain ⟨g, hgs⟩ : ∃ g, wr.heap.size = g := ⟨_, rfl⟩
          have hk1 : Blk W1 g 83 #[.int .i64 q, .string nm, .string v] := by rw [← hW1, ← hgs]; exact Blk.new _ _ _
          have hb1 : Below wr.heap.size wr W1 := by rw [← hW1]; exact (Below.refl _ _).alloc (Nat.le_refl _) _
          have hb01 := bnext hbr hb1
          have y0 : W1.cell? ⟨g, 0, none⟩ = some (.int .i64 q) := hk1.cell 0
          have y1 : W1.cell? ⟨g, 1, none⟩ = some (.string nm) := hk1.cell 1
          have y2 : W1.cell? ⟨g, 2, none⟩ = some (.string v) := hk1.cell 2
          have HW := Lib.hid hW1
          have HG := Lib.hid hgs
          clear hg hg2 hd hW1 hgs hF hb
          go_wp2_with fail
          rw [HW.out]
          refine (HF2.out W1 hb01).mono ?_
          rintro e4 w4 ⟨rfl, hb4⟩
          have hb04 := bnext hb01 hb4
          clear hb01 hb1 hb4 c0 c1 c2 y0 y1 y2 hk1 HW HG
          cases b with
          | false =>
            have E := Lib.hid (show false = r from Hg2.out)
            go_wp2_with fail
            go_ret2
            rw [← E.out]
            exact R1.mk rfl hb04
          | true =>
            have E := Lib.hid (show (M.drop (k + 1)).all (fitL L) = r from Hg2.out)
            go_wp2_with fail
            go_roundw
            case rel => exact ⟨k + 1, by omega, by go_num, E, hb04⟩
            case measure => simp [intOf]; omega
        · have E := Lib.hid (show true = r by
            have h := hg.out
            rw [List.drop_of_length_le (by rw [Hm.out]; omega)] at h
            exact h)
          clear hg
          go_wp2_with fail
          go_ret2
          rw [← E.out]
          exact R1.mk rfl hbr
    · have hr2 : false = r := (fitsL_bad (by rw [hE]; exact h2)).symm.trans hr
      subst hr2
      have f1 : (E != 0) = true := bne_iff_ne.2 h2
      clear h1 hE hr e1 hEM h h' hL hM h2 hn hm
      go_enter Tryz.func19, Tryz.ntmps19
      go_wp2_with fail
      refine HC.out.mono ?_
      rintro e2 w2 ⟨rfl, hb2⟩
      go_wp2_with fail
      refine (HM.out w2 hb2).mono ?_
      rintro e3 w3 ⟨rfl, hb3⟩
      have hb03 := bnext hb2 hb3
      go_wp2_with fail
      go_ret2
      exact R1.mk rfl hb03
  · have e1 : fitsE L M = chkL L := by unfold fitsE; rw [if_pos h1]
    have hEM : chkL L = E := e1.symm.trans hE
    rw [hEM] at HC h1
    have hr2 : false = r := (fitsL_bad (by rw [hE]; exact h1)).symm.trans hr
    subst hr2
    have f1 : (E != 0) = true := bne_iff_ne.2 h1
    clear h1 hE hr e1 hEM h h' hL hM hn hm
    go_enter Tryz.func19, Tryz.ntmps19
    go_wp2_with fail
    refine HC.out.mono ?_
    rintro e2 w2 ⟨rfl, hb2⟩
    go_wp2_with fail
    go_ret2
    exact R1.mk rfl hb2
end Go.Proofs.YtnicbhmeigpjkaaGreatDoor
