/- What Check of package claim tells. Conditions: claims lie in their cells. -/
import Derived.Test.YtokilodekbjpnaaClaimLaw
import Derived.Test.YtokilodekbjpnaaSameD
namespace Go.Proofs.Ytokilodekbjpnaa
open Go.RowKit

theorem Has.clAt {w : World} {B : Nat} {A : Option Addr} {L : List ClE} (h : Has w B A (clCs L)) {j : Nat} (hj : j < L.length) : ∃ ad, A = some ad ∧ ad.block < B ∧
    w.cell? (ad.add (j * 4)) = some (.int .i64 (at_ L j).v) ∧ w.cell? ⟨(ad.add (j * 4)).block, (ad.add (j * 4)).off + 1, none⟩ = some (.int .i64 (at_ L j).s) ∧
    w.cell? ⟨(ad.add (j * 4)).block, (ad.add (j * 4)).off + 2, none⟩ = some (.string (at_ L j).nm) ∧ w.cell? ⟨(ad.add (j * 4)).block, (ad.add (j * 4)).off + 3, none⟩ = some (.slice (at_ L j).t.A (at_ L j).t.l.length (at_ L j).t.c) := by
  obtain ⟨ad, rfl, had, c0⟩ := h.at (clCs_0 hj)
  obtain ⟨ad', e, _, c1⟩ := h.at (clCs_1 hj)
  injection e with e
  subst e
  obtain ⟨ad', e, _, c2⟩ := h.at (clCs_2 hj)
  injection e with e
  subst e
  obtain ⟨ad', e, _, c3⟩ := h.at (clCs_3 hj)
  injection e with e
  subst e
  exact ⟨_, rfl, had, c0, cell_off c1 (by decide), cell_off c2 (by decide), cell_off c3 (by decide)⟩

set_option maxRecDepth 1000000 in
set_option maxHeartbeats 4000000 in
theorem ccheck_any (A : Option Addr) (n c : Nat) (L : List ClE) (hn : L.length = n) (hl : n ≤ maxLen) (w : World) (h : Has w w.heap.size A (clCs L)) (hL : ∀ e ∈ L, e.t.ok w) :
    Calls Try.prog 11 #[.slice A n c] w (R1 (.int .i64 (checkC (L.map ClE.x))) (Below w.heap.size w)) := by
  unfold maxLen at hl
  by_cases h20 : (20 : Int) < (n : Int)
  · have e2 := Lib.hid (show checkC (L.map ClE.x) = 2 by unfold checkC; rw [if_pos (by rw [List.length_map]; omega)])
    rw [e2.out]
    clear hn
    go_enter Try.func11, Try.ntmps11
    go_wp2_with fail
    go_ret
    exact R1.mk rfl (Below.refl _ _)
  · have e2 := Lib.hid (show checkC (L.map ClE.x) = goC ⟨#[]⟩ (L.map ClE.x) by unfold checkC; rw [if_neg (by rw [List.length_map]; omega)])
    have Hn := Lib.hid hn; clear hn
    obtain ⟨z, hz⟩ : ∃ z, checkC (L.map ClE.x) = z := ⟨_, rfl⟩
    rw [hz]
    have e0 := Lib.hid (show z = goC ⟨#[]⟩ ((L.drop 0).map ClE.x) by rw [List.drop_zero, ← e2.out, hz])
    clear hz e2
    have h20' : (n : Int) ≤ 20 := by omega
    go_enter Try.func11, Try.ntmps11
    go_wp2_with fail
    go_loopw [3, 12] (fun last i wr => ∃ (k : Nat) (s : ByteArray), k ≤ n ∧ i = .int .i64 (k : Nat) ∧ last = .string s ∧ Hid (z = goC s ((L.drop k).map ClE.x)) ∧ Below w.heap.size w wr) (fun _ i _ => n + 5 - (intOf i).toNat)
    case atStart => exact ⟨0, ⟨#[]⟩, by omega, rfl, rfl, e0, Below.refl _ _⟩
    case round =>
      obtain ⟨k, s, hk, rfl, rfl, hz, hbr⟩ := hrel
      by_cases hlt : (k : Int) < (n : Int)
      · have l1 := Lib.hid (show k < L.length by rw [Hn.out]; omega)
        obtain ⟨ad, rfl, had, c0, c1, c2, c3⟩ := (h.below hbr).clAt l1.out
        have K1 := Lib.hid ((hL _ (at_mem l1.out)).next hbr)
        have hz1 : z = if clmN s (at_ L k).x ≠ 0 then clmN s (at_ L k).x else goC (at_ L k).nm ((L.drop (k + 1)).map ClE.x) := by
          rw [hz.out, drop_at l1.out, List.map_cons, goC]
          rfl
        obtain ⟨p, hp⟩ : ∃ p, at_ L k = p := ⟨_, rfl⟩
        rw [hp] at c0 c1 c2 c3 hz1 K1
        clear hp
        obtain ⟨pv, ps, pn, pt⟩ := p
        simp only [] at c0 c1 c2 c3 hz1 K1
        have hz1 : z = if clmN s (⟨pv, ps, pn, pt.l⟩ : Clm) ≠ 0 then clmN s ⟨pv, ps, pn, pt.l⟩ else goC pn ((L.drop (k + 1)).map ClE.x) := hz1
        have hz1 := Lib.hid hz1
        obtain ⟨m, hm⟩ : ∃ m, nodeN pn pt.l = m := ⟨_, rfl⟩
        have hbs := hbr.size
        have hbx : Below w.heap.size w (wr.alloc (.cells #[.int .i64 pv, .int .i64 ps, .string pn, .slice pt.A pt.l.length pt.c] 34)) := hbr.alloc hbs _
        have kc : Blk (wr.alloc (.cells #[.int .i64 pv, .int .i64 ps, .string pn, .slice pt.A pt.l.length pt.c] 34)) wr.heap.size 34 #[.int .i64 pv, .int .i64 ps, .string pn, .slice pt.A pt.l.length pt.c] := Blk.new _ _ _
        have y2 : (wr.alloc (.cells #[.int .i64 pv, .int .i64 ps, .string pn, .slice pt.A pt.l.length pt.c] 34)).cell? ⟨wr.heap.size, 2, none⟩ = some (.string pn) := kc.cell 2
        have y3 : (wr.alloc (.cells #[.int .i64 pv, .int .i64 ps, .string pn, .slice pt.A pt.l.length pt.c] 34)).cell? ⟨wr.heap.size, 3, none⟩ = some (.slice pt.A pt.l.length pt.c) := kc.cell 3
        go_wp2_with fail
        obtain ⟨w2, hw2⟩ : ∃ w2, (wr.alloc (.cells #[.int .i64 pv, .int .i64 ps, .string pn, .slice pt.A pt.l.length pt.c] 34)).alloc (.cells #[.string pn, .slice pt.A pt.l.length pt.c] 32) = w2 := ⟨_, rfl⟩
        have kn : Blk w2 (wr.heap.size + 1) 32 #[.string pn, .slice pt.A pt.l.length pt.c] := by
          rw [← hw2]
          have := Blk.new (wr.alloc (.cells #[.int .i64 pv, .int .i64 ps, .string pn, .slice pt.A pt.l.length pt.c] 34)) 32 #[.string pn, .slice pt.A pt.l.length pt.c]
          rwa [World.size_alloc] at this
        have kc2 : Blk w2 wr.heap.size 34 #[.int .i64 pv, .int .i64 ps, .string pn, .slice pt.A pt.l.length pt.c] := by rw [← hw2]; exact kc.alloc _
        have hb02 : Below wr.heap.size wr w2 := by rw [← hw2]; exact two_allocs _ _ _
        have hb2 := bnext hbr hb02
        rw [hw2]
        clear hw2 kc y2 y3 c0 c1 c2 c3 hbx
        refine (node_any (wr.heap.size + 1) pn pt _ (by exact K1.out.next hb02) kn.lt (by exact kn.cell 0) (by exact kn.cell 1)).mono ?_
        rintro e w3 ⟨rfl, hb3⟩
        rw [hm]
        have kc3 := kc2.next hb3
        have hb23 := bnext hb2 hb3
        have q0 : w3.cell? ⟨wr.heap.size, 0, none⟩ = some (.int .i64 pv) := kc3.cell 0
        have q1 : w3.cell? ⟨wr.heap.size, 1, none⟩ = some (.int .i64 ps) := kc3.cell 1
        have q2 : w3.cell? ⟨wr.heap.size, 2, none⟩ = some (.string pn) := kc3.cell 2
        by_cases hm0 : m = 0
        · subst hm0
          by_cases ho : nlt s pn
          · have o1 : Op.bytesLess pn.toList s.toList = false := by rw [nlt_bytes, decide_eq_false (nlt_asymm ho)]
            have o2 : (pn.toList == s.toList) = false := by rw [beq_eq_false_iff_ne]; exact fun e => nlt_ne ho (toList_eq e).symm
            by_cases hbad : pv < 0 ∨ ps < 1 ∨ 4 < ps
            · have e4 : z = 4 := by
                rw [hz1.out]
                have : clmN s ⟨pv, ps, pn, pt.l⟩ = 4 := by unfold clmN; rw [if_neg (by rw [hm]; simp), if_neg (fun h => h ho), if_pos hbad]
                rw [this]; rfl
              have e4 := Lib.hid e4
              clear hm
              rcases (show pv < 0 ∨ (¬ pv < 0 ∧ ps < 1) ∨ (¬ pv < 0 ∧ ¬ ps < 1 ∧ 4 < ps) by omega) with h1 | ⟨h1, h2⟩ | ⟨h1, h2, h3⟩
              all_goals
                clear hbad
                go_wp2_with fail
                go_ret
                exact R1.mk (int_eq e4.out.symm) hb23
            · have e4 : z = goC pn ((L.drop (k + 1)).map ClE.x) := by
                rw [hz1.out]
                have : clmN s ⟨pv, ps, pn, pt.l⟩ = 0 := by unfold clmN; rw [if_neg (by rw [hm]; simp), if_neg (fun h => h ho), if_neg hbad]
                rw [this]; rfl
              have e4 := Lib.hid e4
              obtain ⟨h1, h2, h3⟩ : ¬ pv < 0 ∧ ¬ ps < 1 ∧ ¬ 4 < ps := by omega
              clear hm hbad
              go_wp2_with fail
              go_roundw
              case rel => exact ⟨k + 1, pn, by omega, by go_num, rfl, e4, hb23⟩
              case measure => simp [intOf]; omega
          · have e4 : z = 5 := by
              rw [hz1.out]
              have : clmN s ⟨pv, ps, pn, pt.l⟩ = 5 := by unfold clmN; rw [if_neg (by rw [hm]; simp), if_pos ho]
              rw [this]; rfl
            have e4 := Lib.hid e4
            clear hm
            by_cases hq : nlt pn s
            · have o1 : Op.bytesLess pn.toList s.toList = true := by rw [nlt_bytes, decide_eq_true hq]
              clear ho hq
              go_wp2_with fail
              go_ret
              exact R1.mk (int_eq e4.out.symm) hb23
            · have e : pn = s := nlt_tri hq ho
              subst e
              have o1 : Op.bytesLess pn.toList pn.toList = false := by rw [nlt_bytes, decide_eq_false (nlt_irrefl _)]
              clear ho hq
              go_wp2_with fail
              go_ret
              exact R1.mk (int_eq e4.out.symm) hb23
        · have fm : (m != 0) = true := by rw [bne_iff_ne]; exact hm0
          have e4 : z = m := by
            rw [hz1.out]
            have : clmN s ⟨pv, ps, pn, pt.l⟩ = m := by unfold clmN; rw [if_pos (by rw [hm]; exact hm0), hm]
            rw [this, if_pos hm0]
          have e4 := Lib.hid e4
          clear hm
          go_wp2_with fail
          go_ret
          exact R1.mk (int_eq e4.out.symm) hb23
      · obtain rfl : k = n := by omega
        have e0 := Lib.hid (show z = 0 by rw [hz.out, List.drop_eq_nil_of_le (by rw [Hn.out]; exact Nat.le_refl _)]; rfl)
        go_wp2_with fail
        go_ret
        exact R1.mk (int_eq e0.out.symm) hbr
end Go.Proofs.Ytokilodekbjpnaa
