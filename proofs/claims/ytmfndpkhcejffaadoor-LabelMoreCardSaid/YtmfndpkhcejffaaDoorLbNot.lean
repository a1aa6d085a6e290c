/- LabelNot: what is not so is so just where it is not. Conditions: what comes in lies in its cells. -/
import Derived.Test.YtmfndpkhcejffaaDoorLbLaws
namespace Go.Proofs.YtmfndpkhcejffaaDoor
open Go.RowKit

theorem fstE2 {e r : Int} : fstE e r = 0 ↔ e = 0 ∧ r = 0 := fstE_iff
theorem fits_two (L : List Lab) (x y : Mt) : fitsE L [x, y] = 0 ↔ fitsE L [x] = 0 ∧ fitsE L [y] = 0 := by
  have h2 : chkM [x, y] = 0 ↔ mtErr x = 0 ∧ mtErr y = 0 := by
    rw [chkM_iff]; simp
  unfold fitsE
  by_cases h : chkL L = 0
  · rw [if_neg (fun g => g h), if_neg (fun g => g h), if_neg (fun g => g h), chkM1, chkM1, h2]
  · rw [if_pos h, if_pos h, if_pos h]; exact ⟨fun g => ⟨g, g⟩, fun g => g.1⟩
theorem fitsL_two {L : List Lab} {x y : Mt} (h : fitsE L [x, y] = 0) : fitsL L [x, y] = (fitsL L [x] && fitsL L [y]) := by
  obtain ⟨h1, h2⟩ := (fits_two L x y).1 h
  rw [(fitsL_ok h).1, fitsL1 h1, fitsL1 h2]
  simp
theorem fits_not {L : List Lab} {x : Mt} (hk : x.k = 1) (h : fitsE L [x] = 0) : fitsE L [⟨2, x.nm, x.v⟩] = 0 ∧ fitsL L [⟨2, x.nm, x.v⟩] = !fitsL L [x] := by
  have h2 : fitsE L [⟨2, x.nm, x.v⟩] = 0 := (fitsE1 L x (by omega) (k := 2) ⟨by decide, by decide⟩).trans h
  refine ⟨h2, ?_⟩
  rw [fitsL1 h2, fitsL1 h]
  unfold fitL
  simp only [hk]
  simp

set_option maxRecDepth 1000000 in
set_option maxHeartbeats 8000000 in
theorem labelNot_any (w : World) (A : Option Addr) (c : Nat) (L : List Lab) (hL : ∀ e ∈ L, LabOk e) (hnc : L.length ≤ c) (hcm : c ≤ maxLen) (_hA : A = none → c = 0) (h : Has w w.heap.size A (labCs L)) (_hr : L.length * 32 ≤ 140737488351232) (x : Mt) (hx : MtOk x) (y : Mt) (hy : MtOk y) (hlen : LenAt w) :
    Calls Tryd.prog 3 #[.slice A L.length c, .agg #[.int .i64 x.k, .string x.nm, .string x.v], .agg #[.int .i64 y.k, .string y.nm, .string y.v]] w (R1 (.bool true) (Below w.heap.size w)) := by
  obtain ⟨n, hn⟩ : ∃ n, L.length = n := ⟨_, rfl⟩
  have hc : n ≤ maxLen := by omega
  rw [hn] at ⊢
  clear hnc hcm
  have h1 := lfits1 A n c L hn hc hL w hlen h x hx
  have h2 := lfits1 A n c L hn hc hL w hlen h y hy
  have h3 := lfits2 A n c L hn hc hL w hlen h x y hx hy
  have h4 := lfits1 A n c L hn hc hL w hlen h ⟨2, x.nm, x.v⟩ ⟨⟨by simp, by simp⟩, hx.2.1, hx.2.2⟩
  obtain ⟨E1, hE1⟩ : ∃ E, fitsE L [x] = E := ⟨_, rfl⟩
  obtain ⟨E2, hE2⟩ : ∃ E, fitsE L [y] = E := ⟨_, rfl⟩
  obtain ⟨E3, hE3⟩ : ∃ E, fitsE L [x, y] = E := ⟨_, rfl⟩
  obtain ⟨E4, hE4⟩ : ∃ E, fitsE L [⟨2, x.nm, x.v⟩] = E := ⟨_, rfl⟩
  obtain ⟨b1, hb1⟩ : ∃ b, fitsL L [x] = b := ⟨_, rfl⟩
  obtain ⟨b2, hb2⟩ : ∃ b, fitsL L [y] = b := ⟨_, rfl⟩
  obtain ⟨b3, hb3⟩ : ∃ b, fitsL L [x, y] = b := ⟨_, rfl⟩
  obtain ⟨b4, hb4⟩ : ∃ b, fitsL L [⟨2, x.nm, x.v⟩] = b := ⟨_, rfl⟩
  have hbad : ¬ (E1 = 0 ∧ E2 = 0) → b3 = false := fun g => hb3.symm.trans (fitsL_bad (fun k => g (by
    obtain ⟨g1, g2⟩ := (fits_two L x y).1 k
    exact ⟨hE1.symm.trans g1, hE2.symm.trans g2⟩)))
  have hok : E1 = 0 ∧ E2 = 0 → E3 = 0 ∧ b3 = (b1 && b2) := fun g => by
    have k := (fits_two L x y).2 ⟨hE1.trans g.1, hE2.trans g.2⟩
    exact ⟨hE3.symm.trans k, by rw [← hb3, fitsL_two k, hb1, hb2]⟩
  have hnot : E1 = 0 → x.k = 1 → E4 = 0 ∧ b4 = !b1 := fun g g2 => by
    obtain ⟨k1, k2⟩ := fits_not (L := L) g2 (hE1.trans g)
    exact ⟨hE4.symm.trans k1, by rw [← hb4, k2, hb1]⟩
  rw [hE1, hb1] at h1
  rw [hE2, hb2] at h2
  rw [hE3, hb3] at h3
  rw [hE4, hb4] at h4
  have H1 := Lib.hid h1
  have H2 := Lib.hid h2
  have H3 := Lib.hid h3
  have H4 := Lib.hid h4
  have HB := Lib.hid hbad
  have HO := Lib.hid hok
  have HN := Lib.hid hnot
  have hgd := Lib.hid (fun (w : World) (e f : Int) => good_any _ 2 2 [e, f] rfl (by simp) _ (Has.fresh w #[.int .i64 e, .int .i64 f] 26))
  have HA := Lib.hid (fun w => labels_any w)
  clear h1 h2 h3 h4 hbad hok hnot hE1 hE2 hE3 hE4 hb1 hb2 hb3 hb4 hn h hL hlen hx hy
  obtain ⟨q, nm, v⟩ := x
  obtain ⟨q', nm', v'⟩ := y
  simp only [] at H1 H2 H3 H4 HN ⊢
  obtain ⟨W0, hW0⟩ : ∃ W0, (w.alloc (.cells #[.int .i64 q, .string nm, .string v] 24)).alloc (.cells #[.int .i64 q', .string nm', .string v'] 24) = W0 := ⟨_, rfl⟩
  obtain ⟨g, hg⟩ : ∃ g, w.heap.size = g := ⟨_, rfl⟩
  have hb0 : Below w.heap.size w W0 := by rw [← hW0]; exact bnext (one_allocL w _) (one_allocL _ _)
  have ka : Blk W0 g 24 #[.int .i64 q, .string nm, .string v] := by rw [← hW0, ← hg]; exact (Blk.new _ _ _).alloc _
  have kb : Blk W0 (g + 1) 24 #[.int .i64 q', .string nm', .string v'] := by
    have h := Blk.new (w.alloc (.cells #[.int .i64 q, .string nm, .string v] 24)) 24 #[.int .i64 q', .string nm', .string v']
    rw [World.size_alloc, hg, hW0] at h
    exact h
  have HW := Lib.hid hW0
  have HG := Lib.hid hg
  clear hW0 hg
  go_enter Tryd.func3, Tryd.ntmps3
  go_wp2_with fail
  rw [HW.out, HG.out]
  refine (HA.out W0).mono ?_
  rintro e w1 ⟨rfl, hb1⟩
  have ka1 := ka.next hb1
  have kb1 := kb.next hb1
  have hb01 := bnext hb0 hb1
  have y0 : w1.cell? ⟨g, 0, none⟩ = some (.int .i64 q) := ka1.cell 0
  have y1 : w1.cell? ⟨g, 1, none⟩ = some (.string nm) := ka1.cell 1
  have y2 : w1.cell? ⟨g, 2, none⟩ = some (.string v) := ka1.cell 2
  clear hb1 ka kb
  go_wp2_with fail
  refine (H1.out w1 hb01).mono ?_
  rintro e w2 ⟨rfl, hb2⟩
  have ka2 := ka1.next hb2
  have kb2 := kb1.next hb2
  have hb02 := bnext hb01 hb2
  clear y0 y1 y2
  have y0 : w2.cell? ⟨g + 1, 0, none⟩ = some (.int .i64 q') := kb2.cell 0
  have y1 : w2.cell? ⟨g + 1, 1, none⟩ = some (.string nm') := kb2.cell 1
  have y2 : w2.cell? ⟨g + 1, 2, none⟩ = some (.string v') := kb2.cell 2
  clear hb2 hb01 ka1 kb1
  go_wp2_with fail
  refine (H2.out w2 hb02).mono ?_
  rintro e w3 ⟨rfl, hb3⟩
  have ka3 := ka2.next hb3
  have kb3 := kb2.next hb3
  have hb03 := bnext hb02 hb3
  clear y0 y1 y2
  have y0 : w3.cell? ⟨g + 1, 0, none⟩ = some (.int .i64 q') := kb3.cell 0
  have y1 : w3.cell? ⟨g + 1, 1, none⟩ = some (.string nm') := kb3.cell 1
  have y2 : w3.cell? ⟨g + 1, 2, none⟩ = some (.string v') := kb3.cell 2
  have z0 : w3.cell? ⟨g, 0, none⟩ = some (.int .i64 q) := ka3.cell 0
  have z1 : w3.cell? ⟨g, 1, none⟩ = some (.string nm) := ka3.cell 1
  have z2 : w3.cell? ⟨g, 2, none⟩ = some (.string v) := ka3.cell 2
  clear hb3 hb02 ka2 kb2
  go_wp2_with fail
  refine (H3.out w3 hb03).mono ?_
  rintro e w4 ⟨rfl, hb4⟩
  have ka4 := ka3.next hb4
  have hb04 := bnext hb03 hb4
  clear y0 y1 y2 z0 z1 z2 hb4 hb03 ka3 kb3
  have HD := Lib.hid (hgd.out w4 E1 E2)
  by_cases hz : E1 = 0 ∧ E2 = 0
  · obtain ⟨hE3, hb3⟩ := HO.out hz
    obtain ⟨rfl, rfl⟩ := hz
    subst hE3 hb3
    go_wp2_with fail
    refine HD.out.mono ?_
    rintro e w5 ⟨rfl, hd5⟩
    have hb45 := bnext (one_allocL w4 (.cells #[.int .i64 0, .int .i64 0] 26)) (drawn_below hd5)
    have hb05 := bnext hb04 hb45
    have ka5 := ka4.next hb45
    have z0 : w5.cell? ⟨g, 0, none⟩ = some (.int .i64 q) := ka5.cell 0
    have hf : w5.frozen? ⟨g, 0, none⟩ = false := ka5.frozen 0
    have hsz : g < w5.heap.size := ka5.lt
    clear hd5 hb45 hb04 ka4
    by_cases hq : q = 1
    · obtain ⟨rfl, hb4⟩ := HN.out (by first | rfl | trivial) hq
      subst hb4 hq
      obtain ⟨W6, hW6⟩ : ∃ W6, w5.setCell ⟨g, 0, none⟩ (.int .i64 2) = W6 := ⟨_, rfl⟩
      have ka6 : Blk W6 g 24 #[.int .i64 2, .string nm, .string v] := by rw [← hW6]; exact ka5.set 0 _
      have hb06 : Below w.heap.size w W6 := by rw [← hW6]; exact hb05.setCell (by rw [HG.out]; exact Nat.le_refl _) _
      have HW6 := Lib.hid hW6
      have z1 : w5.cell? ⟨g, 1, none⟩ = some (.string nm) := ka5.cell 1
      have z2 : w5.cell? ⟨g, 2, none⟩ = some (.string v) := ka5.cell 2
      have hs6 : W6.heap.size = w5.heap.size := by rw [← hW6]; simp [World.setCell]
      have h4' := H4.out W6 hb06
      rw [hs6] at h4'
      have H4' := Lib.hid h4'
      clear hW6 h4' hs6
      cases b1 <;> cases b2
      all_goals
        go_wp2_with fail
        rw [HW6.out]
        refine H4'.out.mono ?_
        rintro e w7 ⟨rfl, hb7⟩
        have hb07 := hb06.trans (hb7.mono hb05.size)
        clear hb7
        go_wp2_with fail
        go_ret
        exact R1.mk rfl hb07
    · have f1 : (q == 1) = false := beq_eq_false_iff_ne.2 hq
      clear hq
      cases b1 <;> cases b2
      all_goals
        go_wp2_with fail
        go_ret
        exact R1.mk rfl hb05
  · have e3 := HB.out hz
    subst e3
    have hall : [E1, E2].all (· == 0) = false := by
      rw [← Bool.not_eq_true]
      intro g
      simp at g
      exact hz g
    rw [hall] at HD
    clear hz hall
    go_wp2_with fail
    refine HD.out.mono ?_
    rintro e w5 ⟨rfl, hd5⟩
    have hb05 := bnext hb04 (bnext (one_allocL w4 _) (drawn_below hd5))
    clear hd5
    go_wp2_with fail
    go_ret
    exact R1.mk rfl hb05
end Go.Proofs.YtmfndpkhcejffaaDoor
