/- The law LabelBack, walked: true. Conditions: what comes in lies in its cells; the table of signs. -/
import Derived.Test.YtmfndpkhcejffaaGreatDoorLbBackLaw2
import Derived.Test.YtmfndpkhcejffaaGreatDoorEqLab
import Derived.Test.YtmfndpkhcejffaaGreatDoorLbAlive
namespace Go.Proofs.YtmfndpkhcejffaaGreatDoor
open Go.RowKit

set_option maxRecDepth 1000000 in
theorem sameLab_any (A B : Option Addr) (n c d : Nat) (L : List Lab) (hn : L.length = n) (hl : n ≤ maxLen) (w : World) (h : Has w w.heap.size A (labCs L)) (h' : Has w w.heap.size B (labCs L)) :
    Calls Tryz.prog 7 #[.slice A n c, .slice B n d] w (R1 (.bool true) (Below w.heap.size w)) := by
  have HE := Lib.hid (equalLab_any A B n c d L hn hl w h h')
  clear h h'
  go_enter Tryz.func7, Tryz.ntmps7
  go_wp2_with fail
  refine HE.out.mono ?_
  rintro e w1 ⟨rfl, hb1⟩
  go_wp2_with fail
  go_ret
  exact R1.mk rfl hb1

set_option maxRecDepth 1000000 in
set_option maxHeartbeats 4000000 in
theorem labelBack_any (w : World) (A : Option Addr) (c : Nat) (L : List Lab) (hL : ∀ e ∈ L, LabOk e) (hl : L.length ≤ c) (hc : c ≤ maxLen) (_hA : A = none → c = 0) (h : Has w w.heap.size A (labCs L)) (_hr : L.length * 32 ≤ 140737488351232)
    (B : Option Addr) (d : Nat) (M : List Mt) (hM : ∀ e ∈ M, MtOk e) (hm : M.length ≤ d) (hd : d ≤ maxLen) (_hB : B = none → d = 0) (h' : Has w w.heap.size B (mtCs M)) (_hr' : M.length * 40 ≤ 140737488351232) (tS : SgAt w) :
    Calls Tryz.prog 3 #[.slice A L.length c, .slice B M.length d] w (R1 (.bool true) (Below w.heap.size w)) := by
  have HS := Lib.hid tS
  have HA := Lib.hid h
  have HB := Lib.hid h'
  have e0 : ((⟨#[]⟩ : ByteArray).toList.isEmpty) = true := by rw [Lib.toList_data]; rfl
  -- the second half, from a world in which the first has ended
  have HT := Lib.hid (fun (w1 : World) (hb : Below w.heap.size w w1) => lbtext_any A L.length c L rfl (by omega) w1 (h.next hb) hL (tS.next hb))
  have HM := Lib.hid (fun (w1 : World) (hb : Below w.heap.size w w1) => lmtext_any B M.length d M rfl (by omega) w1 (h'.next hb) hM (tS.next hb))
  obtain ⟨xt, hxt⟩ : ∃ x, textN L = x := ⟨_, rfl⟩
  obtain ⟨xm, hxm⟩ : ∃ x, mtextN M = x := ⟨_, rfl⟩
  rw [hxt] at HT
  rw [hxm] at HM
  obtain ⟨ts, te⟩ := xt
  obtain ⟨ms, me⟩ := xm
  have K1 := Lib.hid (show te = 0 → ts.size ≤ 1200 ∧ readL ts = (L, 0) from fun hz => by
    unfold textN at hxt
    split at hxt
    · rename_i q
      injection hxt with _ h2
      exact absurd (h2.trans hz) q
    · rename_i q
      have q : chkL L = 0 := by simpa using q
      injection hxt with h2 _
      rw [← h2]
      exact ⟨txtB_size (chkM_asM q), readL_told q⟩)
  have K2 := Lib.hid (show te ≠ 0 → ts = ⟨#[]⟩ from fun hz => by
    unfold textN at hxt
    split at hxt
    · injection hxt with h2 _; exact h2.symm
    · injection hxt with _ h2; exact absurd h2.symm hz)
  have K3 := Lib.hid (show me = 0 → ms.size ≤ 1200 ∧ readN ms = (M, 0) from fun hz => by
    unfold mtextN at hxm
    split at hxm
    · rename_i q
      injection hxm with _ h2
      exact absurd (h2.trans hz) q
    · rename_i q
      have q : chkM M = 0 := by simpa using q
      injection hxm with h2 _
      rw [← h2]
      exact ⟨txtB_size q, readN_told q⟩)
  have K4 := Lib.hid (show me ≠ 0 → ms = ⟨#[]⟩ from fun hz => by
    unfold mtextN at hxm
    split at hxm
    · injection hxm with h2 _; exact h2.symm
    · injection hxm with _ h2; exact absurd h2.symm hz)
  have hlm : L.length ≤ maxLen := Nat.le_trans hl hc
  have hmm : M.length ≤ maxLen := Nat.le_trans hm hd
  clear hL hM h h' tS hxt hxm hl hc hm hd _hA _hB _hr _hr'
  go_enter Tryz.func3, Tryz.ntmps3
  go_wp2_with fail
  refine (labels_any _).mono ?_
  rintro e w1 ⟨rfl, hb1⟩
  go_wp2_with fail
  refine (HT.out w1 hb1).mono ?_
  rintro e w2 ⟨rfl, hb2⟩
  have hb02 := bnext hb1 hb2
  by_cases z1 : te = 0
  · subst z1
    obtain ⟨k1, k2⟩ := K1.out rfl
    have hR := lread_any ts (by omega) w2 (HS.out.next hb02)
    rw [k2] at hR
    have HR := Lib.hid hR
    clear hR k1 k2 K1 K2
    go_wp2_with fail
    refine HR.out.mono ?_
    rintro e w3 ⟨v, rfl, A', c', rfl, hown, hb3⟩
    simp only [] at hown
    have hb03 := bnext hb02 hb3
    have HE := Lib.hid (sameLab_any A A' L.length c c' L rfl hlm w3 (HA.out.next hb03) (Has.of_own hown))
    clear hown
    go_wp2_with fail
    refine HE.out.mono ?_
    rintro e w4 ⟨rfl, hb4⟩
    have hb04 := bnext hb03 hb4
    go_wp2_with fail
    refine (HM.out w4 hb04).mono ?_
    rintro e w5 ⟨rfl, hb5⟩
    have hb05 := bnext hb04 hb5
    by_cases z2 : me = 0
    · subst z2
      obtain ⟨k1, k2⟩ := K3.out rfl
      have hR := lreadm_any ms (by omega) w5 (HS.out.next hb05)
      rw [k2] at hR
      have HR := Lib.hid hR
      clear hR k1 k2 K3 K4
      go_wp2_with fail
      refine HR.out.mono ?_
      rintro e w6 ⟨v, rfl, B', d', rfl, hown, hb6⟩
      simp only [] at hown
      have hb06 := bnext hb05 hb6
      have HE := Lib.hid (equalMt_any B B' M.length d d' M rfl hmm w6 (HB.out.next hb06) (Has.of_own hown))
      clear hown
      go_wp2_with fail
      refine HE.out.mono ?_
      rintro e w7 ⟨rfl, hb7⟩
      go_wp2_with fail
      go_ret
      exact R1.mk rfl (bnext hb06 hb7)
    · have z2' : (me == 0) = false := by rw [beq_eq_false_iff_ne]; exact z2
      have hms := K4.out z2
      subst hms
      go_wp2_with fail
      go_ret
      exact R1.mk rfl hb05
  · have z1' : (te == 0) = false := by rw [beq_eq_false_iff_ne]; exact z1
    have hts := K2.out z1
    subst hts
    clear K1 K2
    go_wp2_with fail
    refine (HM.out w2 hb02).mono ?_
    rintro e w5 ⟨rfl, hb5⟩
    have hb05 := bnext hb02 hb5
    by_cases z2 : me = 0
    · subst z2
      obtain ⟨k1, k2⟩ := K3.out rfl
      have hR := lreadm_any ms (by omega) w5 (HS.out.next hb05)
      rw [k2] at hR
      have HR := Lib.hid hR
      clear hR k1 k2 K3 K4
      go_wp2_with fail
      refine HR.out.mono ?_
      rintro e w6 ⟨v, rfl, B', d', rfl, hown, hb6⟩
      simp only [] at hown
      have hb06 := bnext hb05 hb6
      have HE := Lib.hid (equalMt_any B B' M.length d d' M rfl hmm w6 (HB.out.next hb06) (Has.of_own hown))
      clear hown
      go_wp2_with fail
      refine HE.out.mono ?_
      rintro e w7 ⟨rfl, hb7⟩
      go_wp2_with fail
      go_ret
      exact R1.mk rfl (bnext hb06 hb7)
    · have z2' : (me == 0) = false := by rw [beq_eq_false_iff_ne]; exact z2
      have hms := K4.out z2
      subst hms
      go_wp2_with fail
      go_ret
      exact R1.mk rfl hb05
end Go.Proofs.YtmfndpkhcejffaaGreatDoor
