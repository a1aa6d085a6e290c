/- The law LabelOne, walked: true. Conditions: the text is no giant; the table of signs. -/
import Derived.Test.YtmfndpkhcejffaaDoorLbReadL
import Derived.Test.YtmfndpkhcejffaaDoorLbAlive
namespace Go.Proofs.YtmfndpkhcejffaaDoor
open Go.RowKit

theorem readL_one {s : ByteArray} {l : List Lab} (h : readL s = (l, 0)) : textN l = (s, 0) := by
  unfold readL at h
  split at h
  · rename_i h0
    have := congrArg Prod.snd h
    exact absurd this h0
  · split at h
    · rename_i h1
      injection h with h2 _
      rw [← h2]; exact h1
    · injection h with _ h3
      exact absurd h3 (by decide)
theorem readN_one {s : ByteArray} {l : List Mt} (h : readN s = (l, 0)) : mtextN l = (s, 0) := by
  unfold readN at h
  split at h
  · cases hu : rdGo (s.size + 1) ⟨(Lib.trimPrefix s.data.toList (⟨#[123]⟩ : ByteArray).data.toList).toArray⟩ [] with
    | none =>
      rw [hu] at h
      injection h with _ h3
      exact absurd h3 (by decide)
    | some o =>
      rw [hu] at h
      unfold fin2 at h
      simp only [] at h
      split at h
      · rename_i h1
        injection h with h2 _
        rw [← h2]; exact h1
      · injection h with _ h3
        exact absurd h3 (by decide)
  · injection h with _ h3
    exact absurd h3 (by decide)
theorem readN_no {s : ByteArray} (h : (readN s).2 ≠ 0) : readN s = ([], 4) ∧ readL s = ([], 4) := by
  have h1 : readN s = ([], 4) := by
    unfold readN at h ⊢
    split at h
    · rename_i hp
      rw [if_pos hp]
      cases hu : rdGo (s.size + 1) ⟨(Lib.trimPrefix s.data.toList (⟨#[123]⟩ : ByteArray).data.toList).toArray⟩ [] with
      | none => rfl
      | some o =>
        rw [hu] at h
        unfold fin2 at h ⊢
        simp only [] at h ⊢
        split at h
        · exact absurd rfl h
        · rename_i q; rw [if_neg q]
    · rename_i hp
      rw [if_neg hp]
  refine ⟨h1, ?_⟩
  unfold readL
  rw [h1]
  rfl
theorem readL_ok (s : ByteArray) (hs : s.size ≤ maxLen) : (∀ x ∈ (readL s).1, LabOk x) ∧ (readL s).1.length ≤ s.size := by
  obtain ⟨h1, h2⟩ := readN_ok s
  unfold readL
  split
  · exact ⟨by simp, by simp⟩
  · split
    · refine ⟨fun x hx => ?_, by rw [List.length_map]; exact h2⟩
      obtain ⟨y, hy, rfl⟩ := List.mem_map.1 hx
      exact ⟨Nat.le_trans (h1 y hy).1 hs, Nat.le_trans (h1 y hy).2 hs⟩
    · exact ⟨by simp, by simp⟩
theorem readN_mok (s : ByteArray) (hs : s.size ≤ maxLen) : ∀ x ∈ (readN s).1, MtOk x := by
  unfold readN
  split
  · obtain ⟨t, ht⟩ : ∃ t : ByteArray, ⟨(Lib.trimPrefix s.data.toList (⟨#[123]⟩ : ByteArray).data.toList).toArray⟩ = t := ⟨_, rfl⟩
    have hts : t.size ≤ s.size := by
      rw [← ht]
      show (Lib.trimPrefix s.data.toList (⟨#[123]⟩ : ByteArray).data.toList).toArray.size ≤ s.data.size
      rw [List.size_toArray, ← Array.length_toList]
      unfold Lib.trimPrefix
      split <;> first | (rw [List.length_drop]; omega) | exact Nat.le_refl _
    rw [ht]
    cases hu : rdGo (s.size + 1) t [] with
    | none => simp [fin2]
    | some o =>
      obtain ⟨h1, h2⟩ := rdGo_ok _ _ _ _ s.size hts hu (by simp)
      unfold fin2
      simp only []
      split
      · intro x hx
        obtain ⟨a, b, c, d⟩ := h1 x hx
        exact ⟨by unfold in64; omega, Nat.le_trans a hs, Nat.le_trans b hs⟩
      · simp
  · simp

set_option maxRecDepth 1000000 in
set_option maxHeartbeats 4000000 in
theorem labelOne_any (w : World) (s : ByteArray) (hs : s.size < 4294967281) (tS : SgAt w) :
    Calls Tryd.prog 6 #[.string s] w (R1 (.bool true) (Below w.heap.size w)) := by
  have HS := Lib.hid tS
  have HL := Lib.hid (fun (w1 : World) (hb : Below w.heap.size w w1) => lread_any s hs w1 (tS.next hb))
  have HM := Lib.hid (fun (w1 : World) (hb : Below w.heap.size w w1) => lreadm_any s hs w1 (tS.next hb))
  have hsm : s.size ≤ maxLen := by unfold maxLen; omega
  obtain ⟨ok1, ok2⟩ := readL_ok s hsm
  have ok3 := readN_mok s hsm
  obtain ⟨_, ok4⟩ := readN_ok s
  have hn := readN_no (s := s)
  have hl1 := fun l => readL_one (s := s) (l := l)
  have hm1 := fun l => readN_one (s := s) (l := l)
  obtain ⟨xl, hxl⟩ : ∃ x, readL s = x := ⟨_, rfl⟩
  obtain ⟨xm, hxm⟩ : ∃ x, readN s = x := ⟨_, rfl⟩
  rw [hxl] at HL ok1 ok2 hn hl1
  rw [hxm] at HM ok3 ok4 hn hm1
  obtain ⟨L, e1⟩ := xl
  obtain ⟨M, e2⟩ := xm
  simp only [] at ok1 ok2 ok3 ok4 hn
  have OK1 := Lib.hid ok1
  have OK3 := Lib.hid ok3
  have HN := Lib.hid hn
  have HL1 := Lib.hid hl1
  have HM1 := Lib.hid hm1
  have hss : (s.toList == s.toList) = true := by simp
  clear tS ok1 ok3 hn hl1 hm1 hxl hxm hsm
  go_enter Tryd.func6, Tryd.ntmps6
  go_wp2_with fail
  refine (labels_any _).mono ?_
  rintro e w1 ⟨rfl, hb1⟩
  go_wp2_with fail
  refine (HL.out w1 hb1).mono ?_
  rintro e w2 ⟨v, rfl, A, c, rfl, hown, hb2⟩
  simp only [] at hown
  have hb02 := bnext hb1 hb2
  by_cases z1 : e1 = 0
  · subst z1
    have hT := lbtext_any A L.length c L rfl (by unfold maxLen; omega) w2 (Has.of_own hown) OK1.out (HS.out.next hb02)
    rw [HL1.out L rfl] at hT
    have HT := Lib.hid hT
    clear hown hT
    go_wp2_with fail
    refine HT.out.mono ?_
    rintro e w3 ⟨rfl, hb3⟩
    have hb03 := bnext hb02 hb3
    go_wp2_with fail
    refine (HM.out w3 hb03).mono ?_
    rintro e w4 ⟨v, rfl, A', c', rfl, hown', hb4⟩
    simp only [] at hown'
    have hb04 := bnext hb03 hb4
    by_cases z2 : e2 = 0
    · subst z2
      have hT := lmtext_any A' M.length c' M rfl (by unfold maxLen; omega) w4 (Has.of_own hown') OK3.out (HS.out.next hb04)
      rw [HM1.out M rfl] at hT
      have HT := Lib.hid hT
      clear hown' hT
      go_wp2_with fail
      refine HT.out.mono ?_
      rintro e w5 ⟨rfl, hb5⟩
      go_wp2_with fail
      go_ret
      exact R1.mk rfl (bnext hb04 hb5)
    · have h5 := (HN.out z2).2
      injection h5 with _ h6
      exact absurd h6 (by decide)
  · have z1' : (e1 == 0) = false := by rw [beq_eq_false_iff_ne]; exact z1
    clear hown
    go_wp2_with fail
    refine (HM.out w2 hb02).mono ?_
    rintro e w4 ⟨v, rfl, A', c', rfl, hown', hb4⟩
    simp only [] at hown'
    have hb04 := bnext hb02 hb4
    by_cases z2 : e2 = 0
    · subst z2
      have hT := lmtext_any A' M.length c' M rfl (by unfold maxLen; omega) w4 (Has.of_own hown') OK3.out (HS.out.next hb04)
      rw [HM1.out M rfl] at hT
      have HT := Lib.hid hT
      clear hown' hT
      go_wp2_with fail
      refine HT.out.mono ?_
      rintro e w5 ⟨rfl, hb5⟩
      go_wp2_with fail
      go_ret
      exact R1.mk rfl (bnext hb04 hb5)
    · have h5 := (HN.out z2).1
      injection h5 with h6 h7
      subst h6 h7
      clear hown'
      go_wp2_with fail
      go_ret
      exact R1.mk (by show Value.bool (e1 != 0) = Value.bool true; simp [bne, z1']) hb04
end Go.Proofs.YtmfndpkhcejffaaDoor
