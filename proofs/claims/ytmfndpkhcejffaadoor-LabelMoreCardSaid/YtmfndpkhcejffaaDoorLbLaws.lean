/- The laws of what fits: LabelNot, LabelFront. Conditions: what comes in lies in its cells. -/
import Derived.Test.YtmfndpkhcejffaaDoorLbAlive
import Derived.Test.YtmfndpkhcejffaaDoorGood
namespace Go.Proofs.YtmfndpkhcejffaaDoor
open Go.RowKit

theorem has_mt (w : World) (x : Mt) : Has (w.alloc (.cells #[.int .i64 x.k, .string x.nm, .string x.v] 24)) (w.alloc (.cells #[.int .i64 x.k, .string x.nm, .string x.v] 24)).heap.size (some ⟨w.heap.size, 0, none⟩) (mtCs [x]) := Has.fresh w #[.int .i64 x.k, .string x.nm, .string x.v] 24
theorem has_mt2 (w : World) (x y : Mt) : Has (w.alloc (.cells #[.int .i64 x.k, .string x.nm, .string x.v, .int .i64 y.k, .string y.nm, .string y.v] 24)) (w.alloc (.cells #[.int .i64 x.k, .string x.nm, .string x.v, .int .i64 y.k, .string y.nm, .string y.v] 24)).heap.size (some ⟨w.heap.size, 0, none⟩) (mtCs [x, y]) := Has.fresh w #[.int .i64 x.k, .string x.nm, .string x.v, .int .i64 y.k, .string y.nm, .string y.v] 24
theorem one_allocL (w : World) (o : Obj) : Below w.heap.size w (w.alloc o) := (Below.refl _ _).alloc (Nat.le_refl _) _
/-- Fits of one match that the call has built -/
theorem lfits1 (A : Option Addr) (n c : Nat) (L : List Lab) (hn : L.length = n) (hl : n ≤ maxLen) (hL : ∀ e ∈ L, LabOk e) (w : World) (hlen : LenAt w) (h : Has w w.heap.size A (labCs L)) (x : Mt) (hx : MtOk x) (w' : World) (hb : Below w.heap.size w w') :
    Calls Tryd.prog 8 #[.slice A n c, .slice (some ⟨w'.heap.size, 0, none⟩) 1 1] (w'.alloc (.cells #[.int .i64 x.k, .string x.nm, .string x.v] 24)) (R1 (.tuple #[.bool (fitsL L [x]), .int .i64 (fitsE L [x])]) (Below w'.heap.size w')) := by
  refine (lfits_any A (some ⟨w'.heap.size, 0, none⟩) n 1 c 1 L [x] hn rfl hl (by decide) _ ((hlen.next hb).next (one_allocL w' _)) ((h.next hb).next (one_allocL w' _)) (has_mt w' x) hL (fun e he => by rw [List.mem_singleton.1 he]; exact hx)).mono ?_
  rintro e w2 ⟨rfl, hb2⟩
  exact R1.mk rfl (bnext (one_allocL w' _) hb2)
theorem lfits2 (A : Option Addr) (n c : Nat) (L : List Lab) (hn : L.length = n) (hl : n ≤ maxLen) (hL : ∀ e ∈ L, LabOk e) (w : World) (hlen : LenAt w) (h : Has w w.heap.size A (labCs L)) (x y : Mt) (hx : MtOk x) (hy : MtOk y) (w' : World) (hb : Below w.heap.size w w') :
    Calls Tryd.prog 8 #[.slice A n c, .slice (some ⟨w'.heap.size, 0, none⟩) 2 2] (w'.alloc (.cells #[.int .i64 x.k, .string x.nm, .string x.v, .int .i64 y.k, .string y.nm, .string y.v] 24)) (R1 (.tuple #[.bool (fitsL L [x, y]), .int .i64 (fitsE L [x, y])]) (Below w'.heap.size w')) := by
  refine (lfits_any A (some ⟨w'.heap.size, 0, none⟩) n 2 c 2 L [x, y] hn rfl hl (by decide) _ ((hlen.next hb).next (one_allocL w' _)) ((h.next hb).next (one_allocL w' _)) (has_mt2 w' x y) hL (fun e he => by
    rcases List.mem_cons.1 he with rfl | he
    · exact hx
    · rw [List.mem_singleton.1 he]; exact hy)).mono ?_
  rintro e w2 ⟨rfl, hb2⟩
  exact R1.mk rfl (bnext (one_allocL w' _) hb2)

/-- what begins so has it -/
theorem contains_pre {s p : List UInt8} (h : Lib.hasPrefix s p = true) : Lib.contains s p = true := by
  unfold Lib.contains
  rw [decide_eq_true_eq]
  rcases Lib.index_spec s p with ⟨_, h2⟩ | ⟨i, h1, _⟩
  · have := h2 0 (Nat.zero_le _)
    unfold Lib.occAt at this
    unfold Lib.hasPrefix at h
    rw [List.drop_zero, h] at this
    cases this
  · omega
theorem mtErr1 {x : Mt} (h : 1 ≤ x.k ∧ x.k ≤ 4) {k : Int} (hk : 1 ≤ k ∧ k ≤ 4) : mtErr ⟨k, x.nm, x.v⟩ = mtErr x := by
  unfold mtErr
  rw [if_neg (show ¬ (k < 1 ∨ 4 < k) by omega), if_neg (show ¬ (x.k < 1 ∨ 4 < x.k) by omega)]
theorem chkM1 (x : Mt) : chkM [x] = mtErr x := by
  unfold chkM chkMGo fstE
  rw [if_neg (by simp)]
  by_cases h : mtErr x = 0
  · rw [if_neg (fun g => g h), h]; rfl
  · rw [if_pos h]
theorem fitsE1 (L : List Lab) (x : Mt) (h : 1 ≤ x.k ∧ x.k ≤ 4) {k : Int} (hk : 1 ≤ k ∧ k ≤ 4) : fitsE L [⟨k, x.nm, x.v⟩] = fitsE L [x] := by
  unfold fitsE
  rw [chkM1, chkM1, mtErr1 h hk]
theorem fitsL1 {L : List Lab} {x : Mt} (h : fitsE L [x] = 0) : fitsL L [x] = fitL L x := by
  rw [(fitsL_ok h).1, List.all_cons, List.all_nil, Bool.and_true]
theorem fits_chain {L : List Lab} {a v : ByteArray} (h : fitsE L [⟨1, a, v⟩] = 0) :
    (fitsL L [⟨1, a, v⟩] = true → fitsL L [⟨3, a, v⟩] = true) ∧ (fitsL L [⟨3, a, v⟩] = true → fitsL L [⟨4, a, v⟩] = true) ∧ (v = noS → fitsL L [⟨4, a, v⟩] = true) := by
  have h3 : fitsE L [⟨3, a, v⟩] = 0 := (fitsE1 L ⟨1, a, v⟩ (show (1 : Int) ≤ 1 ∧ (1 : Int) ≤ 4 from ⟨by decide, by decide⟩) (k := 3) ⟨by decide, by decide⟩).trans h
  have h4 : fitsE L [⟨4, a, v⟩] = 0 := (fitsE1 L ⟨1, a, v⟩ (show (1 : Int) ≤ 1 ∧ (1 : Int) ≤ 4 from ⟨by decide, by decide⟩) (k := 4) ⟨by decide, by decide⟩).trans h
  rw [fitsL1 h, fitsL1 h3, fitsL1 h4]
  have e1 : fitL L ⟨1, a, v⟩ = decide (valL L a = v) := by unfold fitL; rw [if_pos rfl]
  have e3 : fitL L ⟨3, a, v⟩ = Lib.hasPrefix (valL L a).data.toList v.data.toList := by unfold fitL; rw [if_neg (by simp), if_neg (by simp), if_pos rfl]
  have e4 : fitL L ⟨4, a, v⟩ = Lib.contains (valL L a).data.toList v.data.toList := by unfold fitL; rw [if_neg (by simp), if_neg (by simp), if_neg (by simp)]
  rw [e1, e3, e4]
  refine ⟨fun g => ?_, fun g => contains_pre g, fun g => contains_pre ?_⟩
  · rw [decide_eq_true_eq] at g
    rw [g]
    unfold Lib.hasPrefix
    exact List.isPrefixOf_iff_prefix.2 (List.prefix_refl _)
  · rw [g]; rfl

set_option maxRecDepth 1000000 in
set_option maxHeartbeats 8000000 in
theorem labelFront_any (w : World) (A : Option Addr) (c : Nat) (L : List Lab) (hL : ∀ e ∈ L, LabOk e) (hnc : L.length ≤ c) (hcm : c ≤ maxLen) (_hA : A = none → c = 0) (h : Has w w.heap.size A (labCs L)) (_hr : L.length * 32 ≤ 140737488351232) (a : ByteArray) (ha : a.size ≤ maxLen) (v : ByteArray) (hv : v.size ≤ maxLen) (hlen : LenAt w) :
    Calls Tryd.prog 4 #[.slice A L.length c, .string a, .string v] w (R1 (.bool true) (Below w.heap.size w)) := by
  obtain ⟨n, hn⟩ : ∃ n, L.length = n := ⟨_, rfl⟩
  have hc : n ≤ maxLen := by omega
  rw [hn] at ⊢
  clear hnc hcm
  have HF := Lib.hid (fun (k : Int) (hk : in64 k) => lfits1 A n c L hn hc hL w hlen h ⟨k, a, v⟩ ⟨hk, ha, hv⟩)
  have h1 := HF.out 1 ⟨by decide, by decide⟩
  have h3 := HF.out 3 ⟨by decide, by decide⟩
  have h4 := HF.out 4 ⟨by decide, by decide⟩
  have HA := Lib.hid (labels_any w)
  obtain ⟨E, hE⟩ : ∃ E, fitsE L [⟨1, a, v⟩] = E := ⟨_, rfl⟩
  have hE3 : fitsE L [⟨3, a, v⟩] = E := (fitsE1 L ⟨1, a, v⟩ (show (1 : Int) ≤ 1 ∧ (1 : Int) ≤ 4 from ⟨by decide, by decide⟩) (k := 3) ⟨by decide, by decide⟩).trans hE
  have hE4 : fitsE L [⟨4, a, v⟩] = E := (fitsE1 L ⟨1, a, v⟩ (show (1 : Int) ≤ 1 ∧ (1 : Int) ≤ 4 from ⟨by decide, by decide⟩) (k := 4) ⟨by decide, by decide⟩).trans hE
  obtain ⟨b1, hb1⟩ : ∃ b, fitsL L [⟨1, a, v⟩] = b := ⟨_, rfl⟩
  obtain ⟨b3, hb3⟩ : ∃ b, fitsL L [⟨3, a, v⟩] = b := ⟨_, rfl⟩
  obtain ⟨b4, hb4⟩ : ∃ b, fitsL L [⟨4, a, v⟩] = b := ⟨_, rfl⟩
  have hbad : E ≠ 0 → b1 = false ∧ b3 = false ∧ b4 = false := fun g => ⟨hb1.symm.trans (fitsL_bad (by rw [hE]; exact g)), hb3.symm.trans (fitsL_bad (by rw [hE3]; exact g)), hb4.symm.trans (fitsL_bad (by rw [hE4]; exact g))⟩
  have hgood : E = 0 → (b1 = true → b3 = true) ∧ (b3 = true → b4 = true) ∧ (v = noS → b4 = true) := fun g => by
    have := fits_chain (L := L) (a := a) (v := v) (by rw [hE]; exact g)
    rw [hb1, hb3, hb4] at this
    exact this
  rw [hE, hb1] at h1
  rw [hE3, hb3] at h3
  rw [hE4, hb4] at h4
  have H1 := Lib.hid h1
  have H3 := Lib.hid h3
  have H4 := Lib.hid h4
  have HB := Lib.hid hbad
  have HG := Lib.hid hgood
  have hgd := Lib.hid (fun (w : World) (e f : Int) => good_any _ 2 2 [e, f] rfl (by simp) _ (Has.fresh w #[.int .i64 e, .int .i64 f] 26))
  clear h1 h3 h4 hbad hgood hE hE3 hE4 hb1 hb3 hb4 HF hn h hL hlen
  go_enter Tryd.func4, Tryd.ntmps4
  go_wp2_with fail
  refine HA.out.mono ?_
  rintro e w1 ⟨rfl, hb1⟩
  go_wp2_with fail
  refine (H1.out w1 hb1).mono ?_
  rintro e w2 ⟨rfl, hb2⟩
  have hb02 := bnext hb1 hb2
  clear hb2
  go_wp2_with fail
  refine (H3.out w2 hb02).mono ?_
  rintro e w3 ⟨rfl, hb3⟩
  have hb03 := bnext hb02 hb3
  clear hb3
  go_wp2_with fail
  refine (H4.out w3 hb03).mono ?_
  rintro e w4 ⟨rfl, hb4⟩
  have hb04 := bnext hb03 hb4
  clear hb4
  by_cases hz : E = 0
  · obtain ⟨g1, g2, g3⟩ := HG.out hz
    subst hz
    have HD := Lib.hid (hgd.out w4 0 0)
    have HV := Lib.hid g3
    clear g3
    go_wp2_with fail
    refine HD.out.mono ?_
    rintro e w5 ⟨rfl, hd5⟩
    have hb05 := bnext hb04 (bnext (one_allocL w4 _) (drawn_below hd5))
    clear hd5
    cases b4 with
    | true =>
      cases b1 with
      | true =>
        have e3 : b3 = true := g1 rfl
        subst e3
        clear g1 g2
        go_wp2_with fail
        all_goals
          go_ret
          exact R1.mk rfl hb05
      | false =>
        clear g1 g2
        cases b3 with
        | true =>
          go_wp2_with fail
          all_goals
            go_ret
            exact R1.mk rfl hb05
        | false =>
          go_wp2_with fail
          all_goals
            go_ret
            exact R1.mk rfl hb05
    | false =>
      have e3 : b3 = false := by cases b3 with
        | false => rfl
        | true => exact absurd (g2 rfl) (by decide)
      subst e3
      have e1 : b1 = false := by cases b1 with
        | false => rfl
        | true => exact absurd (g1 rfl) (by decide)
      subst e1
      have hv0 : v ≠ noS := fun g => absurd (HV.out g) (by decide)
      have f1 : v.toList.isEmpty = false := emptyS_false hv0
      clear g1 g2 hv0
      go_wp2_with fail
      all_goals
        go_ret
        exact R1.mk rfl hb05
  · obtain ⟨rfl, rfl, rfl⟩ := HB.out hz
    have f1 : (E != 0) = true := bne_iff_ne.2 hz
    have f2 : (E == E) = true := by simp
    clear hz
    go_wp2_with fail
    go_ret
    exact R1.mk rfl hb04
end Go.Proofs.YtmfndpkhcejffaaDoor
