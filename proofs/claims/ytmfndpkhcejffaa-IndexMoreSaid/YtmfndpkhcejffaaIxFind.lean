/- What Find of an index tells. Conditions: the index lies in its cells; what comes in does. -/
import Derived.Test.YtmfndpkhcejffaaIxNewW
import Derived.Test.YtmfndpkhcejffaaIxFnd
import Derived.Test.YtmfndpkhcejffaaIxDel
import Derived.Test.YtmfndpkhcejffaaIxSet
import Derived.Test.YtmfndpkhcejffaaLbFit
import Derived.StillTailTactics
namespace Go.Proofs.Ytmfndpkhcejffaa
open Go.RowKit Go.ChangeMaps

theorem ixD_tot : ∀ (L : List (List Lab)) (i : Int) (D : List (Lab × List Int)), (∀ l ∈ L, chkL l = 0) → totD (ixD L i D) ≤ totD D + 10 * L.length
  | [], i, D, _ => by simp [ixD]
  | l :: L, i, D, h => by
    rw [ixD]
    have h1 := ixD_tot L (i + 1) (addDs D l i) (fun x hx => h x (by simp [hx]))
    have h2 := addDs_tot l i D
    have h3 := (chkL_iff.1 (h l (by simp))).1
    rw [List.length_cons]
    omega
theorem newN_ok {L : List (List Lab)} (h : newN L = 0) : L.length ≤ 200 ∧ ∀ l ∈ L, chkL l = 0 := by
  unfold newN at h
  by_cases h1 : 200 < L.length
  · rw [if_pos h1] at h; cases h
  · rw [if_neg h1] at h
    refine ⟨by omega, ?_⟩
    clear h1
    induction L with
    | nil => intro l hl; cases hl
    | cons x L ih =>
      rw [newE] at h
      by_cases hx : chkL x = 0
      · rw [if_neg (by simp [hx])] at h
        intro l hl
        rcases List.mem_cons.1 hl with rfl | hl
        · exact hx
        · exact ih h l hl
      · rw [if_pos hx] at h; exact absurd h hx
theorem noS_empty (v : ByteArray) : v.toList.isEmpty = decide (v = noS) := by
  have := nameE v noS
  rw [show noS.toList = [] by unfold noS; decide +kernel] at this
  rw [← this]
  cases v.toList <;> rfl
section
variable {w0 W : World} {B g b : Nat} {L : List (List Lab)} {D : List (Lab × List Int)} {A : Option Addr} {c : Nat} {vs : List Value} {es : Array MapEntry} {clock : Nat} {kvs : List (Value × Value)}
/-- a series' labels, out of the index -/
theorem IxSt.rowAt (h : IxSt w0 W B g b L D A c vs es clock kvs) {i : Nat} (hi : i < L.length) :
    ∃ g2 A' c', A = some ⟨g2, 0, none⟩ ∧ W.cell? ⟨g2, i, none⟩ = some (.slice A' (at_ L i).length c') ∧ Has W W.heap.size A' (labCs (at_ L i)) := by
  have hv : i < vs.length := by rw [h.rows.1]; exact hi
  obtain ⟨g2, rfl, _, _, _⟩ := own_some h.all (by omega)
  have hr := h.rows.2 i (at_ vs i) (at_ L i) (get?_at hv) (get?_at hi)
  obtain ⟨A', c', e1, _⟩ := own_form hr
  have hc := own_cell h.all (get?_at hv)
  rw [e1] at hc hr
  exact ⟨g2, A', c', rfl, hc, Has.of_own hr⟩
end
set_option maxRecDepth 1000000 in
set_option maxHeartbeats 4000000 in
theorem find1_any (w0 W : World) (B g b : Nat) (L : List (List Lab)) (D : List (Lab × List Int)) (A : Option Addr) (c : Nat) (vs : List Value) (es : Array MapEntry) (clock : Nat) (kvs : List (Value × Value)) (hI : IxSt w0 W B g b L D A c vs es clock kvs) (hL : ∀ l ∈ L, chkL l = 0) (_hn : L.length ≤ 200) (hlen : LenAt W)
    (q r : Nat) (y : Mt) (hq : W.cell? ⟨q, 0, none⟩ = some (.pointer (some ⟨g, 0, none⟩))) (hr : Blk W r 25 #[.int .i64 y.k, .string y.nm, .string y.v]) (i : Int) (hi : 0 ≤ i ∧ i < L.length) :
    Calls Try.prog 23 #[.int .i64 i, .pointer (some ⟨q, 0, none⟩), .pointer (some ⟨r, 0, none⟩)] W (R1 (.bool (!fitL (at_ L i.toNat) y)) (Below W.heap.size W)) := by
  obtain ⟨k, rfl⟩ := Int.eq_ofNat_of_zero_le hi.1
  have hk : k < L.length := by omega
  rw [Int.toNat_natCast]
  obtain ⟨g2, A', c', e2, hc, hrow⟩ := hI.rowAt hk
  have h0 := hL _ (at_mem hk)
  obtain ⟨k1, k2, _⟩ := chkL_iff.1 h0
  obtain ⟨l, hl⟩ : ∃ l, at_ L k = l := ⟨_, rfl⟩
  rw [hl] at hc hrow k1 k2 ⊢
  obtain ⟨m, hm⟩ : ∃ m, l.length = m := ⟨_, rfl⟩
  rw [hm] at hc k1
  have hv := valL_le (l := l) (fun x hx => (k2 x hx).2) y.nm
  have HF := Lib.hid (lfit_any A' m c' l hm (by unfold maxLen; omega) y (by omega) (W.drewN 1) hlen hrow)
  obtain ⟨N, hN⟩ : ∃ N, L.length = N := ⟨_, rfl⟩
  have hobj := hI.obj
  rw [e2, hN] at hobj
  have o0 : W.cell? ⟨g, 0, none⟩ = some (.slice (some ⟨g2, 0, none⟩) N c) := hobj.cell 0
  have hNk : (k : Int) < (N : Int) := by omega
  have h0k : (0 : Int) ≤ (k : Int) := by omega
  obtain ⟨qk, qn, qv⟩ := y
  simp only [] at hr HF ⊢
  have r0 : W.cell? ⟨r, 0, none⟩ = some (.int .i64 qk) := hr.cell 0
  have r1 : W.cell? ⟨r, 1, none⟩ = some (.string qn) := hr.cell 1
  have r2 : W.cell? ⟨r, 2, none⟩ = some (.string qv) := hr.cell 2
  obtain ⟨fv, hfv⟩ : ∃ fv, fitL l ⟨qk, qn, qv⟩ = fv := ⟨_, rfl⟩
  rw [hfv] at HF ⊢
  clear hI hL hlen hi hk h0 k1 k2 hl hm hv hN hobj hr hfv hrow e2
  go_enter Try.func23, Try.ntmps23
  go_wp2_with fail
  go_still_tail 8, (by kernel_rfl)
  change wpList _ _ _ _ _ (W.drewN 1)
  go_wp2_with fail
  refine HF.out.mono ?_
  rintro e w2 ⟨rfl, hb2⟩
  have hb02 : Below W.heap.size W w2 := bnext (below_drewN (Below.refl _ _) 1) hb2
  go_wp2_with fail
  go_ret
  exact R1.mk rfl hb02
/-- the numbers of a label, out of the index -/
theorem IxSt.look {w0 W : World} {B g b : Nat} {L : List (List Lab)} {D : List (Lab × List Int)} {A : Option Addr} {c : Nat} {vs : List Value} {es : Array MapEntry} {clock : Nat} {kvs : List (Value × Value)} (h : IxSt w0 W B g b L D A c vs es clock kvs) (y : Lab) (hy : LabOk y) :
    ∃ A' n' c', (Instr.lookup 49 (.map (some b)) (labV y) false).run Try.prog W = .ok (.slice A' n' c') W ∧ W.ownsRow B 3 1 (.slice A' n' c') n' (i64s (atD D y)) := by
  obtain ⟨kl, hkl⟩ := lab_keyed y hy
  have hnod : (kvs.map (·.1)).Nodup := by
    have := h.shape.stamped.2.2
    rw [← h.shape.pairs, List.map_map]
    exact this
  rcases MpS.look labKey Try.underlying49 (z := .slice none 0 0) (fun u => by kernel_rfl) h.mp h.shape hkl false with ⟨hno, hr⟩ | ⟨v, hm, hr⟩
  · refine ⟨none, 0, 0, hr, ?_⟩
    rw [h.have_.lacks hno]
    exact World.ownsRow_nil _ _ _ _
  · have ho := (h.have_.old hnod hm).1
    obtain ⟨A', c', e1, _⟩ := own_form ho
    subst e1
    exact ⟨A', _, c', hr, ho⟩
set_option maxRecDepth 1000000 in
set_option maxHeartbeats 8000000 in
theorem ifind_any (w0 w : World) (B g b : Nat) (L : List (List Lab)) (A : Option Addr) (c : Nat) (vs : List Value) (es : Array MapEntry) (clock : Nat) (kvs : List (Value × Value)) (hI : IxSt w0 w B g b L (ixD L 0 []) A c vs es clock kvs) (hL : ∀ l ∈ L, chkL l = 0) (hN : L.length ≤ 200) (hlen : LenAt w)
    (Q : Option Addr) (m d : Nat) (M : List Mt) (hm : M.length = m) (hml : m ≤ maxLen) (hM : ∀ e ∈ M, MtOk e) (h : Has w w.heap.size Q (mtCs M)) :
    Calls Try.prog 8 #[.pointer (some ⟨g, 0, none⟩), .slice Q m d] w (RV (NotO (findN L M) w)) := by
  obtain ⟨N, hNl⟩ : ∃ N, L.length = N := ⟨_, rfl⟩
  obtain ⟨W1, hW1⟩ : ∃ W1, w.alloc (.cells #[.pointer (some ⟨g, 0, none⟩)] 27) = W1 := ⟨_, rfl⟩
  obtain ⟨q, hq⟩ : ∃ q, w.heap.size = q := ⟨_, rfl⟩
  have kx : Blk W1 q 27 #[.pointer (some ⟨g, 0, none⟩)] := by rw [← hW1, ← hq]; exact Blk.new _ _ _
  have hb1 : Below w.heap.size w W1 := by rw [← hW1]; exact one_allocX _ _
  have HC := Lib.hid (mcheck_any Q m d M hm hml W1 (h.next hb1) hM)
  obtain ⟨r, hr⟩ : ∃ r, chkM M = r := ⟨_, rfl⟩
  rw [hr] at HC
  have HE := Lib.hid (show findN L M = if r ≠ 0 then ([], r) else (fndI L M, 0) by unfold findN; rw [hr])
  have HI := Lib.hid hI
  have HW1 := Lib.hid hW1
  have Hq := Lib.hid hq
  have HN := Lib.hid hNl
  have HL := Lib.hid hL
  have Hlen := Lib.hid hlen
  have Hm := Lib.hid hm
  have HM := Lib.hid hM
  have Hh := Lib.hid h
  have HB1 := Lib.hid hb1
  rw [hNl] at hN
  unfold maxLen at hml
  clear hI hW1 hq hNl hL hlen hm hM h hr
  go_enter Try.func8, Try.ntmps8
  go_wp2_with fail
  rw [HW1.out, Hq.out]
  refine HC.out.mono ?_
  rintro e w2 ⟨rfl, hb2⟩
  have hb02 := bnext hb1 hb2
  by_cases h0 : r = 0
  · have E := Lib.hid (show findN L M = (fndI L M, 0) by rw [HE.out, if_neg (by simpa using h0)])
    have hkx2 := kx.next hb2
    have hobj := (HI.out.next hb02).obj
    rw [HN.out] at hobj
    have g0 : w2.cell? ⟨g, 0, none⟩ = some (.slice A N c) := hobj.cell 0
    have x0 : w2.cell? ⟨q, 0, none⟩ = some (.pointer (some ⟨g, 0, none⟩)) := hkx2.cell 0
    have HNo := Lib.hid (notO_any N none 0 0 [] (by omega) w2 (RowN.nil _))
    have HNE := Lib.hid (show notI N [] = (fndI L [], 0) by
      unfold notI
      rw [if_neg (by omega), fndI_nil, HN.out, Int.toNat_natCast])
    rw [HNE.out] at HNo
    subst h0
    clear HE hobj hb2 kx HC
    go_wp2_with fail
    refine HNo.out.mono ?_
    rintro e w3 ⟨v, rfl, A3, n3, c3, rfl, hown3, hb3⟩
    have hb03 := bnext hb02 hb3
    have hkx3 := hkx2.next hb3
    have hown3 := own_less hown3 hb02.size
    rw [Hq.out] at hown3
    clear g0 x0 HNo hb3 hkx2
    go_wp2_with fail
    go_loopw [7, 27] (fun ov kv wr => ∃ (k : Nat) (A3 : Option Addr) (n3 c3 : Nat), k ≤ m ∧ kv = .int .i64 (k : Nat) ∧ ov = .slice A3 n3 c3 ∧ wr.ownsRow q 3 1 (.slice A3 n3 c3) n3 (i64s (fndI L (M.take k))) ∧ Below w.heap.size w wr ∧ Blk wr q 27 #[.pointer (some ⟨g, 0, none⟩)]) (fun _ kv _ => m - (intOf kv).toNat)
    case atStart => exact ⟨0, A3, n3, c3, Nat.zero_le _, rfl, rfl, by rw [List.take_zero]; exact hown3, hb03, hkx3⟩
    case round =>
      obtain ⟨k, A4, n4, c4, hk, rfl, rfl, hown4, hb4, hkx4⟩ := hrel
      by_cases hlt : (k : Int) < (m : Int)
      · have hkm : k < M.length := by rw [Hm.out]; omega
        have hX := Hh.out.next hb4
        obtain ⟨ad, e1, _, d0⟩ := hX.at (mtCs_0 hkm)
        subst e1
        obtain ⟨ad1, e1, _, d1⟩ := hX.at (mtCs_1 hkm)
        obtain ⟨ad2, e2, _, d2⟩ := hX.at (mtCs_2 hkm)
        injection e1 with e1
        injection e2 with e2
        subst e1 e2
        have d1 := cell_off d1 (by decide)
        have d2 := cell_off d2 (by decide)
        have hyok := HM.out _ (at_mem hkm)
        have htk := take_at (l := M) (k := k) hkm
        obtain ⟨y, hy⟩ : ∃ y, at_ M k = y := ⟨_, rfl⟩
        rw [hy] at d0 d1 d2 hyok htk
        have hst : fndI L (M.take (k + 1)) = (fndI L (M.take k)).filter fun i => fitL (at_ L i.toNat) y := by rw [htk, fndI_snoc]
        have hst2 : y.k = 1 → y.v ≠ noS → fndI L (M.take (k + 1)) = andI (fndI L (M.take k)) (atD (ixD L 0 []) ⟨y.nm, y.v⟩) := fun h1 h2 => by rw [htk, fndI_and HL.out _ y h1 h2]
        have hn4 : n4 ≤ 200 := by
          have h1 := hown4.1
          rw [i64s_len, Nat.mul_one] at h1
          have h2 := fndI_len L (M.take k)
          rw [HN.out] at h2
          omega
        have hmem : ∀ x ∈ fndI L (M.take k), 0 ≤ x ∧ x < L.length := fun x hx => (fndI_mem.1 hx).1
        obtain ⟨X, hXe⟩ : ∃ X, fndI L (M.take k) = X := ⟨_, rfl⟩
        rw [hXe] at hown4 hst hst2 hmem
        have hXl : X.length = n4 := by have h1 := hown4.1; rw [i64s_len, Nat.mul_one] at h1; exact h1
        obtain ⟨qk, qn, qv⟩ := y
        simp only [] at d0 d1 d2 hst2
        obtain ⟨W4, hW4⟩ : ∃ W4, wr.alloc (.cells #[.int .i64 qk, .string qn, .string qv] 25) = W4 := ⟨_, rfl⟩
        obtain ⟨z, hz⟩ : ∃ z, wr.heap.size = z := ⟨_, rfl⟩
        have hb5 : Below wr.heap.size wr W4 := by rw [← hW4]; exact one_allocX _ _
        have kY : Blk W4 z 25 #[.int .i64 qk, .string qn, .string qv] := by rw [← hW4, ← hz]; exact Blk.new _ _ _
        have hb05 := bnext hb4 hb5
        have hown5 := own_next hown4 hb5
        have hkx5 := hkx4.next hb5
        have hI5 := HI.out.next hb05
        have hobj := hI5.obj
        rw [HN.out] at hobj
        have HW4 := Lib.hid hW4
        have Hz := Lib.hid hz
        have Hst := Lib.hid hst
        have Hst2 := Lib.hid hst2
        have Hmem := Lib.hid hmem
        have HXl := Lib.hid hXl
        have Hyok := Lib.hid hyok
        have HI5 := Lib.hid hI5
        clear hW4 hz hst hst2 hmem hXl hyok hX hy htk hXe hown4 hkx4 hb5 hI5 hown3 hb03 hkx3
        have y0 : W4.cell? ⟨z, 0, none⟩ = some (.int .i64 qk) := kY.cell 0
        have y1 : W4.cell? ⟨z, 1, none⟩ = some (.string qn) := kY.cell 1
        have y2 : W4.cell? ⟨z, 2, none⟩ = some (.string qv) := kY.cell 2
        have x0 : W4.cell? ⟨q, 0, none⟩ = some (.pointer (some ⟨g, 0, none⟩)) := hkx5.cell 0
        have g1 : W4.cell? ⟨g, 1, none⟩ = some (.map (some b)) := hobj.cell 1
        by_cases hlook : qk = 1 ∧ qv ≠ noS
        · obtain ⟨hk1, hv1⟩ := hlook
          obtain ⟨A6, n6, c6, hrun, hown6⟩ := (HI5.out.next (W' := W4.drew) (below_drewX (Below.refl _ _))).look ⟨qn, qv⟩ ⟨Hyok.out.2.1, Hyok.out.2.2⟩
          have hne : (decide (qv = noS)) = false := decide_eq_false hv1
          rw [← noS_empty] at hne
          have hlen6 : n6 ≤ 2000 := by
            have h1 := hown6.1
            rw [i64s_len, Nat.mul_one] at h1
            have h2 := atD_le (ixD L 0 []) ⟨qn, qv⟩
            have h3 := ixD_tot L 0 [] HL.out
            have : totD [] = 0 := rfl
            rw [HN.out] at h3
            omega
          have HA := Lib.hid (andO_any A4 n4 c4 X A6 n6 c6 (atD (ixD L 0 []) ⟨qn, qv⟩) (by omega) (by omega) (W4.drewN 1) (RowN.own (own_drewN hown5 1)) (RowN.own hown6))
          rw [← Hst2.out hk1 hv1] at HA
          have Hown5 := Lib.hid hown5
          simp only [labV] at hrun
          subst hk1
          clear hown6 hown5 hv1
          go_wp2_with fail
          rw [HW4.out, Hz.out]
          go_wp2_with fail
          go_still_tail 11, (by kernel_rfl)
          change wpList _ _ _ _ _ (W4.drewN 1)
          go_wp2_with fail
          refine HA.out.mono ?_
          rintro e w6 ⟨v, rfl, A7, n7, c7, rfl, hown7, hb7⟩
          have hb47 : Below W4.heap.size W4 w6 := bnext (below_drewN (Below.refl _ _) 1) hb7
          have hb07 := bnext hb05 hb47
          have hkx7 := hkx5.next hb47
          have hown7 := own_less (base' := q) hown7 (by rw [← Hq.out]; exact hb05.size)
          clear hrun HA hb7 hb47 x0 g1 y0 y1 y2 d0 d1 d2
          go_wp2_with fail
          go_roundw
          case rel => exact ⟨k + 1, A7, n7, c7, by omega, by go_num, rfl, hown7, hb07, hkx7⟩
          case measure => simp [intOf]; omega
        · have hF := fun (W : World) (x : Int) (hx : x ∈ X) (hg : W4.grownBy W (Value.slice A4 n4 c4).ownBlock) => by
            have hbW : Below w.heap.size w W := by
              rw [Hq.out]
              exact (Hq.out ▸ hb05).trans (grown_below hown5 hg (by rw [← Hq.out]; exact hb05.size))
            exact find1_any w0 W B g b L (ixD L 0 []) A c vs es clock kvs (HI.out.next hbW) HL.out (by rw [HN.out]; exact hN) (Hlen.out.next hbW) q z ⟨qk, qn, qv⟩ ((hkx5.grown hg (own_row_ne hkx5 hown5 (by decide))).cell 0) (kY.grown hg (own_row_ne kY hown5 (by decide))) x (Hmem.out x hx)
          have hD := delF_any X n4 HXl.out q A4 c4 (fun i => !fitL (at_ L i.toNat) ⟨qk, qn, qv⟩) ⟨q, 0, none⟩ ⟨z, 0, none⟩ (by omega) W4 hown5 (by rw [← Hq.out]; exact hb05.size) (Lib.hid hF)
          rw [show (fun x => !(fun i : Int => !fitL (at_ L i.toNat) ⟨qk, qn, qv⟩) x) = (fun i : Int => fitL (at_ L i.toNat) ⟨qk, qn, qv⟩) by funext i; simp, ← Hst.out] at hD
          have HD := Lib.hid hD
          have hneq := own_row_ne hkx5 hown5 (by decide)
          have Hneq := Lib.hid hneq
          have HkX := Lib.hid hkx5
          have hcase : (qk == 1) = false ∨ (qk = 1 ∧ qv.toList.isEmpty = true) := by
            by_cases h1 : qk = 1
            · refine .inr ⟨h1, ?_⟩
              rw [noS_empty, decide_eq_true_iff]
              exact Decidable.not_not.1 fun h2 => hlook ⟨h1, h2⟩
            · exact .inl (beq_eq_false_iff_ne.2 h1)
          clear hF hD hneq hlook hown5 hobj x0 g1 hkx5
          rcases hcase with hc1 | ⟨rfl, hc1⟩
          all_goals
            go_wp2_with fail
            rw [HW4.out, Hz.out]
            go_wp2_with fail
            refine HD.out.mono ?_
            rintro e w6 ⟨v, rfl, A7, n7, c7, rfl, hown7, hb7, hg7⟩
            have hb07 : Below w.heap.size w w6 := hb05.trans (Hq.out.symm ▸ hb7)
            have hkx7 := HkX.out.grown hg7 Hneq.out
            clear hg7 hb7 HD y0 y1 y2 d0 d1 d2
            go_wp2_with fail
            go_roundw
            case rel => exact ⟨k + 1, A7, n7, c7, by omega, by go_num, rfl, hown7, hb07, hkx7⟩
            case measure => simp [intOf]; omega
      · have hkm : k = m := by omega
        subst hkm
        have hfin : NotO (findN L M) w (.tuple #[.slice A4 n4 c4, .int .i64 0]) wr := by
          rw [E.out]
          rw [List.take_of_length_le (by rw [Hm.out]; exact Nat.le_refl _)] at hown4
          exact ⟨A4, n4, c4, rfl, by rw [Hq.out]; exact hown4, hb4⟩
        have HF := Lib.hid hfin
        clear hfin hown4
        go_wp2_with fail
        go_ret2
        exact RV.mk HF.out
  · have E := Lib.hid (show findN L M = ([], r) by rw [HE.out, if_pos h0])
    have h0' : (r != 0) = true := bne_iff_ne.2 h0
    have hF := Lib.hid (show NotO (findN L M) w (.tuple #[.slice none 0 0, .int .i64 r]) w2 from by rw [E.out]; exact ⟨none, 0, 0, rfl, World.ownsRow_nil _ _ _ _, hb02⟩)
    clear HE h0 E
    go_wp2_with fail
    go_ret2
    exact RV.mk hF.out
end Go.Proofs.Ytmfndpkhcejffaa
