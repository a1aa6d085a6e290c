/- RingBack: a node that joined and left leaves what was. Conditions: what comes in lies in its cells. (Under way.) -/
import Derived.Test.YtmbpgenjjgepiaaRgRings
import Derived.Test.YtmbpgenjjgepiaaRgJoin
import Derived.Test.YtmbpgenjjgepiaaRgLeave
import Derived.Test.YtmbpgenjjgepiaaOpenN
namespace Go.Proofs.Ytmbpgenjjgepiaa
open Go.RowKit Go.Sort

set_option maxRecDepth 1000000 in
set_option maxHeartbeats 4000000 in
theorem ringBack_any (w : World) (A : Option Addr) (c : Nat) (L : List NodE) (hL : ∀ e ∈ L, NodOk w e) (hnc : L.length ≤ c) (hc : c ≤ maxLen) (hA : A = none → c = 0) (h : Has w w.heap.size A (nodCs L)) (hr : L.length * 40 ≤ 140737488351232) (nm : ByteArray) (x : Row) (hx : NodOk w ⟨nm, x⟩) :
    Calls Try.prog 7 #[.slice A L.length c, .agg #[.string nm, .slice x.A x.l.length x.c]] w (R1 (.bool true) (Below w.heap.size w)) := by
  obtain ⟨T, tc, tl⟩ := x
  simp only []
  obtain ⟨n, hn⟩ : ∃ n, L.length = n := ⟨_, rfl⟩
  obtain ⟨p, hp⟩ : ∃ p, tl.length = p := ⟨_, rfl⟩
  have hl : n ≤ maxLen := by omega
  obtain ⟨w0, hw0⟩ : ∃ w0, w.alloc (.cells #[.string nm, .slice T p tc] 34) = w0 := ⟨_, rfl⟩
  have hb0 : Below w.heap.size w w0 := by rw [← hw0]; exact one_alloc w _
  have kx : Blk w0 w.heap.size 34 #[.string nm, .slice T p tc] := by rw [← hw0]; exact Blk.new _ _ _
  rw [hn] at hnc ⊢
  have HW0 := Lib.hid hw0; clear hw0
  have Hh := Lib.hid h; clear h
  have HL := Lib.hid hL; clear hL
  have Hx := Lib.hid hx; clear hx
  have HR := Lib.hid (rings_any w0)
  rw [hp]
  go_enter Try.func7, Try.ntmps7
  go_wp2_with fail
  rw [HW0.out]
  refine HR.out.mono ?_
  rintro e w1 ⟨rfl, hb1⟩
  have kx1 := kx.next hb1
  have c0 : w1.cell? ⟨w.heap.size, 0, none⟩ = some (.string nm) := kx1.cell 0
  have c1 : w1.cell? ⟨w.heap.size, 1, none⟩ = some (.slice T p tc) := kx1.cell 1
  have hb01 := bnext hb0 hb1
  have HJ := Lib.hid (join_any A n c L hn hA hnc hl nm T tc tl w1 (Hh.out.next hb01) (fun e he => (HL.out e he).next hb01) (Hx.out.next hb01))
  rw [hp] at HJ
  go_wp2_with fail
  refine HJ.out.mono ?_
  rintro e w2 ⟨v, rfl, hcase, hb2⟩
  have hb02 := bnext hb01 hb2
  rcases hcase with ⟨e, he0, he64, rfl⟩ | ⟨i, A2, c2, L2, hok, hfit, hpl, hne, h20, rfl, hL2, hown, htk⟩
  · have hb := Lib.hid hb02
    have heb : (e != 0) = true := bne_iff_ne.2 he0
    clear hb2 hb1 hb01 hb02 c0 c1
    go_wp2_with fail
    go_ret
    exact R1.mk rfl hb.out
  · have k2 := (kx1.next hb2)
    have d0 : w2.cell? ⟨w.heap.size, 0, none⟩ = some (.string nm) := k2.cell 0
    have d1 : w2.cell? ⟨w.heap.size, 1, none⟩ = some (.slice T p tc) := k2.cell 1
    have hlen2 : L2.length = n + 1 := by
      have := congrArg List.length hL2
      rw [List.length_map, insR_len, List.length_map, hn] at this
      exact this
    rw [hn] at hown h20
    obtain ⟨q1, q2⟩ := own_len hown
    have hasL2 : Has w2 w2.heap.size A2 (nodCs L2) := Has.of_own hown
    have HLv := Lib.hid (leave_any A2 (n + 1) c2 L2 hlen2 (fun e => (own_cap hown e).2) q1 (by unfold maxLen; omega) nm w2 hasL2 (fun e he => (htk e he).ok))
    have HCk := Lib.hid (fun (w' : World) (hb : Below w2.heap.size w2 w') => rcheckN_any A2 (n + 1) c2 L2 hlen2 (by unfold maxLen; omega) w' (hasL2.next hb) (fun e he => (htk e he).ok.next hb))
    have hokI : RgOk (insR (L.map NodE.x) ⟨nm, tl⟩ i) := insR_ok hok hfit hpl hne (by rw [List.length_map, hn]; exact h20)
    have hil : i ≤ (L.map NodE.x).length := by first | exact hpl.1 | exact hpl.2.1
    have hck : chkR (L2.map NodE.x) = 0 := by rw [hL2]; exact chkR_iff.2 hokI
    clear hb2 hb1 hb01 c0 c1
    have hx2 : (at_ (L2.map NodE.x) i).nm = nm := by rw [hL2, (insR_at hil).1]; rfl
    have hil2 : i < L2.length := by rw [hlen2]; rw [List.length_map, hn] at hil; omega
    have hxE : (at_ L2 i).nm = nm := by rw [at_mapN hil2] at hx2; exact hx2
    have hfirst : ∀ j, j < i → (at_ L2 j).nm ≠ nm := fun j hj => by
      have h1 : at_ (L2.map NodE.x) j = at_ (L.map NodE.x) j := by rw [hL2]; exact (insR_at hil).2 j hj
      rw [at_mapN (by omega)] at h1
      have h2 := hne (at_ (L.map NodE.x) j) (at_mem (by omega))
      rw [← h1] at h2
      exact h2
    go_wp2_with fail
    refine HLv.out.mono ?_
    rintro e w3 ⟨v, rfl, hcase, hb3⟩
    rcases hcase with ⟨e, he0, he64, rfl, hno⟩ | ⟨j, A3, c3, L3, hok3, hj, hjn, hjf, rfl, hL3, hown3, htk3⟩
    · exact absurd hxE (hno (by rw [hL2]; exact hokI) i hil2)
    · have hji : j = i := by
        rcases Nat.lt_trichotomy j i with g | g | g
        · exact absurd hjn (hfirst j g)
        · exact g
        · exact absurd hxE (hjf i g)
      subst hji
      have hL3' : L3.map NodE.x = L.map NodE.x := by rw [hL3, hL2]; exact insR_erase hil
      rw [hlen2, Nat.add_sub_cancel] at hown3
      have hlen3 : L3.length = n := by
        have := congrArg List.length hL3'
        rw [List.length_map, List.length_map, hn] at this
        exact this
      have hb03 := bnext hb02 hb3
      have HS := Lib.hid (sameNodes_any A3 A n n c3 c L3 L hlen3 hn hl hl w3 (Has.of_own hown3) (Hh.out.next hb03) (fun e he => (htk3 e he).ok.1) (fun e he => ((HL.out e he).next hb03).1))
      rw [decide_eq_true hL3'] at HS
      have HC2 := Lib.hid (fun (w4 : World) (hb4 : Below w3.heap.size w3 w4) => HCk.out w4 (bnext hb3 hb4))
      rw [hck] at HC2
      have hb := Lib.hid hb03
      clear hb3 hb03 hb02 hown3 hown hasL2
      go_wp2_with (first | (refine HS.out.mono ?_; rintro e9 w9 ⟨rfl, hb9⟩) | (refine (HC2.out _ ‹_›).mono ?_; rintro e8 w8 ⟨rfl, hb8⟩))
      go_ret
      exact R1.mk rfl (bnext (bnext hb.out hb9) hb8)
end Go.Proofs.Ytmbpgenjjgepiaa
