/- RingJoin: when a node joins, a number is its, or stays where it was. Conditions: what comes in lies in its cells. -/
import Derived.Test.YtmbpgenjjgepiaaRgLv
import Derived.Test.YtmbpgenjjgepiaaRgJoin
import Derived.Test.YtmbpgenjjgepiaaDelS
namespace Go.Proofs.Ytmbpgenjjgepiaa
open Go.RowKit Go.Sort

theorem plAll_small {l : List Nod} (h : RgOk l) : (plAll l).length ≤ 400 := by
  have := plAll_le l (b := 20) (fun x hx => (h.2.1 x hx).2.2.1)
  have := Nat.mul_le_mul_right 20 h.1
  omega
theorem uq_le {α : Type} [DecidableEq α] (l : List α) : (uq l).length ≤ l.length := by
  induction l with
  | nil => exact Nat.le_refl _
  | cons x l ih =>
    have := List.length_filter_le (fun y => decide (y ≠ x)) (uq l)
    simp only [uq, List.length_cons]; omega
theorem ownAll_small {l : List Nod} (h : RgOk l) (a : Nat) : (ownAll l a).length ≤ 800 := by
  have h1 := plAll_small h
  have h2 := uq_le ((rot (plcs (plAll l)) a).map (·.nm))
  have h3 : (rot (plcs (plAll l)) a).length ≤ (plAll l).length + (plAll l).length := by
    unfold rot
    have g1 := List.length_filter_le (fun x => decide (a ≤ x.t)) (plcs (plAll l))
    have g2 := List.length_filter_le (fun x => decide (¬ a ≤ x.t)) (plcs (plAll l))
    rw [plcs_len] at g1 g2
    rw [List.length_append]; omega
  rw [List.length_map] at h2
  unfold ownAll ownU
  omega

set_option maxRecDepth 1000000 in
set_option maxHeartbeats 8000000 in
theorem ringJoin_any (w : World) (A : Option Addr) (c : Nat) (L : List NodE) (hL : ∀ e ∈ L, NodOk w e) (hnc : L.length ≤ c) (hc : c ≤ maxLen) (hA : A = none → c = 0) (h : Has w w.heap.size A (nodCs L)) (_hr : L.length * 40 ≤ 140737488351232)
    (nm : ByteArray) (x : Row) (hx : NodOk w ⟨nm, x⟩) (a : Nat) (_ha : a < 18446744073709551616) (m : Int) (bm : -9223372036854775808 ≤ m ∧ m ≤ 9223372036854775807) :
    Calls Try.prog 6 #[.slice A L.length c, .agg #[.string nm, .slice x.A x.l.length x.c], .int .u64 (a : Nat), .int .i64 m] w (R1 (.bool true) (Below w.heap.size w)) := by
  obtain ⟨T, tc, tl⟩ := x
  simp only []
  obtain ⟨n, hn⟩ : ∃ n, L.length = n := ⟨_, rfl⟩
  obtain ⟨p, hp⟩ : ∃ p, tl.length = p := ⟨_, rfl⟩
  have hl : n ≤ maxLen := by omega
  obtain ⟨w0, hw0⟩ : ∃ w0, w.alloc (.cells #[.string nm, .slice T p tc] 34) = w0 := ⟨_, rfl⟩
  have hb0 : Below w.heap.size w w0 := by rw [← hw0]; exact one_alloc w _
  have kx : Blk w0 w.heap.size 34 #[.string nm, .slice T p tc] := by rw [← hw0]; exact Blk.new _ _ _
  rw [hn] at hnc ⊢
  have HW0 := Lib.hid hw0; clear hw0
  have Hh := Lib.hid h; clear h
  have HL := Lib.hid hL; clear hL
  have Hx := Lib.hid hx; clear hx
  have HR := Lib.hid (rings_any w0)
  have HO := Lib.hid (fun (w' : World) (hb : Below w.heap.size w w') => ownersQ_any A n c L hn hl a m w' (Hh.out.next hb) (fun e he => (HL.out e he).next hb))
  have Hn := Lib.hid hn
  have hgood := Lib.hid (fun (w : World) (e f : Int) => good_any _ 2 2 [e, f] rfl (by simp) _ (Has.fresh w #[.int .i64 e, .int .i64 f] 26))
  rw [hp]
  go_enter Try.func6, Try.ntmps6
  go_wp2_with fail
  rw [HW0.out]
  refine HR.out.mono ?_
  rintro e w1 ⟨rfl, hb1⟩
  have kx1 := kx.next hb1
  have c0 : w1.cell? ⟨w.heap.size, 0, none⟩ = some (.string nm) := kx1.cell 0
  have c1 : w1.cell? ⟨w.heap.size, 1, none⟩ = some (.slice T p tc) := kx1.cell 1
  have hb01 := bnext hb0 hb1
  have HJ := Lib.hid (join_any A n c L hn hA hnc hl nm T tc tl w1 (Hh.out.next hb01) (fun e he => (HL.out e he).next hb01) (Hx.out.next hb01))
  rw [hp] at HJ
  clear hn hp hA
  go_wp2_with fail
  refine HJ.out.mono ?_
  rintro e w2 ⟨v, rfl, hcase, hb2⟩
  have hb02 := bnext hb01 hb2
  have HO1 := Lib.hid (HO.out w2 hb02)
  have kx2 := kx1.next hb2
  clear c0 c1 hb01 hb1 HJ HR
  rcases hcase with ⟨e, he0, he64, rfl⟩ | ⟨i, A2, c2, L2, hok, hfit, hpl, hne, h20, rfl, hL2, hown2, htk⟩
  · clear hb2 kx kx1 kx2
    have hb : (e != 0) = true := bne_iff_ne.2 he0
    have hb' : (e == 0) = false := beq_eq_false_iff_ne.2 he0
    go_wp2_with fail
    refine HO1.out.mono ?_
    rintro e3 w3 ⟨v, rfl, A3, n3, c3, o3, e3, rfl, hn3, hown3, hb3, _⟩
    have hb03 := bnext hb02 hb3
    have hG := hgood.out w3 e e3
    rw [show [e, e3].all (· == 0) = false by simp [hb']] at hG
    have HG := Lib.hid hG
    clear hown3 hn3 hb3 hG
    go_wp2_with fail
    refine HG.out.mono ?_
    rintro e4 w4 ⟨rfl, hd4⟩
    have hb04 := bnext hb03 (bnext (one_alloc w3 _) (drawn_below hd4))
    clear hd4
    go_wp2_with fail
    go_ret
    exact R1.mk rfl hb04
  · rw [Hn.out] at hown2 h20 ⊢
    obtain ⟨q1, q2⟩ := own_len hown2
    have hlen2 : L2.length = n + 1 := by
      have := congrArg List.length hL2
      rw [List.length_map, insR_len, List.length_map, Hn.out] at this
      exact this
    have hU : ownAll (L.map NodE.x) a = (ownAll (L2.map NodE.x) a).filter fun y => decide (y ≠ nm) := by
      rw [hL2]; exact ownU_ins (x := ⟨nm, tl⟩) hne a
    have hok2 : RgOk (L2.map NodE.x) := by rw [hL2]; exact insR_ok hok hfit hpl hne (by rw [List.length_map, Hn.out]; exact h20)
    have HO2 := Lib.hid (fun (w' : World) (hb : Below w2.heap.size w2 w') => ownersQ_any A2 (n + 1) c2 L2 hlen2 (by omega) a m w' ((Has.of_own hown2).next hb) (fun e he => (htk e he).ok.next hb))
    obtain ⟨U, hUe⟩ : ∃ U, ownAll (L2.map NodE.x) a = U := ⟨_, rfl⟩
    have hUn : U.Nodup := by rw [← hUe]; exact uq_nodup _
    have hUl : U.length ≤ 800 := by rw [← hUe]; exact ownAll_small hok2 a
    rw [hUe] at hU
    have Hok := Lib.hid hok
    have Hok2 := Lib.hid hok2
    have HU := Lib.hid hU
    have HUe := Lib.hid hUe
    have HUn := Lib.hid hUn
    clear hU hok2 hok hlen2 hown2 htk hL2 hb2 hpl hne hfit hUe hUn
    by_cases hm0 : m < 0
    · go_wp2_with fail
      refine HO1.out.mono ?_
      rintro e3 w3 ⟨v, rfl, A3, n3, c3, o3, e3, rfl, hn3, hown3, hb3, hcase⟩
      have he3 : e3 = 1 := by
        rcases hcase with ⟨g, _⟩ | ⟨_, _, g, _⟩ | ⟨_, g, _⟩
        · exact absurd (chkR_iff.2 Hok.out) g
        · exact g
        · omega
      subst he3
      have hb03 := bnext hb02 hb3
      have HG := Lib.hid (hgood.out w3 0 1)
      clear hown3 hn3 hb3 hcase
      go_wp2_with fail
      refine HG.out.mono ?_
      rintro e4 w4 ⟨rfl, hd4⟩
      have hb04 := bnext hb03 (bnext (one_alloc w3 _) (drawn_below hd4))
      clear hd4
      go_wp2_with fail
      go_ret
      exact R1.mk rfl hb04
    · have hm1 : 0 ≤ m := by omega
      obtain ⟨k, hk⟩ : ∃ k, m.toNat = k := ⟨_, rfl⟩
      go_wp2_with fail
      refine HO1.out.mono ?_
      rintro e3 w3 ⟨v, rfl, hq⟩
      obtain ⟨A3, n3, c3, rfl, hn3, hown3, hb3⟩ := ownersQ_ok hq Hok.out hm1
      rw [HU.out, hk] at hn3 hown3
      have Hn3 := Lib.hid hn3
      have HR3 := Lib.hid (Has.of_own hown3)
      have hb03 := bnext hb02 hb3
      have kx3 := kx2.next hb3
      obtain ⟨q3, q4⟩ := own_len hown3
      have HG := Lib.hid (hgood.out w3 0 0)
      have Hb3 := Lib.hid hb3
      clear hq hown3 hn3 hb3 hb02
      go_wp2_with fail
      refine HG.out.mono ?_
      rintro e4 w4 ⟨rfl, hd4⟩
      have hb34 := bnext (one_alloc w3 (.cells #[.int .i64 0, .int .i64 0] 26)) (drawn_below hd4)
      have hb04 := bnext hb03 hb34
      have kx4 := kx3.next hb34
      have HR4 := Lib.hid (HR3.out.next hb34)
      have HO2' := Lib.hid (HO2.out w4 (bnext Hb3.out hb34))
      clear hd4 hb34 hb03
      go_wp2_with fail
      refine HO2'.out.mono ?_
      rintro e5 w5 ⟨v, rfl, hq⟩
      obtain ⟨A5, n5, c5, rfl, hn5, hown5, hb5⟩ := ownersQ_ok hq Hok2.out hm1
      rw [HUe.out, hk] at hn5 hown5
      have Hn5 := Lib.hid hn5
      have hb05 := bnext hb04 hb5
      have kx5 := kx4.next hb5
      have HR5 := Lib.hid (HR4.out.next hb5)
      have HS5 := Lib.hid (Has.of_own hown5)
      have HOw5 := Lib.hid hown5
      obtain ⟨q5, q6⟩ := own_len hown5
      have hn5l : n5 ≤ 800 := by rw [hn5, List.length_take]; omega
      have hn3l : n3 ≤ 800 := by
        rw [Hn3.out, List.length_take]
        have := List.length_filter_le (fun y => decide (y ≠ nm)) U
        omega
      have c0 : w5.cell? ⟨w.heap.size, 0, none⟩ = some (.string nm) := kx5.cell 0
      have HI := Lib.hid (indexS_any A5 n5 c5 (U.take k) hn5.symm (by omega) nm w5 HS5.out)
      have Hk := Lib.hid hk
      clear hq hown5 hn5 hb5 hb04 kx kx1 kx2 kx3 kx4 kx5 HO HO1 HO2 HO2' HG hk
      go_wp2_with fail
      refine HI.out.mono ?_
      rintro e6 w6 ⟨v, rfl, ⟨i, rfl, hi1, hi2, hi3⟩, rfl⟩
      by_cases hi0 : i < 0
      · have hnot : nm ∉ U.take k := fun g => by have := hi1.2 g; omega
        have hst := strike_none hnot
        have HE := Lib.hid (equalS_any A3 A5 n3 n5 c3 c5 _ _ Hn3.out.symm Hn5.out.symm (by unfold maxLen; omega) (by unfold maxLen; omega) w6 HR5.out HS5.out)
        rw [hst, decide_eq_true rfl] at HE
        clear hnot hst hi1 hi3
        go_wp2_with fail
        refine HE.out.mono ?_
        rintro e7 w7 ⟨rfl, hd7⟩
        have hb07 := bnext hb05 (drawn_below hd7)
        clear hd7
        go_wp2_with fail
        go_ret
        exact R1.mk rfl hb07
      · obtain ⟨j, rfl⟩ := Int.eq_ofNat_of_zero_le (show 0 ≤ i by omega)
        obtain ⟨hj1, hj2⟩ := hi3 (by omega)
        rw [Int.toNat_natCast] at hj2
        have hjn : j < n5 := by omega
        have hjl : j < (U.take k).length := by rw [← Hn5.out]; exact hjn
        rw [at_eq hjl] at hj2
        have hst := strike_some HUn.out hjl hj2
        rw [← Hn5.out, ← Hn3.out] at hst
        obtain ⟨s1, s2, s3⟩ := hst
        have HCl := Lib.hid (cloneS_any A5 n5 c5 (U.take k) Hn5.out.symm (fun e => own_cap HOw5.out e) (by omega) w6 HS5.out)
        obtain ⟨z, hz⟩ : ∃ z, j + 1 = z := ⟨_, rfl⟩
        have ez : IntKind.i64.wrap ((j : Int) + 1) = (z : Int) := (IntWalk.i64_in _ (by omega)).trans (by omega)
        have Hz := Lib.hid hz
        have S1 := Lib.hid s1
        clear s1 hz hj2 hi1 hi3
        go_wp2_with fail
        refine HCl.out.mono ?_
        rintro e7 w7 ⟨v, rfl, A7, c7, rfl, hown7, hb7⟩
        obtain ⟨g, cap, ev, hg, hg2⟩ := hown7.form (by omega)
        injection ev with e1 _ e3
        subst e1 e3
        have HD := Lib.hid (delS_any (U.take k) Hn5.out.symm w7 hown7 hjn Hz.out.symm (by omega))
        have HO7 := Lib.hid hown7
        have hb07 := bnext hb05 hb7
        have HR7 := Lib.hid (HR5.out.next hb7)
        have hs6 := hb7.size
        have Hb7 := Lib.hid hb7
        clear hown7 hb7 HCl
        go_wp2_with fail
        refine HD.out.mono ?_
        rintro e8 w8 ⟨v, rfl, c8, rfl, hown8, hgr8⟩
        have hb8 : Below w6.heap.size w7 w8 := grown_below HO7.out hgr8 hs6
        have HR8 := Lib.hid ((HR5.out.below (Hb7.out.trans hb8)).more (Nat.le_trans Hb7.out.size hb8.size))
        have hb08 : Below w.heap.size w w8 := hb05.trans ((Hb7.out.trans hb8).mono hb05.size)
        have HS8 := Lib.hid (Has.of_own hown8)
        obtain ⟨q, hq⟩ : ∃ q, n5 - 1 = q := ⟨_, rfl⟩
        rw [hq] at s2 s3 S1 ⊢
        have he8 : ((U.take k).eraseIdx j).length = q := by rw [List.length_eraseIdx, if_pos hjl, ← Hn5.out, hq]
        have HE := Lib.hid (equalS_any (some ⟨g, 0, none⟩) A3 q q c8 c3 ((U.take k).eraseIdx j) (((U.filter fun y => decide (y ≠ nm)).take k).take q) he8 (by rw [List.length_take, ← Hn3.out]; omega) (by unfold maxLen; omega) (by unfold maxLen; omega) w8 HS8.out (by rw [← strCs_take]; exact HR8.out.take q))
        rw [S1.out, decide_eq_true rfl] at HE
        have hq3 : (q : Int) ≤ (c3 : Int) := by omega
        have hsub : (n3 : Int) - (q : Int) ≤ 1 := by omega
        clear hown8 hgr8 hb8 he8 hq hjl S1
        go_wp2_with ((refine HE.out.mono ?_; rintro e9 w9 ⟨rfl, hd9⟩))
        all_goals
          go_ret
          exact R1.mk (by first | rfl | simp [hsub]) (bnext hb08 (drawn_below hd9))
end Go.Proofs.Ytmbpgenjjgepiaa
