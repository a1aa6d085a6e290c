/- The walk of the law ClaimUpper: it returns true. Conditions: the arguments fit their kinds. -/
import Derived.Test.YtkkadfjcnocopaaLawClaimL
import Derived.Test.YtkkadfjcnocopaaIdxC
namespace Go.Proofs.Ytkkadfjcnocopaa
open Go.RowKit

theorem upper_law {a b : List Clm} (ua : UpC a) (ub : UpC b) {c : Clm} (hc : c ∈ a ∨ c ∈ b) : ∃ d, lookC (mergeC a b) c.nm = some d ∧ newerN c d = false := by
  rw [lookC_merge a b ua ub]
  rcases hc with hc | hc
  · rw [lookC_at ua hc]
    cases lookC b c.nm with
    | none => exact ⟨c, rfl, newer_self c⟩
    | some y => exact ⟨newest c y, rfl, newest_left c y⟩
  · rw [lookC_at ub hc]
    cases lookC a c.nm with
    | none => exact ⟨c, rfl, newer_self c⟩
    | some x => exact ⟨newest x c, rfl, newest_right x c⟩
/-- each claim has one of its name that is not older -/
theorem upper_at {L M O : List ClE} (hz : (mergeN (L.map ClE.x) (M.map ClE.x)).2 = 0) (hO : O.map ClE.x = (mergeN (L.map ClE.x) (M.map ClE.x)).1) {k : Nat} (hk : k < (L ++ M).length) :
    (∃ q, q < O.length ∧ (at_ O q).nm = (at_ (L ++ M) k).nm) ∧ ∀ q, q < O.length → (at_ O q).nm = (at_ (L ++ M) k).nm → newerN (at_ (L ++ M) k).x (at_ O q).x = false := by
  obtain ⟨ka, kb, kl⟩ := mergeN_zero.1 hz
  rw [mergeN_ok hz] at hO
  simp only [] at hO
  have ua := (checkC_zero.1 ka).2.2
  have ub := (checkC_zero.1 kb).2.2
  have hm := at_mem hk
  obtain ⟨e, he⟩ : ∃ e, at_ (L ++ M) k = e := ⟨_, rfl⟩
  rw [he] at hm ⊢
  obtain ⟨d, h1, h2⟩ := upper_law ua ub (c := e.x) (by
    rcases List.mem_append.1 hm with h | h
    · exact .inl (List.mem_map_of_mem h)
    · exact .inr (List.mem_map_of_mem h))
  have hd := lookC_mem h1
  have hdn := lookC_nm h1
  have uO := mergeC_up _ _ ua ub
  rw [← hO] at hd h1 uO
  constructor
  · obtain ⟨y, hy, hyd⟩ := List.mem_map.1 hd
    obtain ⟨q, hq, hqe⟩ := List.getElem_of_mem hy
    refine ⟨q, hq, ?_⟩
    rw [at_eq hq, hqe]
    have : y.x.nm = e.x.nm := by rw [hyd]; exact hdn
    exact this
  · intro q hq hn
    have hmem : (at_ O q).x ∈ O.map ClE.x := List.mem_map_of_mem (at_mem hq)
    have := lookC_at uO hmem
    rw [show (at_ O q).x.nm = e.x.nm from hn, h1] at this
    rw [← Option.some.inj this]
    exact h2

set_option maxRecDepth 1000000 in
set_option maxHeartbeats 4000000 in
theorem upper_any (w : World) (A B : Option Addr) (n c m d : Nat) (L M : List ClE) (hnA : A = none → c = 0) (hnB : B = none → d = 0) (hL : LsAt w A n c L) (hM : LsAt w B m d M) :
    Calls Try.prog 10 #[.slice A n c, .slice B m d] w (R1 (.bool true) (Below w.heap.size w)) := by
  obtain ⟨⟨p, z⟩, hp⟩ : ∃ r, mergeN (L.map ClE.x) (M.map ClE.x) = r := ⟨_, rfl⟩
  have HL := Lib.hid hL; clear hL
  have HM := Lib.hid hM; clear hM
  by_cases hz : z = 0
  · subst hz
    have Hp := Lib.hid hp; clear hp
    go_enter Try.func10, Try.ntmps10
    go_wp2_with fail
    refine (claims_true _).mono ?_
    rintro e0 w1 ⟨rfl, hb1⟩
    go_wp2_with fail
    refine (cmergeQ _ rfl rfl Hp.out (HL.out.next hb1) (HM.out.next hb1)).mono ?_
    rintro e0 w2 ⟨v, rfl, O, A1, c1, rfl, s1, l1, hb2'⟩
    have hb2 := bnext hb1 hb2'
    have L1 := Lib.hid l1; clear l1
    have hkk : checkC (L.map ClE.x) = 0 ∧ checkC (M.map ClE.x) = 0 ∧ (mergeC (L.map ClE.x) (M.map ClE.x)).length ≤ 20 := mergeN_zero.1 (by rw [Hp.out])
    have hOe : O.map ClE.x = mergeC (L.map ClE.x) (M.map ClE.x) := by
      have := Hp.out
      rw [mergeN_ok (by rw [Hp.out])] at this
      injection this with h1 _
      rw [s1, h1]
    have hck := Lib.hid (show checkC (O.map ClE.x) = 0 by rw [hOe]; exact mergeC_ok hkk.1 hkk.2.1 hkk.2.2)
    have hO20 : O.length ≤ 20 := by have := hkk.2.2; rw [← hOe, List.length_map] at this; exact this
    have hn20 : n ≤ 20 := by have := (checkC_20 hkk.1).1; have := HL.out.1; omega
    have hm20 : m ≤ 20 := by have := (checkC_20 hkk.2.1).1; have := HM.out.1; omega
    have UP := Lib.hid (fun k (hk : k < (L ++ M).length) => upper_at (L := L) (M := M) (O := O) (by rw [Hp.out]) (by rw [s1, Hp.out]) hk)
    clear hkk hOe s1
    have hLM := Lib.hid (show (L ++ M).length = n + m by rw [List.length_append, HL.out.1, HM.out.1])
    go_wp2_with fail
    have kb := Blk.new w2 57 #[.slice A n c, .slice B m d]
    have hbb := one_alloc w2 (.cells #[.slice A n c, .slice B m d] 57)
    have l2 := (HL.out.next hb2).next hbb
    have m2 := (HM.out.next hb2).next hbb
    refine (concatC_any A n c L B m d M l2.1 m2.1 (by omega) (by omega) hnA l2.2.1 hnB m2.2.1 _ l2.2.2.2.1 m2.2.2.2.1 ⟨w2.heap.size, 0, none⟩ kb.lt (by exact kb.cell 0) (by exact kb.cell 1)).mono ?_
    rintro e0 w3 ⟨v, rfl, A3, c3, rfl, hcat, hb3'⟩
    have hb3 := bnext (bnext hb2 hbb) hb3'
    have L3 := Lib.hid ((L1.out.next hbb).next hb3')
    have HC := Lib.hid hcat
    have hel := Lib.hid (show ∀ e ∈ L ++ M, e.t.ok w3 from fun e he => by
      rcases List.mem_append.1 he with h | h
      · exact (l2.2.2.2.2 e h).next hb3'
      · exact (m2.2.2.2.2 e h).next hb3')
    clear kb hbb l2 m2 hcat hb3' hb2 hb2' L1
    obtain ⟨t, ht⟩ : ∃ t, n + m = t := ⟨_, rfl⟩
    rw [ht] at hLM ⊢
    have ht40 : t ≤ 40 := by omega
    clear ht
    obtain ⟨N, hN⟩ : ∃ N, O.length = N := ⟨_, rfl⟩
    have HN := Lib.hid hN
    rw [hN] at hO20 L3 ⊢
    clear hN
    go_wp2_with fail
    go_loopw [28] (fun i wr => ∃ k : Nat, k ≤ t ∧ i = .int .i64 (k : Nat) ∧ Below w3.heap.size w3 wr) (fun i _ => t - (intOf i).toNat)
    case atStart => exact ⟨0, by omega, rfl, Below.refl _ _⟩
    case round =>
      obtain ⟨k, hk, rfl, hbr⟩ := hrel
      have hbr0 := bnext hb3 hbr
      by_cases hlt : (k : Int) < (t : Int)
      · have l1 := Lib.hid (show k < (L ++ M).length by rw [hLM.out]; omega)
        obtain ⟨⟨q0, hq0, hq1⟩, hup⟩ := UP.out k l1.out
        obtain ⟨ad, rfl, had, c0, c1', c2, c3'⟩ := (HC.out.next hbr).clAt l1.out
        have hxo := Lib.hid ((hel.out _ (at_mem l1.out)).next hbr)
        obtain ⟨x, hx⟩ : ∃ x, at_ (L ++ M) k = x := ⟨_, rfl⟩
        rw [hx] at c0 c1' c2 c3' hq1 hup hxo
        clear hx
        have hup := Lib.hid hup
        have hq01 := Lib.hid (show q0 < N ∧ (at_ O q0).nm = x.nm from ⟨by rw [← HN.out]; exact hq0, hq1⟩)
        clear hq0 hq1
        have hL4 := Lib.hid (L3.out.next hbr)
        have kc : Blk (wr.alloc (.cells (clA4 x) 54)) wr.heap.size 54 (clA4 x) := Blk.new _ _ _
        have hbc := one_alloc wr (.cells (clA4 x) 54)
        go_wp2_with fail
        obtain ⟨wc, hwc⟩ : ∃ wc, wr.alloc (.cells (clA4 x) 54) = wc := ⟨_, rfl⟩
        rw [hwc] at kc hbc
        rw [hwc]
        clear hwc c0 c1' c2 c3'
        obtain ⟨g, hg⟩ : ∃ g, wr.heap.size = g := ⟨_, rfl⟩
        rw [hg] at kc ⊢
        have hL5 := Lib.hid (hL4.out.next hbc)
        have hxo := Lib.hid (hxo.out.next hbc)
        have hbr5 := bnext hbr hbc
        clear hg hL4 hbc
        refine (idxC_any 38 (fun _ _ => by kernel_rfl) _ (fun q => decide ((at_ O q).nm = x.nm)) A1 N c1 O hL5.out.1 (by omega) _ hL5.out.2.2.2.1 (fun j hj w' hw' => upc1_any (at_ O j) g x.nm w' (Nat.lt_of_lt_of_le kc.lt hw'.size) (by exact (kc.next hw').cell 2))).mono ?_
        rintro e0 w6 ⟨v, rfl, ⟨r, rfl, hr⟩, hb6⟩
        rcases hr with ⟨_, hno⟩ | ⟨i, hi, rfl, hyes⟩
        · exact absurd hq01.out.2 (by have := hno q0 hq01.out.1; simpa using this)
        · have hnw := Lib.hid (hup.out i (by rw [HN.out]; exact hi) (by simpa using hyes))
          clear hyes hup hq01
          have kc6 := kc.next hb6
          have hL6 := hL5.out.next hb6
          have li := Lib.hid (show i < O.length by rw [HN.out]; exact hi)
          obtain ⟨bd, hbd, hbd2, d0, d1, d2, d3⟩ := hL6.2.2.2.1.clAt li.out
          have hyo := Lib.hid (hL6.2.2.2.2 _ (at_mem li.out))
          have hN7 := Lib.hid hL6.2.1
          obtain ⟨y, hy⟩ : ∃ y, at_ O i = y := ⟨_, rfl⟩
          rw [hy] at d0 d1 d2 d3 hyo hnw
          subst hbd
          clear hy hL6 hL5
          have hxo := Lib.hid (hxo.out.next hb6)
          have hbr6 := bnext hbr5 hb6
          have hiN : (i : Int) < (N : Int) := by omega
          have hi0 : decide ((i : Int) < 0) = false := by rw [decide_eq_false_iff_not]; omega
          have hgl : g < w6.heap.size := kc6.lt
          have e0 : w6.cell? ⟨g, 0, none⟩ = some (.int .i64 x.v) := kc6.cell 0
          have e1 : w6.cell? ⟨g, 1, none⟩ = some (.int .i64 x.s) := kc6.cell 1
          have e2 : w6.cell? ⟨g, 2, none⟩ = some (.string x.nm) := kc6.cell 2
          have e3 : w6.cell? ⟨g, 3, none⟩ = some (.slice x.t.A x.t.l.length x.t.c) := kc6.cell 3
          go_wp2_with fail
          have hbl : (bd.add (i * 4)).block < w6.heap.size := by rw [add_block]; exact hbd2
          have hlx : x.t.l.length ≤ maxLen := Nat.le_trans hxo.out.1 hxo.out.2.1
          have hly : y.t.l.length ≤ maxLen := Nat.le_trans hyo.out.1 hyo.out.2.1
          go_region_held3 (fun w' => (w'.cell? (bd.add (i * 4)) = some (.int .i64 y.v) ∧ w'.cell? ⟨(bd.add (i * 4)).block, (bd.add (i * 4)).off + 1, none⟩ = some (.int .i64 y.s) ∧ w'.cell? ⟨(bd.add (i * 4)).block, (bd.add (i * 4)).off + 2, none⟩ = some (.string y.nm) ∧ w'.cell? ⟨(bd.add (i * 4)).block, (bd.add (i * 4)).off + 3, none⟩ = some (.slice y.t.A y.t.l.length y.t.c)) ∧ w'.cell? ⟨g, 0, none⟩ = some (.int .i64 x.v) ∧ w'.cell? ⟨g, 1, none⟩ = some (.int .i64 x.s) ∧ w'.cell? ⟨g, 2, none⟩ = some (.string x.nm) ∧ w'.cell? ⟨g, 3, none⟩ = some (.slice x.t.A x.t.l.length x.t.c))
            (first | (refine keepC8 (B := w6.heap.size) (w := w6) ?_ hbl hgl d0 d1 d2 d3 kc6; (repeat' (first | with_reducible exact hB9 | with_reducible exact Below.refl _ _ | with_reducible refine below_drewM ?_ | with_reducible refine below_drewN ?_ _)); done) | (trace_state; fail))
            ((go_at_call 33; refine (newer_any x.x y.x x.t.A y.t.A _ x.t.c _ y.t.c rfl rfl hlx hly _ (by exact hxo.out.2.2.2) (by exact hyo.out.2.2.2)).mono ?_; rw [hnw.out]; rintro e9 w9 ⟨rfl, hb9⟩; have hB9 : Below w6.heap.size w6 w9 := Below.trans (by first | with_reducible exact below_drewM (Below.refl _ _) | exact below_drewN (Below.refl _ _) 1) hb9))
          have hbr9 := bnext hbr6 hB9
          go_wp2_with fail
          go_roundw
          case rel => exact ⟨k + 1, by omega, by go_num, hbr9⟩
          case measure => simp [intOf]; omega
      · go_wp2_with fail
        refine (ccheck_any A1 N c1 O HN.out (by unfold maxLen; omega) _ (L3.out.next hbr).2.2.2.1 (L3.out.next hbr).2.2.2.2).mono ?_
        rw [hck.out]
        rintro e0 w6 ⟨rfl, hb6⟩
        go_wp2_with fail
        go_ret
        exact R1.mk rfl (bnext hbr0 hb6)
  · have Hp := Lib.hid hp
    have hO : p = [] := by have := mergeN_bad (a := L.map ClE.x) (b := M.map ClE.x) (by rw [hp]; exact hz); rw [hp] at this; exact this
    subst hO
    have f1 : (z != 0) = true := by rw [bne_iff_ne]; exact hz
    clear hp
    go_enter Try.func10, Try.ntmps10
    go_wp2_with fail
    refine (claims_true _).mono ?_
    rintro e0 w1 ⟨rfl, hb1⟩
    go_wp2_with fail
    refine (cmergeQ _ rfl rfl Hp.out (HL.out.next hb1) (HM.out.next hb1)).mono ?_
    rintro e0 w2 ⟨v, rfl, O1, A1, c1, rfl, s1, l1, hb2'⟩
    obtain rfl : O1 = [] := List.map_eq_nil_iff.1 s1
    clear l1 s1
    go_wp2_with fail
    go_ret
    exact R1.mk rfl (bnext hb1 hb2')
theorem claimUpper_true (w : World) (A : Option Addr) (c : Nat) (L : List ClE) (hL : ∀ e ∈ L, e.good w) (h1 : L.length ≤ c) (h2 : c ≤ maxLen) (hnA : A = none → c = 0) (h3 : Has w w.heap.size A (clCs L)) (_ : L.length * 56 ≤ 140737488351232)
    (B : Option Addr) (d : Nat) (M : List ClE) (hM : ∀ e ∈ M, e.good w) (m1 : M.length ≤ d) (m2 : d ≤ maxLen) (hnB : B = none → d = 0) (m3 : Has w w.heap.size B (clCs M)) (_ : M.length * 56 ≤ 140737488351232) :
    Calls Try.prog 10 #[.slice A L.length c, .slice B M.length d] w (R1 (.bool true) (Below w.heap.size w)) :=
  upper_any w A B _ c _ d L M hnA hnB ⟨rfl, h1, h2, h3, fun e he => (hL e he).1⟩ ⟨rfl, m1, m2, m3, fun e he => (hM e he).1⟩
end Go.Proofs.Ytkkadfjcnocopaa
