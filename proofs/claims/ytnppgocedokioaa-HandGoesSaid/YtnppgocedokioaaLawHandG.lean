/- The walk of the law HandGoes: it returns true. Conditions: the arguments fit their kinds. -/
import Derived.Test.YtnppgocedokioaaHandOn
import Derived.Deep.CutRange
namespace Go.Proofs.Ytnppgocedokioaa
open Go.RowKit

set_option maxRecDepth 1000000 in
set_option maxHeartbeats 16000000 in
theorem goes_any (w : World) (owner dst : ByteArray) (hown : owner.size ≤ maxLen) (hdst : dst.size ≤ maxLen) (A : Option Addr) (n c : Nat) (ids : List Int) (hn : ids.length = n) (hnc : n ≤ c) (hA : A = none → c = 0) (hnb : n ≤ 17592186044416) (h : Has w w.heap.size A (i64s ids))
    (B : Option Addr) (m d : Nat) (more : List Int) (hm : more.length = m) (hmd : m ≤ d) (hB : B = none → d = 0) (hmb : m ≤ 17592186044416) (h' : Has w w.heap.size B (i64s more)) :
    Calls Try.prog 8 #[.string owner, .string dst, .slice A n c, .slice B m d] w (R1 (.bool true) (Below w.heap.size w)) := by
  have Hn := Lib.hid hn
  have Hm := Lib.hid hm
  clear hn hm
  have ewn : IntKind.i64.wrap ((n : Int) + (m : Int)) = (n : Int) + (m : Int) := IntWalk.i64_in _ (by omega)
  have hf3 : ∀ (x y z u : Value) (w : World), (Instr.field 52 (.agg #[x, y, z, u]) 3).run Try.prog w = .ok u w := fun _ _ _ _ _ => by kernel_rfl
  go_enter Try.func8, Try.ntmps8
  go_wp2_with fail
  refine (hands_true _).mono ?_
  rintro e0 w1 ⟨rfl, hb1⟩
  go_wp2_with fail
  refine (hnew_any owner w1 hown).mono ?_
  rintro e0 w2 ⟨v, rfl, ⟨_, rfl, hst, hb2'⟩ | ⟨_, rfl, hw2⟩⟩
  · have hb2 := bnext hb1 hb2'
    obtain ⟨g, hg⟩ : ∃ g, w1.heap.size = g := ⟨_, rfl⟩
    rw [hg] at hst ⊢
    have hgw : w.heap.size ≤ g := by rw [← hg]; exact hb1.size
    have Hst := Lib.hid hst
    clear hst hb2'
    by_cases h60 : (60 : Int) < (n : Int) + (m : Int)
    · go_wp2_with fail
      go_ret
      exact R1.mk (by simp) hb2
    · have h60' : n + m ≤ 60 := by omega
      have HC := Lib.hid (fun (w : World) (h : Has w w.heap.size A (i64s ids)) (h' : Has w w.heap.size B (i64s more)) (ad : Addr) (hbl : ad.block < w.heap.size) (v0 : w.cell? ad = some (.slice A n c)) (v1 : w.cell? (ad.add 1) = some (.slice B m d)) => concatI_any A n c ids B m d more Hn.out Hm.out (by omega) (by omega) hA hnc hB hmd w h h' ad hbl v0 v1)
      have kb := Blk.new w2 45 #[Value.slice A n c, .slice B m d]
      have hb3 := (Below.refl w2.heap.size w2).alloc (Nat.le_refl _) (.cells #[Value.slice A n c, .slice B m d] 45)
      have hbw3 := bnext hb2 hb3
      go_wp2_with fail
      refine (HC.out _ (by exact h.next hbw3) (by exact h'.next hbw3) ⟨w2.heap.size, 0, none⟩ (by exact kb.lt) (by exact kb.cell 0) (by exact kb.cell 1)).mono ?_
      rintro e0 w4 ⟨v, rfl, O, e, rfl, ho4, hb4⟩
      obtain ⟨q, hq⟩ : ∃ q, n + m = q := ⟨_, rfl⟩
      have hR4 : OneR w w4 g (newH owner) O q e (ids ++ more) := by
        rw [← hq]
        have hgl := hst_ltO Hst.out g rfl
        refine ⟨fun k => k = g, (Hst.out.next hb3).next hb4, fun k hk => by rw [hk]; exact hgw, okH_new owner, own_less ho4 hbw3.size, fun x hx hs => ?_, bnext hbw3 hb4⟩
        have := (own_blockM ho4 x hx).1
        rw [World.size_alloc] at this
        omega
      have HR4 := Lib.hid hR4
      rw [hq]
      rw [hq] at h60'
      have eqI : (n : Int) + (m : Int) = (q : Int) := by omega
      have Hq := Lib.hid hq
      clear hR4 Hst ho4 hb4 hb3 kb hbw3 hb2 hb1 HC hq
      go_wp2_with fail
      go_loopw [67] (fun i wr => ∃ k : Nat, k ≤ n ∧ i = .int .i64 (k : Nat) ∧ Hid (OneR w wr g (wrAll (newH owner) (ids.take k)) O q e (ids ++ more))) (fun i _ => n - (intOf i).toNat)
      case atStart => exact ⟨0, by omega, rfl, HR4⟩
      case round =>
        obtain ⟨k, hk, rfl, hR⟩ := hrel
        by_cases hlt : (k : Int) < (n : Int)
        · have l1 := Lib.hid (show k < ids.length by rw [Hn.out]; omega)
          obtain ⟨ad, rfl, _, c1⟩ := (h.next hR.out.bel).at (i64s_at l1.out)
          have HW := Lib.hid (oneW hR.out 1 (at_ ids k))
          have hs := Lib.hid (wrAll_step (s := newH owner) l1.out)
          rw [← hs.out] at HW
          obtain ⟨x, hx⟩ : ∃ x, at_ ids k = x := ⟨_, rfl⟩
          rw [hx] at c1 HW
          clear hx
          go_wp2_with fail
          refine HW.out.mono ?_
          rintro e0 w5 ⟨rfl, hR5⟩
          have HR5 := Lib.hid hR5
          clear hR5
          go_wp2_with fail
          go_roundw
          case rel => exact ⟨k + 1, by omega, by go_num, HR5⟩
          case measure => simp [intOf]; omega
        · have hkn : k = n := by omega
          subst hkn
          rw [List.take_of_length_le (by rw [Hn.out]; exact Nat.le_refl _)] at hR
          clear HR4
          obtain ⟨s1, hs1⟩ : ∃ s, wrAll (newH owner) ids = s := ⟨_, rfl⟩
          rw [hs1] at hR
          have HP1 := Lib.hid (oneP hR.out dst hdst)
          obtain ⟨⟨s2, f⟩, hpr⟩ : ∃ r, prepH s1 dst = r := ⟨_, rfl⟩
          have hto1 : s1.to = emptyS := by
            have := (wrAll_all (l := ids) (s := newH owner) (okH_new owner) rfl (by show 0 + _ < _; rw [Hn.out]; omega)).2.2.2.1
            rw [hs1] at this
            exact this
          rw [hpr] at HP1
          by_cases hf : f = 0
          · subst hf
            have hlaw := fun s3 s4 h3 h4 => @goes_law owner dst ids more (by rw [Hn.out, Hm.out]; omega) s1 s2 s3 s4 hs1.symm hpr h3 h4
            obtain ⟨s3, hs3⟩ : ∃ s, wrAll s2 more = s := ⟨_, rfl⟩
            obtain ⟨s4, hs4⟩ : ∃ s, (copyH s3 ((ids.length + more.length : Nat) : Int)).1 = s := ⟨_, rfl⟩
            obtain ⟨_, _, _, _, _, g2, g3, g4, g5⟩ := hlaw s3 s4 hs3.symm hs4.symm
            rw [Hn.out, Hm.out, Hq.out] at hs4 g4
            have G4 := Lib.hid (show copyH s3 (q : Int) = (s4, (0, 0)) from Prod.ext hs4 g4)
            have G5 := Lib.hid g5
            have G2 := Lib.hid g2
            have Hs3 := Lib.hid hs3
            obtain ⟨zl, hzl⟩ : ∃ z, s2.left.length = z := ⟨_, rfl⟩
            have Hzl := Lib.hid hzl
            clear hlaw hs1 hpr hs3 hs4 g2 g3 g4 g5 hto1 hR hzl
            go_wp2_with fail
            refine HP1.out.mono ?_
            rintro e0 w5 ⟨rfl, hR5⟩
            have HR5 := Lib.hid hR5
            have HV := Lib.hid (oneV hR5)
            unfold viewA at HV
            rw [Hzl.out] at HV
            clear hR5
            go_wp2_with fail
            refine HV.out.mono ?_
            rintro e0 w6 ⟨rfl, hR6, _⟩
            have HR6 := Lib.hid hR6
            have HCut := Lib.hid (oneCut hR6)
            clear hR6
            go_upto_region 16 with fail
            go_cut [92] from 86 to 91 (fun s92 wx => s92 = .bool false ∧ Hid (OneR w wx g s2 O q e (ids ++ more)))
            case first =>
              by_cases hz : (0 : Int) < (zl : Int)
              · rw [cut_few G2.out (by rw [Hzl.out]; omega)] at HCut
                go_wp2_with fail
                refine HCut.out.mono ?_
                rintro e0 w7 ⟨rfl, hR7⟩
                have HR7 := Lib.hid hR7
                clear hR7
                go_wp2_with fail
                go_meet
                exact ⟨rfl, HR7⟩
              · have hd := decide_eq_false hz
                go_wp2_with fail
                go_meet
                exact ⟨rfl, HR6⟩
            case rest =>
            obtain ⟨rfl, hR7⟩ := hcut
            clear HR6 HCut HV HR5 HP1
            go_wp2_with fail
            go_loopw [95] (fun i wr => ∃ k : Nat, k ≤ m ∧ i = .int .i64 (k : Nat) ∧ Hid (OneR w wr g (wrAll s2 (more.take k)) O q e (ids ++ more))) (fun i _ => m - (intOf i).toNat)
            case atStart => exact ⟨0, by omega, rfl, hR7⟩
            case round =>
              clear hR7
              obtain ⟨j, hj, rfl, hR⟩ := hrel
              by_cases hlt : (j : Int) < (m : Int)
              · have l1 := Lib.hid (show j < more.length by rw [Hm.out]; omega)
                obtain ⟨ad, rfl, _, c1⟩ := (h'.next hR.out.bel).at (i64s_at l1.out)
                have HW := Lib.hid (oneW hR.out 1 (at_ more j))
                have hs := Lib.hid (wrAll_step (s := s2) l1.out)
                rw [← hs.out] at HW
                obtain ⟨x, hx⟩ : ∃ x, at_ more j = x := ⟨_, rfl⟩
                rw [hx] at c1 HW
                clear hx
                go_wp2_with fail
                refine HW.out.mono ?_
                rintro e0 w5 ⟨rfl, hR5⟩
                have HR5 := Lib.hid hR5
                clear hR5
                go_wp2_with fail
                go_roundw
                case rel => exact ⟨j + 1, by omega, by go_num, HR5⟩
                case measure => simp [intOf]; omega
              · have hjm : j = m := by omega
                subst hjm
                rw [List.take_of_length_le (by rw [Hm.out]; exact Nat.le_refl _), Hs3.out] at hR
                have HCp := Lib.hid (oneC hR.out (q : Int))
                rw [G4.out] at HCp
                clear hR
                go_wp2_with fail
                refine HCp.out.mono ?_
                rintro e0 w8 ⟨v, rfl, rfl, hR8⟩
                have hlq : (ids ++ more).length = q := by rw [List.length_append, Hn.out, Hm.out]; exact Hq.out
                have HSo := Lib.hid (sortR hR8 hlq (by omega))
                have Hlq := Lib.hid (show (sortI (ids ++ more)).length = q by rw [sortI_len]; exact hlq)
                clear hR8 hlq
                go_wp2_with fail
                refine HSo.out.mono ?_
                rintro e0 w9 ⟨rfl, hR9⟩
                have HCu := Lib.hid (oneCut hR9)
                obtain ⟨Z, hZ⟩ : ∃ Z, Lib.compact (sortI (ids ++ more)) = Z := ⟨_, rfl⟩
                have HZ := Lib.hid hZ
                rw [hZ] at G5
                rw [G5.out] at HCu
                clear hR9 hZ
                go_wp2_with fail
                refine HCu.out.mono ?_
                rintro e0 w10 ⟨rfl, hR10⟩
                have HRd := Lib.hid (oneRd hR10 2)
                rw [show readH ⟨2, dst, emptyS, Z, [], []⟩ 2 = (Z, 0) from if_neg (fun h => h rfl)] at HRd
                have hlt10 := Lib.hid (fun x hx => (own_blockM hR10.row x hx).2)
                clear hR10
                go_wp2_with fail
                refine HRd.out.mono ?_
                rintro e0 w11 ⟨v, rfl, ⟨A8, c8, rfl, ho8, _⟩, hR11⟩
                obtain ⟨zn, hzn⟩ : ∃ zn, Z.length = zn := ⟨_, rfl⟩
                simp only [hzn] at ho8 ⊢
                have hzq : zn ≤ q := by rw [← hzn, ← HZ.out, ← Hlq.out]; exact compact_le
                have HCm := Lib.hid (compactI_any (sortI (ids ++ more)) Hlq.out (by omega) w11 hR11.row)
                have Hzn := Lib.hid hzn
                have HR11 := Lib.hid hR11
                have Ho8 := Lib.hid ho8
                clear hR11 hzn ho8
                go_wp2_with fail
                refine HCm.out.mono ?_
                rintro e0 w12 ⟨v, rfl, rfl, ho12, hg12⟩
                rw [HZ.out, Hzn.out] at ho12 ⊢
                obtain ⟨S12, hst12, hb12⟩ := HR11.out.after hg12
                have Hst12 := Lib.hid hst12
                have hX := Lib.hid (Has.grownI (Has.of_own Ho8.out) hg12 (fun ad e1 h2 => by
                  have h3 := hlt10.out ad.block h2
                  have h4 := (own_blockM Ho8.out ad.block (by rw [e1]; rfl)).1
                  omega))
                have HE := Lib.hid (equalI64_any A8 O zn zn c8 e Z Z Hzn.out Hzn.out (by unfold maxLen; omega) (by unfold maxLen; omega) w12 hX.out (Has.of_own ho12))
                rw [decide_eq_true rfl] at HE
                have hq1 : ∀ w, (binOp .eql 52 (.agg #[.int .i64 2, .string dst, .string ⟨#[]⟩, .int .i64 0]) (.agg #[.int .i64 2, .string dst, .string ⟨#[]⟩, .int .i64 0])).run Try.prog w = .ok (.bool true) w := fun w => eqHand w ⟨2, dst, emptyS, Z, [], []⟩
                have hq2 := guardHand
                clear hst12 ho12 hg12 HR11 Ho8
                go_wp2_with fail
                refine HE.out.mono ?_
                rintro e0 w13 ⟨rfl, hdr⟩
                have hb13 := drawn_below hdr
                have HV2 := Lib.hid (view_any S12 g _ w13 (Hst12.out.next hb13))
                have hbw13 := bnext hb12 hb13
                rw [show viewA ⟨2, dst, emptyS, Z, [], []⟩ = #[.int .i64 2, .string dst, .string ⟨#[]⟩, .int .i64 0] from rfl] at HV2
                go_wp2_with fail
                refine HV2.out.mono ?_
                rintro e0 w14 ⟨rfl, hb14⟩
                go_wp2_with fail
                go_ret
                exact R1.mk (by simp) (bnext hbw13 hb14)
          · have hbad := @prep_bad s1 dst (by rw [hpr]; exact hf)
            rw [hpr] at hbad
            have hbad : s2 = s1 := hbad
            subst hbad
            have hf1 : (f != 0) = true := by rw [bne_iff_ne]; exact hf
            have Hto1 := Lib.hid hto1
            clear hs1 hpr hf hto1 hR
            go_wp2_with fail
            refine HP1.out.mono ?_
            rintro e0 w5 ⟨rfl, hR5⟩
            have HCut := Lib.hid (oneCut hR5)
            rw [cut_none Hto1.out] at HCut
            clear hR5
            go_wp2_with fail
            refine HCut.out.mono ?_
            rintro e0 w6 ⟨rfl, hR6⟩
            have hb6 := hR6.bel
            clear hR6
            go_wp2_with fail
            go_ret
            exact R1.mk (by simp) hb6
  · go_wp2_with fail
    go_ret
    exact R1.mk (by simp) (by first | exact hb1 | (rw [hw2]; exact hb1))
theorem handGoes_true (w : World) (owner : ByteArray) (sz : owner.size ≤ maxLen) (dst : ByteArray) (sz' : dst.size ≤ maxLen) (A : Option Addr) (c : Nat) (ids : List Int) (_ : ∀ x ∈ ids, in64 x) (lc : ids.length ≤ c) (_ : c ≤ maxLen) (hA : A = none → c = 0) (has : Has w w.heap.size A (i64s ids)) (hr : ids.length ≤ 17592186043904)
    (B : Option Addr) (d : Nat) (more : List Int) (_ : ∀ x ∈ more, in64 x) (lc' : more.length ≤ d) (_ : d ≤ maxLen) (hB : B = none → d = 0) (has' : Has w w.heap.size B (i64s more)) (hr' : more.length ≤ 17592186043904) :
    Calls Try.prog 8 #[.string owner, .string dst, .slice A ids.length c, .slice B more.length d] w (R1 (.bool true) (Below w.heap.size w)) := by
  exact goes_any w owner dst sz sz' A _ c ids rfl lc hA (by omega) has B _ d more rfl lc' hB (by omega) has'
end Go.Proofs.Ytnppgocedokioaa
