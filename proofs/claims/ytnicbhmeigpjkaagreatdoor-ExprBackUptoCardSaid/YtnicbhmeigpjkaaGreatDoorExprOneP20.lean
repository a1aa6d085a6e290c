/- Texts of the proof of ExprOne, joined (by merge.py). Conditions: each theorem's own hypotheses. -/
import Derived.Test.YtnicbhmeigpjkaaGreatDoorExprOneP19
import Derived.Deep.DeepCutAuto
namespace Go.Proofs.YtnicbhmeigpjkaaGreatDoor
open Go.RowKit

theorem xparts_any (k : Int) (w : World) : Calls Tryz.prog 50 #[.int .i64 k] w (R1 (.int .i64 (partsN k)) (fun w' => w' = w)) := by
  by_cases h1 : k = 1
  · subst h1
    go_enter Tryz.func50, Tryz.ntmps50
    go_wp2_with fail
    go_ret
    exact R1.mk rfl rfl
  by_cases h2 : k = 2
  · subst h2
    go_enter Tryz.func50, Tryz.ntmps50
    go_wp2_with fail
    go_ret
    exact R1.mk rfl rfl
  by_cases h3 : k = 3
  · subst h3
    go_enter Tryz.func50, Tryz.ntmps50
    go_wp2_with fail
    go_ret
    exact R1.mk rfl rfl
  by_cases h4 : k = 4
  · subst h4
    go_enter Tryz.func50, Tryz.ntmps50
    go_wp2_with fail
    go_ret
    exact R1.mk rfl rfl
  by_cases h5 : k = 5
  · subst h5
    go_enter Tryz.func50, Tryz.ntmps50
    go_wp2_with fail
    go_ret
    exact R1.mk rfl rfl
  by_cases h6 : k = 6
  · subst h6
    go_enter Tryz.func50, Tryz.ntmps50
    go_wp2_with fail
    go_ret
    exact R1.mk rfl rfl
  by_cases h7 : k = 7
  · subst h7
    go_enter Tryz.func50, Tryz.ntmps50
    go_wp2_with fail
    go_ret
    exact R1.mk rfl rfl
  by_cases h8 : k = 8
  · subst h8
    go_enter Tryz.func50, Tryz.ntmps50
    go_wp2_with fail
    go_ret
    exact R1.mk rfl rfl
  have hp : partsN k = -1 := by unfold partsN; rw [if_neg (by omega), if_neg (by omega), if_neg (by omega)]
  rw [hp]
  go_enter Tryz.func50, Tryz.ntmps50
  go_wp2_with fail
  go_ret
  exact R1.mk rfl rfl

theorem fstE_zero (r : Int) : fstE 0 r = r := rfl
theorem fstE_ne {e r : Int} (h : e ≠ 0) : fstE e r = e := if_pos h
theorem chkX_split : ∀ {x : List ExE} {j : Nat}, j < x.length → ExE.chkL (x.take j) = 0 → (at_ x j).chk ≠ 0 → ExE.chkL x = (at_ x j).chk
  | y :: x, 0, _, _, h => by
    simp only [ExE.chkL]
    show fstE y.chk _ = y.chk
    unfold fstE
    exact if_pos h
  | y :: x, j + 1, hj, h0, h => by
    simp only [List.take_succ_cons, ExE.chkL] at h0 ⊢
    obtain ⟨h1, h2⟩ := fstE_iff.1 h0
    unfold fstE
    rw [if_neg (by simpa using h1)]
    exact chkX_split (by simpa using hj) h2 h
theorem chkX_snoc {x : List ExE} {j : Nat} (hj : j < x.length) (h0 : ExE.chkL (x.take j) = 0) (h : (at_ x j).chk = 0) : ExE.chkL (x.take (j + 1)) = 0 := by
  rw [List.take_add_one, List.getElem?_eq_getElem hj]
  rw [at_eq hj] at h
  generalize x.take j = a at h0
  induction a with
  | nil =>
    simp only [List.nil_append, Option.toList_some, ExE.chkL]
    exact fstE_iff.2 ⟨h, rfl⟩
  | cons y a ih =>
    simp only [List.cons_append, ExE.chkL] at h0 ih ⊢
    obtain ⟨h1, h2⟩ := fstE_iff.1 h0
    exact fstE_iff.2 ⟨h1, ih h2⟩
theorem elLabX : Elem Tryz.prog 34 78 2 32 := Elem.mk' (z := .agg #[.string ⟨#[]⟩, .string ⟨#[]⟩]) Tryz.underlying34 (by kernel_rfl) rfl (by decide)
theorem byL_snoc {b : List ByteArray} {j : Nat} (h : j < b.length) : labCs (byL (b.take (j + 1))) = labCs (byL (b.take j)) ++ (#[.string (at_ b j), .string ⟨#[]⟩] : Array Value).toList := by
  rw [List.take_add_one, List.getElem?_eq_getElem h, at_eq h]
  unfold byL labCs
  rw [List.map_append, List.flatMap_append]
  rfl
theorem byL_ok {b : List ByteArray} (h : ∀ s ∈ b, s.size ≤ maxLen) : ∀ e ∈ byL b, LabOk e := by
  intro e he
  unfold byL at he
  obtain ⟨s, hs, rfl⟩ := List.mem_map.1 he
  exact ⟨h s hs, by unfold noS; show 0 ≤ _; omega⟩
theorem strCs_atX {b : List ByteArray} {k : Nat} (h : k < b.length) : (strCs b)[k]? = some (.string (at_ b k)) := by
  have := flat_at (f := strC) (C := 1) (fun _ => rfl) h (r := 0) (by decide)
  unfold strCs
  simpa [strC] using this
def badB (b1 b2 b3 b4 s2 b5 b6 b7 b8 b9 b10 : Bool) : Bool := b1 || b2 || (b3 && b4) || (!s2 && (b5 || b6)) || (b7 && b8) || (s2 && (b9 || b10))
theorem badB_iff {p k n w : Int} {ml bl xl : Nat} (hp : partsN k = p) : badB (decide (p < 0)) ((xl : Int) != p) (k != 1) (n != 0) (k == 2) (w != 0) (decide (0 < ml)) (p != 1) (decide (0 < bl)) (decide (w < 1)) (decide (1099511627776 < w)) = true ↔ badX k n w ml bl xl := by
  unfold badB badX
  rw [hp]
  simp only [Bool.or_eq_true, Bool.and_eq_true, decide_eq_true_eq, bne_iff_ne, beq_iff_eq, Bool.not_eq_true', beq_eq_false_iff_ne, ne_eq, or_assoc]
set_option maxRecDepth 1000000 in
set_option maxHeartbeats 8000000 in
theorem xcheck_go : ∀ (e : ExE) (w : World), e.G w → Calls Tryz.prog 45 #[exV e] w (R1 (.int .i64 e.chk) (Below w.heap.size w)) := by
  refine ExE.induct fun e ih => ?_
  intro w hG
  have hsub := hG.sub
  have ho := hG.own
  have hce := e.chk_eq
  clear hG
  cases e with | mk k0 n0 w0 ma mc m ba bc b xa xc x =>
  have ml : m.length ≤ mc := ho.ml
  have hmc : mc ≤ maxLen := ho.mc
  have bl : b.length ≤ bc := ho.bl
  have hbc : bc ≤ maxLen := ho.bc
  have hbk : b.length ≤ 1048576 := ho.bk
  have xl : x.length ≤ xc := ho.xl
  have hxc : xc ≤ maxLen := ho.xc
  have xh : Has w w.heap.size xa (exCs x) := ho.xh
  have bh : Has w w.heap.size ba (strCs b) := ho.bh
  have mh : Has w w.heap.size ma (mtCs m) := ho.mh
  have mok : ∀ y ∈ m, MtOk y := ho.ms
  have bok : ∀ s ∈ b, s.size ≤ maxLen := ho.bs
  unfold exV
  simp only [ExE.kind, ExE.n, ExE.w, ExE.ma, ExE.mc, ExE.m, ExE.ba, ExE.bc, ExE.b, ExE.xa, ExE.xc, ExE.x] at ih hsub hce ⊢
  obtain ⟨c, hc⟩ : ∃ c, (ExE.mk k0 n0 w0 ma mc m ba bc b xa xc x).chk = c := ⟨_, rfl⟩
  rw [hc] at hce ⊢
  obtain ⟨n, hn⟩ : ∃ n, x.length = n := ⟨_, rfl⟩
  obtain ⟨mn, hmn⟩ : ∃ n, m.length = n := ⟨_, rfl⟩
  obtain ⟨bn, hbn⟩ : ∃ n, b.length = n := ⟨_, rfl⟩
  unfold ownX at hce
  rw [hn] at xl hce ⊢
  rw [hmn] at ml hce ⊢
  rw [hbn] at bl hbk hce ⊢
  obtain ⟨W0, hW0⟩ : ∃ W0, w.alloc (.cells #[.int .i64 k0, .int .i64 n0, .int .i64 w0, .slice ma mn mc, .slice ba bn bc, .slice xa n xc] 28) = W0 := ⟨_, rfl⟩
  obtain ⟨q, hq⟩ : ∃ q, w.heap.size = q := ⟨_, rfl⟩
  have hb0 : Below w.heap.size w W0 := by rw [← hW0]; exact one_allocB _ _
  have kx : Blk W0 q 28 #[.int .i64 k0, .int .i64 n0, .int .i64 w0, .slice ma mn mc, .slice ba bn bc, .slice xa n xc] := by rw [← hW0]; exact Blk.newM _ _ _ _ hq
  have x0 : W0.cell? ⟨q, 0, none⟩ = some (.int .i64 k0) := kx.cell 0
  have x1 : W0.cell? ⟨q, 1, none⟩ = some (.int .i64 n0) := kx.cell 1
  have x2 : W0.cell? ⟨q, 2, none⟩ = some (.int .i64 w0) := kx.cell 2
  have x3 : W0.cell? ⟨q, 3, none⟩ = some (.slice ma mn mc) := kx.cell 3
  have x4 : W0.cell? ⟨q, 4, none⟩ = some (.slice ba bn bc) := kx.cell 4
  have x5 : W0.cell? ⟨q, 5, none⟩ = some (.slice xa n xc) := kx.cell 5
  have hn1 : n ≤ maxLen := by omega
  have hmn1 : mn ≤ maxLen := by omega
  unfold maxLen at hn1 hmn1
  have HM := Lib.hid (mcheck_any ma mn mc m hmn (by omega) W0 (mh.next hb0) mok)
  have HW0 := Lib.hid hW0
  have Hq := Lib.hid hq
  have Hn := Lib.hid hn
  have Hbn := Lib.hid hbn
  have Hce := Lib.hid hce
  have hb0 := Lib.hid hb0
  have xh := Lib.hid xh
  have bh := Lib.hid bh
  have ih := Lib.hid ih
  have hsub := Lib.hid hsub
  have bok := Lib.hid bok
  have kx := Lib.hid kx
  have HP := Lib.hid (fun (w' : World) => xparts_any k0 w')
  obtain ⟨p, hp⟩ : ∃ p, partsN k0 = p := ⟨_, rfl⟩
  rw [hp] at HP
  have Hbad := badB_iff (n := n0) (w := w0) (ml := mn) (bl := bn) (xl := n) hp
  obtain ⟨b1, h1⟩ : ∃ b, decide (p < 0) = b := ⟨_, rfl⟩
  obtain ⟨b2, h2⟩ : ∃ b, ((n : Int) != p) = b := ⟨_, rfl⟩
  obtain ⟨b3, h3⟩ : ∃ b, (k0 != 1) = b := ⟨_, rfl⟩
  obtain ⟨b4, h4⟩ : ∃ b, (n0 != 0) = b := ⟨_, rfl⟩
  obtain ⟨s2, hs2⟩ : ∃ b, (k0 == 2) = b := ⟨_, rfl⟩
  obtain ⟨b5, h5⟩ : ∃ b, (w0 != 0) = b := ⟨_, rfl⟩
  obtain ⟨b6, h6⟩ : ∃ b, decide (0 < mn) = b := ⟨_, rfl⟩
  obtain ⟨b7, h7⟩ : ∃ b, (p != 1) = b := ⟨_, rfl⟩
  obtain ⟨b8, h8⟩ : ∃ b, decide (0 < bn) = b := ⟨_, rfl⟩
  obtain ⟨b9, h9⟩ : ∃ b, decide (w0 < 1) = b := ⟨_, rfl⟩
  obtain ⟨b10, h10⟩ : ∃ b, decide (1099511627776 < w0) = b := ⟨_, rfl⟩
  rw [h1, h2, h3, h4, hs2, h5, h6, h7, h8, h9, h10] at Hbad
  have Hbad := Lib.hid Hbad
  clear hc hn hmn hbn hW0 hq hce ho mh mok hp
  go_enter Tryz.func45, Tryz.ntmps45
  go_upto_region 1 with fail
  rw [HW0.out, Hq.out]
  go_wp2_with fail
  refine (HP.out _).mono ?_
  rintro e w' ⟨rfl, rfl⟩
  go_upto_region 3 with fail
  go_cut [75] from 13 to 75 (fun v wx => v = .bool (badB b1 b2 b3 b4 s2 b5 b6 b7 b8 b9 b10) ∧ wx = w')
  case first =>
    cases s2
    all_goals
      go_wp2_with fail
      all_goals
        go_meet
        case rel =>
          clear h1 h2 h3 h4 hs2 h5 h6 h7 h8 h9 h10 Hbad
          refine ⟨?_, rfl⟩
          simp [badB, *]
  case rest =>
    obtain ⟨rfl, rfl⟩ := hcut
    obtain ⟨bb, hbb⟩ : ∃ bb, badB b1 b2 b3 b4 s2 b5 b6 b7 b8 b9 b10 = bb := ⟨_, rfl⟩
    rw [hbb] at Hbad ⊢
    clear h1 h2 h3 h4 hs2 h5 h6 h7 h8 h9 h10 hbb
    have hce := Hce.out
    cases bb with
    | true =>
      rw [if_pos (Hbad.out.1 rfl)] at hce
      have hc1 : c = 1 := hce
      subst hc1
      clear hce
      go_wp2_with fail
      go_ret
      exact R1.mk rfl hb0.out
    | false =>
      rw [if_neg (fun g => by have := Hbad.out.2 g; cases this)] at hce
      obtain ⟨em, hem⟩ : ∃ em, chkM m = em := ⟨_, rfl⟩
      obtain ⟨eb, heb⟩ : ∃ eb, chkL (byL b) = eb := ⟨_, rfl⟩
      rw [hem, heb] at hce
      rw [hem] at HM
      have Hce2 := Lib.hid hce
      clear hce hem Hbad Hce
      by_cases hm0 : em = 0
      · subst hm0
        go_wp2_with fail
        refine HM.out.mono ?_
        rintro e w1 ⟨rfl, hb1⟩
        have hb01 := Lib.hid (bnext hb0.out hb1)
        have kx1 := kx.out.next hb1
        have y4 : w1.cell? ⟨q, 4, none⟩ = some (.slice ba bn bc) := kx1.cell 4
        have y5 : w1.cell? ⟨q, 5, none⟩ = some (.slice xa n xc) := kx1.cell 5
        have kx1 := Lib.hid kx1
        have bh1 := Lib.hid (bh.out.next hb01.out)
        clear x0 x1 x2 x3 x4 x5 hb1
        go_wp2_with fail
        have hbn1 : bn ≤ maxLen := by omega
        unfold maxLen at hbn1
        go_loopw [6, 85] (fun v i wr => ∃ (j c3 : Nat) (A3 : Option Addr), j ≤ bn ∧ i = .int .i64 (j : Nat) ∧ v = .slice A3 j c3 ∧ Hid (wr.ownsRow w1.heap.size 78 2 (.slice A3 j c3) j (labCs (byL (b.take j)))) ∧ Hid (Below w1.heap.size w1 wr)) (fun _ i _ => bn + 5 - (intOf i).toNat)
        case atStart => exact ⟨0, 0, none, by omega, rfl, rfl, Lib.hid (by rw [List.take_zero]; exact World.ownsRow_nil _ _ _ _), Lib.hid (Below.refl _ _)⟩
        case round =>
          obtain ⟨j, c3, A3, hj, rfl, rfl, hown, hbr⟩ := hrel
          by_cases hlt : (j : Int) < (bn : Int)
          · have hjl : j < b.length := by rw [Hbn.out]; omega
            obtain ⟨ad, had, hadb, c0⟩ := (bh1.out.next hbr.out).at (strCs_atX hjl)
            have hsn := Lib.hid (byL_snoc hjl)
            have q1 : (0 : Int) ≤ (j : Int) := by omega
            obtain ⟨s, hs⟩ : ∃ s, at_ b j = s := ⟨_, rfl⟩
            rw [hs] at c0 hsn
            subst had
            have hown' := hown.out
            have hsz := hbr.out.size
            clear hjl hs
            go_wp2_with (at_builtin; refine wpList_append1 rfl _ _ _ rfl elLabX rfl hown' rfl rfl rfl ?_ ?k1 ?k2 ?k3 ?k4; intro A8 c8 w8 hown8 hgrow8 hbel8)
            case k1 => first | exact ⟨rfl, rfl⟩ | (intro u hu; simp at hu; rcases hu with rfl | rfl <;> rfl)
            case k2 => omega
            case k3 => unfold maxLen; omega
            have hb8 := Lib.hid (hbr.out.trans hbel8)
            have ho8 := Lib.hid (show w8.ownsRow w1.heap.size 78 2 (.slice A8 (j + 1) c8) (j + 1) (labCs (byL (b.take (j + 1)))) by rw [hsn.out]; exact hown8)
            clear hown8 hgrow8 hbel8 hown'
            go_wp2_with fail
            go_roundw
            case rel => exact ⟨j + 1, c8, A8, by omega, by go_num, rfl, ho8, hb8⟩
            case measure => simp [intOf]; omega
          · obtain rfl : j = bn := by omega
            have hall : b.take j = b := List.take_of_length_le (by rw [Hbn.out]; exact Nat.le_refl _)
            rw [hall] at hown
            have hlen : (byL b).length = j := by unfold byL; rw [List.length_map, Hbn.out]
            have hLc := lcheck_any A3 j c3 (byL b) hlen (by omega) wr (Has.of_own hown.out) (byL_ok bok.out)
            rw [heb] at hLc
            have hLc := Lib.hid hLc
            have kxr := kx1.out.next hbr.out
            have z5 : wr.cell? ⟨q, 5, none⟩ = some (.slice xa n xc) := kxr.cell 5
            have hbwr := Lib.hid (bnext hb01.out hbr.out)
            have kxr := Lib.hid kxr
            clear hall hlen y4 y5 hown heb
            by_cases hb0' : eb = 0
            · subst hb0'
              go_wp2_with fail
              refine hLc.out.mono ?_
              rintro e w2 ⟨rfl, hb2⟩
              have hb02 := Lib.hid (bnext hbwr.out hb2)
              have kx2 := kxr.out.next hb2
              have z5' : w2.cell? ⟨q, 5, none⟩ = some (.slice xa n xc) := kx2.cell 5
              have hcx : Hid (c = ExE.chkL x) := Lib.hid Hce2.out
              clear z5 hb2 kx2
              go_wp2_with fail
              go_loopw [103] (fun i wr => ∃ (j : Nat), j ≤ n ∧ i = .int .i64 (j : Nat) ∧ Hid (ExE.chkL (x.take j) = 0) ∧ Hid (Below w2.heap.size w2 wr)) (fun i _ => n + 5 - (intOf i).toNat)
              case atStart => exact ⟨0, by omega, rfl, Lib.hid (by rw [List.take_zero]; rfl), Lib.hid (Below.refl _ _)⟩
              case round =>
                obtain ⟨i, hi, rfl, hck, hbi⟩ := hrel
                by_cases hlti : (i : Int) < (n : Int)
                · have hil : i < x.length := by rw [Hn.out]; omega
                  have hb0i := Lib.hid (bnext hb02.out hbi.out)
                  obtain ⟨ad, had, hadb, c0, c1, c2, c3', c4, c5⟩ := exCs_cells (xh.out.next hb0i.out) hil
                  have hmem : at_ x i ∈ x := at_mem hil
                  have hyG := ExE.G.next hb0i.out _ (hsub.out _ hmem)
                  have hsp := Lib.hid (fun h => chkX_split hil hck.out h)
                  have hsn := Lib.hid (fun h => chkX_snoc hil hck.out h)
                  obtain ⟨y, hy⟩ : ∃ y, at_ x i = y := ⟨_, rfl⟩
                  rw [hy] at c0 c1 c2 c3' c4 c5 hmem hyG hsp hsn
                  have hyo := hyG.own
                  have y1 : y.m.length ≤ y.mc := hyo.ml
                  have y2 : y.mc ≤ maxLen := hyo.mc
                  have y3 : y.b.length ≤ y.bc := hyo.bl
                  have y4 : y.bc ≤ maxLen := hyo.bc
                  have y5 : y.x.length ≤ y.xc := hyo.xl
                  have y6 : y.xc ≤ maxLen := hyo.xc
                  have hC := fun (w' : World) (hb : Below wr.heap.size wr w') => ih.out y hmem w' (ExE.G.next hb _ hyG)
                  unfold exV at hC
                  obtain ⟨yc, hyc'⟩ : ∃ c, y.chk = c := ⟨_, rfl⟩
                  rw [hyc'] at hsp hsn
                  simp only [hyc'] at hC
                  have hC := Lib.hid hC
                  have q1 : (0 : Int) ≤ (i : Int) := by omega
                  subst had
                  clear hy hyG hyo hyc' hil
                  by_cases hyc0 : yc = 0
                  · subst hyc0
                    go_wp2_with fail
                    refine (hC.out _ (one_allocB _ _)).mono ?_
                    rintro e w3 ⟨rfl, hb3⟩
                    have hbi3 := Lib.hid (bnext hbi.out (bnext (one_allocB _ _) hb3))
                    clear hb3
                    go_wp2_with fail
                    go_roundw
                    case rel => exact ⟨i + 1, by omega, by go_num, Lib.hid (by first | exact hsn.out rfl | exact hsn.out trivial), hbi3⟩
                    case measure => simp [intOf]; omega
                  · have hcy : c = yc := by rw [hcx.out]; exact hsp.out hyc0
                    subst hcy
                    go_wp2_with fail
                    refine (hC.out _ (one_allocB _ _)).mono ?_
                    rintro e w3 ⟨rfl, hb3⟩
                    have hbi3 := Lib.hid (bnext hb0i.out (bnext (one_allocB _ _) hb3))
                    clear hb3
                    go_wp2_with fail
                    go_ret
                    exact R1.mk rfl hbi3.out
                · obtain rfl : i = n := by omega
                  have hc0 : c = 0 := by rw [hcx.out, ← hck.out, List.take_of_length_le (by rw [Hn.out]; exact Nat.le_refl _)]
                  subst hc0
                  go_wp2_with fail
                  go_ret
                  exact R1.mk rfl (bnext hb02.out hbi.out)
            · have hcb : c = eb := by rw [Hce2.out, fstE_zero, fstE_ne hb0']
              subst hcb
              go_wp2_with fail
              refine hLc.out.mono ?_
              rintro e w2 ⟨rfl, hb2⟩
              have hb02 := Lib.hid (bnext hbwr.out hb2)
              clear hb2
              go_wp2_with fail
              go_ret
              exact R1.mk rfl hb02.out
      · have hcm : c = em := by rw [Hce2.out, fstE_ne hm0, fstE_ne hm0]
        subst hcm
        go_wp2_with fail
        refine HM.out.mono ?_
        rintro e w1 ⟨rfl, hb1⟩
        have hb01 := Lib.hid (bnext hb0.out hb1)
        clear hb1
        go_wp2_with fail
        go_ret
        exact R1.mk rfl hb01.out
set_option maxRecDepth 1000000 in
set_option maxHeartbeats 1000000 in
theorem xcheckT_any (e : ExE) (w : World) (hG : e.G w) (hk : e.cnt ≤ 1099511627776) : Calls Tryz.prog 24 #[exV e] w (R1 (.int .i64 e.chkT) (Below w.heap.size w)) := by
  have ho := hG.own
  have ml : e.m.length ≤ e.mc := ho.ml
  have hmc : e.mc ≤ maxLen := ho.mc
  have bl : e.b.length ≤ e.bc := ho.bl
  have hbc : e.bc ≤ maxLen := ho.bc
  have xl : e.x.length ≤ e.xc := ho.xl
  have hxc : e.xc ≤ maxLen := ho.xc
  obtain ⟨W0, hW0⟩ : ∃ W0, w.alloc (.cells #[.int .i64 e.kind, .int .i64 e.n, .int .i64 e.w, .slice e.ma e.m.length e.mc, .slice e.ba e.b.length e.bc, .slice e.xa e.x.length e.xc] 28) = W0 := ⟨_, rfl⟩
  obtain ⟨q, hq⟩ : ∃ q, w.heap.size = q := ⟨_, rfl⟩
  have hb0 : Below w.heap.size w W0 := by rw [← hW0]; exact one_allocB _ _
  have kx : Blk W0 q 28 #[.int .i64 e.kind, .int .i64 e.n, .int .i64 e.w, .slice e.ma e.m.length e.mc, .slice e.ba e.b.length e.bc, .slice e.xa e.x.length e.xc] := by rw [← hW0]; exact Blk.newM _ _ _ _ hq
  have x0 : W0.cell? ⟨q, 0, none⟩ = some (.int .i64 e.kind) := kx.cell 0
  have x1 : W0.cell? ⟨q, 1, none⟩ = some (.int .i64 e.n) := kx.cell 1
  have x2 : W0.cell? ⟨q, 2, none⟩ = some (.int .i64 e.w) := kx.cell 2
  have x3 : W0.cell? ⟨q, 3, none⟩ = some (.slice e.ma e.m.length e.mc) := kx.cell 3
  have x4 : W0.cell? ⟨q, 4, none⟩ = some (.slice e.ba e.b.length e.bc) := kx.cell 4
  have x5 : W0.cell? ⟨q, 5, none⟩ = some (.slice e.xa e.x.length e.xc) := kx.cell 5
  have HC := xcount_any e W0 (ExE.G.next hb0 _ hG) hk
  have HK := fun (w' : World) (hb : Below W0.heap.size W0 w') => xcheck_go e w' (ExE.G.next (bnext hb0 hb) _ hG)
  unfold exV at HC HK ⊢
  have hT : e.chkT = if 100 < e.cnt then 2 else e.chk := rfl
  obtain ⟨c, hc⟩ : ∃ c, e.cnt = c := ⟨_, rfl⟩
  obtain ⟨k, hck⟩ : ∃ k, e.chk = k := ⟨_, rfl⟩
  obtain ⟨t, ht⟩ : ∃ t, e.chkT = t := ⟨_, rfl⟩
  rw [hc] at HC hT
  simp only [hck] at HK hT
  rw [ht] at hT ⊢
  have HT := Lib.hid hT
  have HC := Lib.hid HC
  have HK := Lib.hid HK
  have HW0 := Lib.hid hW0
  have Hq := Lib.hid hq
  have hb0 := Lib.hid hb0
  have kx := Lib.hid kx
  clear hc hck ht hT hW0 hq ho hG
  go_enter Tryz.func24, Tryz.ntmps24
  go_upto_region 1 with fail
  rw [HW0.out, Hq.out]
  go_wp2_with fail
  refine HC.out.mono ?_
  rintro e' w1 ⟨rfl, hb1⟩
  by_cases h100 : (100 : Int) < (c : Int)
  · have ht2 : t = 2 := by rw [HT.out, if_pos (by omega)]
    subst ht2
    have hb01 := Lib.hid (bnext hb0.out hb1)
    clear hb1
    go_wp2_with fail
    go_ret
    exact R1.mk rfl hb01.out
  · have htk : t = k := by rw [HT.out, if_neg (by omega)]
    subst htk
    have hC2 := Lib.hid (HK.out _ hb1)
    have kx1 := kx.out.next hb1
    have hb01 := Lib.hid (bnext hb0.out hb1)
    have y0 : w1.cell? ⟨q, 0, none⟩ = some (.int .i64 e.kind) := kx1.cell 0
    have y1 : w1.cell? ⟨q, 1, none⟩ = some (.int .i64 e.n) := kx1.cell 1
    have y2 : w1.cell? ⟨q, 2, none⟩ = some (.int .i64 e.w) := kx1.cell 2
    have y3 : w1.cell? ⟨q, 3, none⟩ = some (.slice e.ma e.m.length e.mc) := kx1.cell 3
    have y4 : w1.cell? ⟨q, 4, none⟩ = some (.slice e.ba e.b.length e.bc) := kx1.cell 4
    have y5 : w1.cell? ⟨q, 5, none⟩ = some (.slice e.xa e.x.length e.xc) := kx1.cell 5
    clear hb1 kx1 x0 x1 x2 x3 x4 x5
    go_wp2_with fail
    refine hC2.out.mono ?_
    rintro e' w2 ⟨rfl, hb2⟩
    have hb02 := Lib.hid (bnext hb01.out hb2)
    clear hb2
    go_wp2_with fail
    go_ret
    exact R1.mk rfl hb02.out
end Go.Proofs.YtnicbhmeigpjkaaGreatDoor
