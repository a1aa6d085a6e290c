/- Texts of the proof of HouseAcks, joined (by merge.py). Conditions: each theorem's own hypotheses. -/
import Derived.Test.YtihjgbhnlejhfaaGreatDoorHouseAcksP2
import Derived.Test.YtihjgbhnlejhfaaGreatDoorHouseAcksP20
import Derived.Test.YtihjgbhnlejhfaaGreatDoorHouseAcksP21
import Derived.BigQuiet
import Derived.Shelf.RegionOpenPlain
import Derived.Shelf.Abstract
import Derived.Deep.RegionHeld3
namespace Go.Proofs.YtihjgbhnlejhfaaGreatDoor
open Go.RowKit

theorem rp_cell {W : World} {h k : Nat} {A : Option Addr} {c : Nat} {a b d : Value} (hB : Blk W h 281 (cells4 (.slice A k c) a b d)) (sa : SlB W a [92, 110]) (sb' : SlB W b [92, 34]) (sd : SlB W d [92, 92]) (x : Nat) (hx : x < 256) :
    ∃ v, W.cell? ⟨h, x, none⟩ = some v ∧ ((v = .slice none 0 0 ∧ spc x = 0 ∧ rep1 x = [x]) ∨ (spc x = 1 ∧ ∃ bb cc, v = .slice (some ⟨bb, 0, none⟩) 2 cc ∧ (rep1 x).length = 2 ∧ SlB W (.slice (some ⟨bb, 0, none⟩) 2 cc) (rep1 x))) := by
  refine ⟨_, (hB.cell x).trans (cells4_at _ _ _ _ x hx), ?_⟩
  by_cases h1 : x = 10
  · subst h1
    obtain ⟨bb, cc, cs, fr, e, h2⟩ := sa
    exact .inr ⟨rfl, bb, cc, e, rfl, bb, cc, cs, fr, rfl, h2⟩
  · by_cases h2 : x = 34
    · subst h2
      obtain ⟨bb, cc, cs, fr, e, h2⟩ := sb'
      exact .inr ⟨rfl, bb, cc, e, rfl, bb, cc, cs, fr, rfl, h2⟩
    · by_cases h3 : x = 92
      · subst h3
        obtain ⟨bb, cc, cs, fr, e, h2⟩ := sd
        exact .inr ⟨rfl, bb, cc, e, rfl, bb, cc, cs, fr, rfl, h2⟩
      · refine .inl ⟨?_, ?_, ?_⟩
        · rw [if_neg h1, if_neg h2, if_neg h3]; rfl
        · unfold spc; rw [if_neg h1, if_neg h2, if_neg h3]
        · unfold rep1; rw [if_neg h1, if_neg h2, if_neg h3]
/-- how many of the first k kinds of bytes are in a text -/
def cntK (l : List Nat) (k : Nat) : Nat := ((([10, 34, 92] : List Nat).take k).map (fun x => l.count x)).sum
theorem cntK_3 (l : List Nat) : cntK l 3 = cntS l := by rw [cntS_3]; simp [cntK]; omega
theorem trL_at (k : Nat) (hk : k < 3) : ∃ c : UInt8, (trL 3)[k]? = some ⟨#[c]⟩ ∧ (c.toNat = 10 ∨ c.toNat = 34 ∨ c.toNat = 92) ∧ ∀ l, cntK l (k + 1) = cntK l k + l.count c.toNat := by
  rcases (show k = 0 ∨ k = 1 ∨ k = 2 by omega) with rfl | rfl | rfl
  · exact ⟨10, rfl, .inl rfl, fun l => by simp [cntK]⟩
  · exact ⟨34, rfl, .inr (.inl rfl), fun l => by simp [cntK]⟩
  · exact ⟨92, rfl, .inr (.inr rfl), fun l => by simp [cntK]; omega⟩
theorem strCs_at (l : List ByteArray) (k : Nat) (s : ByteArray) (h : l[k]? = some s) : (strCs l)[k]? = some (.string s) := by
  have e : ∀ l : List ByteArray, strCs l = l.map Value.string := by
    intro l
    unfold strCs
    induction l with
    | nil => rfl
    | cons x l ih => rw [List.flatMap_cons, ih]; rfl
  rw [e, List.getElem?_map, h]; rfl
theorem cntK_le (l : List Nat) (k : Nat) (hk : k ≤ 3) : cntK l k ≤ l.length := by
  have h3 : cntK l 3 ≤ l.length := by rw [cntK_3]; exact cntS_le l
  have : cntK l k ≤ cntK l 3 := by
    rcases (show k = 0 ∨ k = 1 ∨ k = 2 ∨ k = 3 by omega) with rfl | rfl | rfl | rfl <;> simp [cntK] <;> omega
  omega

set_option maxRecDepth 1000000 in
set_option maxHeartbeats 4000000 in
theorem brep_any (h c : Nat) (A : Option Addr) (a b d : Value) (s : ByteArray) (hs : s.size ≤ 4294967296) (w : World) (hB : Blk w h 281 (cells4 (.slice A 3 c) a b d)) (hA : Has w w.heap.size A (strCs (trL 3)))
    (sa : SlB w a [92, 110]) (sb' : SlB w b [92, 34]) (sd : SlB w d [92, 92]) :
    Calls Tryz.prog 246 #[.pointer (some ⟨h, 0, none⟩), .string s] w (R1 (.string (bsOf (repL (sb s)))) (Below w.heap.size w)) := by
  have y1 : w.cell? ⟨h, 256, none⟩ = some (.slice A 3 c) := (hB.cell 256).trans (cells4_256 _ _ _ _)
  have hcell := fun (W : World) (hb : Below w.heap.size w W) x hx => rp_cell (hB.next hb) (sa.next hb) (sb'.next hb) (sd.next hb) x hx
  have hy := fun (W : World) (hb : Below w.heap.size w W) => ((hB.next hb).cell 256).trans (cells4_256 _ _ _ _)
  have Hy := Lib.hid hy
  have Hcell := Lib.hid hcell
  have HA := Lib.hid hA
  obtain ⟨r, hr⟩ : ∃ r, bsOf (repL (sb s)) = r := ⟨_, rfl⟩
  rw [hr]
  have HR := Lib.hid hr
  have hne := fun (w : World) (a : Option Addr) (n c n' c' : Nat) => run_neq_slice_nil_any (P := Tryz.prog) w 76 5 a n c n' c' Tryz.underlying76
  clear hB hA sa sb' sd hr hcell hy
  by_cases hlong : (24 : Int) ≤ (s.size : Int)
  · go_enter Tryz.func246, Tryz.ntmps246
    go_wp2_with fail
    go_loopw [5, 6, 32] (fun nv av iv wr => ∃ k : Nat, k ≤ 3 ∧ iv = .int .i64 (k : Nat) ∧ nv = .int .i64 ((s.size : Int) + (cntK (sb s) k : Int)) ∧ av = .bool (decide (0 < cntK (sb s) k)) ∧ Below w.heap.size w wr) (fun _ _ iv _ => 5 - (intOf iv).toNat)
    case atStart => exact ⟨0, by omega, rfl, congrArg _ (by rw [show cntK (sb s) 0 = 0 from rfl]; omega), rfl, Below.refl _ _⟩
    case round =>
      obtain ⟨k, hk, rfl, rfl, rfl, hbr⟩ := hrel
      have hkc : cntK (sb s) k ≤ s.size := by rw [← sb_len]; exact cntK_le _ _ hk
      by_cases hlt : (k : Int) < 3
      · obtain ⟨x, hx1, hx2, hx3⟩ := trL_at k (by omega)
        obtain ⟨ad, rfl, _, c0⟩ := (HA.out.next hbr).at (strCs_at _ _ _ hx1)
        obtain ⟨v, hv1, hv2⟩ := Hcell.out _ hbr x.toNat (by omega)
        have hv3 : ∃ bb cc, v = .slice (some ⟨bb, 0, none⟩) 2 cc := by
          rcases hv2 with ⟨_, h, _⟩ | ⟨_, bb, cc, h, _⟩
          · exfalso; unfold spc at h; rcases hx2 with e | e | e <;> rw [e] at h <;> simp at h
          · exact ⟨bb, cc, h⟩
        obtain ⟨bb, cc, rfl⟩ := hv3
        have hxe : ((⟨#[x]⟩ : ByteArray)[0]'(show 0 < 1 from by decide)).toNat = x.toNat := rfl
        have hsx : (⟨#[x]⟩ : ByteArray).size = 1 := rfl
        have hct := Tryz.strings_Count_one s x wr
        rw [count_sb] at hct
        have h3 := hx3 (sb s)
        obtain ⟨q, hq⟩ : ∃ q, (sb s).count x.toNat = q := ⟨_, rfl⟩
        have hql : q ≤ s.size := by rw [← sb_len, ← hq]; exact List.count_le_length
        rw [hq] at hct h3
        have H3 := Lib.hid h3
        have HCt := Lib.hid hct
        clear hct h3 hv2 hx3 hq hx1
        go_wp2_with fail
        refine HCt.out.mono ?_
        rintro e1 w1 ⟨rfl, rfl⟩
        by_cases h0 : q = 0
        · subst h0
          go_wp2_with fail
          go_roundw
          case rel => exact ⟨k + 1, by omega, by go_num, by rw [H3.out, Nat.add_zero], by rw [H3.out, Nat.add_zero], hbr⟩
          case measure => simp [intOf]; omega
        · have h0' : ¬ (q : Int) = 0 := by omega
          have h0'' : ((q : Int) == 0) = false := by simp; omega
          go_wp2_with fail
          go_quiet (fail)
          go_wp2_with fail
          go_roundw
          case rel => exact ⟨k + 1, by omega, by go_num, congrArg _ (by rw [H3.out]; omega), by rw [H3.out]; simp; omega, below_drewN hbr _⟩
          case measure => simp [intOf]; omega
      · obtain rfl : k = 3 := by omega
        rw [cntK_3]
        --A
        obtain ⟨q, hq⟩ : ∃ q, cntS (sb s) = q := ⟨_, rfl⟩
        have hql : q ≤ s.size := by rw [← sb_len, ← hq]; exact cntS_le _
        rw [hq]
        have Hq := Lib.hid hq
        clear hq
        by_cases h0 : q = 0
        · subst h0
          have E := Lib.hid (show r = s by rw [← HR.out, repL_none _ Hq.out, bsOf_sb])
          go_wp2_with fail
          go_ret
          rw [E.out]
          exact R1.mk rfl hbr
        · have hpos : 0 < q := by omega
          obtain ⟨N, hN⟩ : ∃ N, s.size + q = N := ⟨_, rfl⟩
          have hN' : (s.size : Int) + (q : Int) = (N : Int) := by omega
          have hNb : N ≤ 8589934592 := by omega
          have HN := Lib.hid hN
          obtain ⟨i0, i1, i2, i3, i4⟩ := info_parts infoU8
          obtain ⟨w2, hrun, hown, hgrow⟩ := run_make_full (P := Tryz.prog) wr w.heap.size 76 5 i0 (.int .u8 0) 1 Tryz.underlying76 i1 i2 i3 .i64 .i64 N (by rw [i4]; omega) (by unfold maxLen; omega) hbr.size
          have hb2 : Below wr.heap.size wr w2 := (Below.refl _ _).grown hgrow (Nat.le_refl _) (fun k e => by cases e)
          have hB2 : RpBuf w2 wr.heap.size N [] := by
            rw [madeCells8] at hown
            rcases hown.2 with ⟨e, _⟩ | ⟨g, cap, cur, e, _, hg, _, _, hc, ht⟩
            · cases e
            · injection e with e1 e2 e3
              injection e1 with e1
              injection e1 with e1
              subst e1 e3
              refine ⟨List.replicate N 0, by simp, ?_, rfl⟩
              rw [List.take_of_length_le (by rw [Array.length_toList]; omega)] at ht
              rw [Blk, hg, ← ht]
          obtain ⟨g, hgs⟩ : ∃ g, wr.heap.size = g := ⟨_, rfl⟩
          have hbg : w.heap.size ≤ g := by rw [← hgs]; exact hbr.size
          have hbel2 := hbr.trans (hb2.mono hbr.size)
          rw [hgs] at hrun hB2
          have HB2 := Lib.hid hB2
          clear hown hgrow hb2 hB2 hgs hbr i1 i2 i3 i4 hN
          go_wp2_with fail
          go_loopw [13, 14] (fun jv iv wx => ∃ i : Nat, i ≤ s.size ∧ iv = .int .i64 (i : Nat) ∧ jv = .int .i64 ((repL ((sb s).take i)).length : Nat) ∧ Hid (RpBuf wx g N (repL ((sb s).take i))) ∧ Below w.heap.size w wx) (fun _ iv _ => s.size + 5 - (intOf iv).toNat)
          case atStart => exact ⟨0, by omega, rfl, rfl, HB2, hbel2⟩
          case round =>
            obtain ⟨i, hi, rfl, rfl, hbuf, hbx⟩ := hrel
            by_cases hlt : (i : Int) < (s.size : Int)
            · have hil : i < s.size := by omega
              have htk := sb_take_succ s i hil
              have hrl : repL ((sb s).take (i + 1)) = repL ((sb s).take i) ++ rep1 s[i].toNat := by rw [htk, repL_app]; simp [repL]
              have hle : (repL ((sb s).take (i + 1))).length ≤ N := by
                have e1 : sb s = (sb s).take (i + 1) ++ (sb s).drop (i + 1) := (List.take_append_drop _ _).symm
                have e2 : (repL (sb s)).length = N := by rw [repL_len, sb_len, Hq.out]; exact HN.out
                rw [e1, repL_app, List.length_append] at e2
                omega
              rw [hrl] at hle
              obtain ⟨x, hx⟩ : ∃ x, s[i].toNat = x := ⟨_, rfl⟩
              have hx256 : x < 256 := by rw [← hx]; exact UInt8.toNat_lt _
              rw [hx] at hle hrl
              obtain ⟨d, hd⟩ : ∃ d, repL ((sb s).take i) = d := ⟨_, rfl⟩
              rw [hd] at hle hrl hbuf ⊢
              have Hrl := Lib.hid hrl
              obtain ⟨v, hv1, hv2⟩ := Hcell.out _ hbx x hx256
              have hi0 : (0 : Int) ≤ (i : Int) := by omega
              have hx0 : (0 : Int) ≤ (x : Int) := by omega
              have hx1 : (x : Int) < 256 := by omega
              rw [List.length_append] at hle
              clear hrl htk hd
              rcases hv2 with ⟨rfl, _, h1⟩ | ⟨_, bb, cc, rfl, hl2, hsl⟩
              · rw [h1] at hle
                have hdl : d.length < N := by rw [List.length_singleton] at hle; omega
                have hdl' : ((d.length : Nat) : Int) < (N : Int) := by omega
                obtain ⟨⟨z, hz⟩, hf⟩ := hbuf.out.cell d.length hdl
                have hput := Lib.hid (hbuf.out.put x hdl)
                have hbp := hbx.setCell hbg (p := ⟨g, d.length, none⟩) (.int .u8 (x : Int))
                have H1 := Lib.hid h1
                clear hbuf h1 hle
                go_wp2_with fail
                go_roundw
                case rel => exact ⟨i + 1, by omega, by go_num, by rw [Hrl.out, H1.out, List.length_append]; go_num, by rw [Hrl.out, H1.out]; exact hput, hbp⟩
                case measure => simp [intOf]; omega
              · have hcp := fun dc ty => RpBuf.copy (g := g) (n := N) (RpBuf.drew hbuf.out) (rep1 x) hle (by rw [hl2]; exact (hsl.next (drawn_below ⟨1, rfl⟩))) dc ty
                have hdN : d.length + 2 ≤ N := by rw [hl2] at hle; exact hle
                have hd1 : ((d.length : Nat) : Int) ≤ (N : Int) := by omega
                have hd0 : (0 : Int) ≤ ((d.length : Nat) : Int) := by omega
                clear hbuf hsl hle
                have mixed : Tryz.prog.follows .mixedOrders = true := by kernel_rfl
                go_wp2_with fail
                obtain ⟨W4, hr4, hb4, hl4⟩ := hcp (N - d.length) 3
                rw [hl2] at hr4
                have HB4 := Lib.hid hb4
                have HL4 := Lib.hid (hl4 w.heap.size w hbg (below_drewN hbx 1))
                clear hb4 hl4
                go_region_law_o (refine step_copy_runK rfl _ _ 76 76 rfl _ _ (by simp [Act.eval]; omega) (by simp [Act.eval]) hr4 ?_)
                go_wp2_with fail
                go_roundw
                case rel => exact ⟨i + 1, by omega, by go_num, by rw [Hrl.out, List.length_append, hl2]; go_num, by rw [Hrl.out]; exact HB4, HL4.out⟩
                case measure => simp [intOf]; omega
            · have hin : i = s.size := by omega
              have hall : (sb s).take i = sb s := List.take_of_length_le (by rw [sb_len]; omega)
              rw [hall] at hbuf ⊢
              have hNl : (repL (sb s)).length = N := by rw [repL_len, sb_len, Hq.out]; exact HN.out
              have hfull := hbuf.out.full hNl
              have hcv := run_convert_bytes_arg (P := Tryz.prog) wr 76 5 Tryz.underlying76 Tryz.underlying5 g 0 N N ((repL (sb s)).map (fun x : Nat => (x : Int))) (by rw [List.length_map]; exact hNl) (fun j hj => by
                rw [Nat.zero_add, hfull.cell j]
                simp [u8s, u8v, List.getD, hNl, hj]) 9 Tryz.underlying9
              have hcv2 : (convert 76 9 (.slice (some ⟨g, 0, none⟩) N N)).run Tryz.prog wr = .ok (.string (bsOf (repL (sb s)))) wr := hcv
              rw [HR.out] at hcv2
              clear hbuf hfull hcv hall hNl Hcell Hy HA hne HB2
              go_wp2_with fail
              go_ret
              exact R1.mk rfl hbx
--/A
  · go_enter Tryz.func246, Tryz.ntmps246
    have hlen0 : ∃ n : Nat, s.size = n := ⟨_, rfl⟩
    have h24 : s.size < 24 := by omega
    go_wp2_with fail
    go_loopw [5, 6, 10] (fun nv av iv wr => ∃ k : Nat, k ≤ s.size ∧ iv = .int .i64 (k : Nat) ∧ nv = .int .i64 ((s.size : Int) + (cntS ((sb s).take k) : Int)) ∧ av = .bool (decide (0 < cntS ((sb s).take k))) ∧ Below w.heap.size w wr) (fun _ _ iv _ => s.size + 5 - (intOf iv).toNat)
    case atStart => exact ⟨0, by omega, rfl, congrArg _ (by rw [show cntS ((sb s).take 0) = 0 from rfl]; omega), rfl, Below.refl _ _⟩
    case round =>
      obtain ⟨k, hk, rfl, rfl, rfl, hbr⟩ := hrel
      have hkc : cntS ((sb s).take k) ≤ s.size := Nat.le_trans (cntS_le _) (by rw [List.length_take, sb_len]; omega)
      by_cases hlt : (k : Int) < (s.size : Int)
      · have hil : k < s.size := by omega
        have htk := sb_take_succ s k hil
        have hc : cntS ((sb s).take (k + 1)) = cntS ((sb s).take k) + spc s[k].toNat := by rw [htk, cntS_app]; rfl
        obtain ⟨x, hx⟩ : ∃ x, s[k].toNat = x := ⟨_, rfl⟩
        have hx256 : x < 256 := by rw [← hx]; exact UInt8.toNat_lt _
        rw [hx] at hc
        obtain ⟨q, hq⟩ : ∃ q, cntS ((sb s).take k) = q := ⟨_, rfl⟩
        rw [hq] at hc hkc ⊢
        obtain ⟨v, hv1, hv2⟩ := Hcell.out _ hbr x hx256
        have hi0 : (0 : Int) ≤ (k : Int) := by omega
        have hx0 : (0 : Int) ≤ (x : Int) := by omega
        have hx1 : (x : Int) < 256 := by omega
        have Hc := Lib.hid hc
        clear hc htk hq
        rcases hv2 with ⟨rfl, h1, _⟩ | ⟨h1, bb, cc, rfl, _, _⟩
        · have H1 := Lib.hid h1
          clear h1
          go_wp2_with fail
          go_roundw
          case rel => exact ⟨k + 1, by omega, by go_num, by rw [Hc.out, H1.out, Nat.add_zero], by rw [Hc.out, H1.out, Nat.add_zero], hbr⟩
          case measure => simp [intOf]; omega
        · have H1 := Lib.hid h1
          clear h1
          go_wp2_with fail
          go_roundw
          case rel => exact ⟨k + 1, by omega, by go_num, congrArg _ (by rw [Hc.out, H1.out]; omega), by rw [Hc.out, H1.out]; simp, hbr⟩
          case measure => simp [intOf]; omega
      · have hks : k = s.size := by omega
        have hall : (sb s).take k = sb s := List.take_of_length_le (by rw [sb_len]; omega)
        rw [hall]
        clear hall hkc
        --B
        obtain ⟨q, hq⟩ : ∃ q, cntS (sb s) = q := ⟨_, rfl⟩
        have hql : q ≤ s.size := by rw [← sb_len, ← hq]; exact cntS_le _
        rw [hq]
        have Hq := Lib.hid hq
        clear hq
        by_cases h0 : q = 0
        · subst h0
          have E := Lib.hid (show r = s by rw [← HR.out, repL_none _ Hq.out, bsOf_sb])
          go_wp2_with fail
          go_ret
          rw [E.out]
          exact R1.mk rfl hbr
        · have hpos : 0 < q := by omega
          obtain ⟨N, hN⟩ : ∃ N, s.size + q = N := ⟨_, rfl⟩
          have hN' : (s.size : Int) + (q : Int) = (N : Int) := by omega
          have hNb : N ≤ 8589934592 := by omega
          have HN := Lib.hid hN
          obtain ⟨i0, i1, i2, i3, i4⟩ := info_parts infoU8
          obtain ⟨w2, hrun, hown, hgrow⟩ := run_make_full (P := Tryz.prog) wr w.heap.size 76 5 i0 (.int .u8 0) 1 Tryz.underlying76 i1 i2 i3 .i64 .i64 N (by rw [i4]; omega) (by unfold maxLen; omega) hbr.size
          have hb2 : Below wr.heap.size wr w2 := (Below.refl _ _).grown hgrow (Nat.le_refl _) (fun k e => by cases e)
          have hB2 : RpBuf w2 wr.heap.size N [] := by
            rw [madeCells8] at hown
            rcases hown.2 with ⟨e, _⟩ | ⟨g, cap, cur, e, _, hg, _, _, hc, ht⟩
            · cases e
            · injection e with e1 e2 e3
              injection e1 with e1
              injection e1 with e1
              subst e1 e3
              refine ⟨List.replicate N 0, by simp, ?_, rfl⟩
              rw [List.take_of_length_le (by rw [Array.length_toList]; omega)] at ht
              rw [Blk, hg, ← ht]
          obtain ⟨g, hgs⟩ : ∃ g, wr.heap.size = g := ⟨_, rfl⟩
          have hbg : w.heap.size ≤ g := by rw [← hgs]; exact hbr.size
          have hbel2 := hbr.trans (hb2.mono hbr.size)
          rw [hgs] at hrun hB2
          have HB2 := Lib.hid hB2
          clear hown hgrow hb2 hB2 hgs hbr i1 i2 i3 i4 hN
          go_wp2_with fail
          go_loopw [13, 14] (fun jv iv wx => ∃ i : Nat, i ≤ s.size ∧ iv = .int .i64 (i : Nat) ∧ jv = .int .i64 ((repL ((sb s).take i)).length : Nat) ∧ Hid (RpBuf wx g N (repL ((sb s).take i))) ∧ Below w.heap.size w wx) (fun _ iv _ => s.size + 5 - (intOf iv).toNat)
          case atStart => exact ⟨0, by omega, rfl, rfl, HB2, hbel2⟩
          case round =>
            obtain ⟨i, hi, rfl, rfl, hbuf, hbx⟩ := hrel
            by_cases hlt : (i : Int) < (s.size : Int)
            · have hil : i < s.size := by omega
              have htk := sb_take_succ s i hil
              have hrl : repL ((sb s).take (i + 1)) = repL ((sb s).take i) ++ rep1 s[i].toNat := by rw [htk, repL_app]; simp [repL]
              have hle : (repL ((sb s).take (i + 1))).length ≤ N := by
                have e1 : sb s = (sb s).take (i + 1) ++ (sb s).drop (i + 1) := (List.take_append_drop _ _).symm
                have e2 : (repL (sb s)).length = N := by rw [repL_len, sb_len, Hq.out]; exact HN.out
                rw [e1, repL_app, List.length_append] at e2
                omega
              rw [hrl] at hle
              obtain ⟨x, hx⟩ : ∃ x, s[i].toNat = x := ⟨_, rfl⟩
              have hx256 : x < 256 := by rw [← hx]; exact UInt8.toNat_lt _
              rw [hx] at hle hrl
              obtain ⟨d, hd⟩ : ∃ d, repL ((sb s).take i) = d := ⟨_, rfl⟩
              rw [hd] at hle hrl hbuf ⊢
              have Hrl := Lib.hid hrl
              obtain ⟨v, hv1, hv2⟩ := Hcell.out _ hbx x hx256
              have hi0 : (0 : Int) ≤ (i : Int) := by omega
              have hx0 : (0 : Int) ≤ (x : Int) := by omega
              have hx1 : (x : Int) < 256 := by omega
              rw [List.length_append] at hle
              clear hrl htk hd
              rcases hv2 with ⟨rfl, _, h1⟩ | ⟨_, bb, cc, rfl, hl2, hsl⟩
              · rw [h1] at hle
                have hdl : d.length < N := by rw [List.length_singleton] at hle; omega
                have hdl' : ((d.length : Nat) : Int) < (N : Int) := by omega
                obtain ⟨⟨z, hz⟩, hf⟩ := hbuf.out.cell d.length hdl
                have hput := Lib.hid (hbuf.out.put x hdl)
                have hbp := hbx.setCell hbg (p := ⟨g, d.length, none⟩) (.int .u8 (x : Int))
                have H1 := Lib.hid h1
                clear hbuf h1 hle
                go_wp2_with fail
                go_roundw
                case rel => exact ⟨i + 1, by omega, by go_num, by rw [Hrl.out, H1.out, List.length_append]; go_num, by rw [Hrl.out, H1.out]; exact hput, hbp⟩
                case measure => simp [intOf]; omega
              · have hcp := fun dc ty => RpBuf.copy (g := g) (n := N) (RpBuf.drew hbuf.out) (rep1 x) hle (by rw [hl2]; exact (hsl.next (drawn_below ⟨1, rfl⟩))) dc ty
                have hdN : d.length + 2 ≤ N := by rw [hl2] at hle; exact hle
                have hd1 : ((d.length : Nat) : Int) ≤ (N : Int) := by omega
                have hd0 : (0 : Int) ≤ ((d.length : Nat) : Int) := by omega
                clear hbuf hsl hle
                have mixed : Tryz.prog.follows .mixedOrders = true := by kernel_rfl
                go_wp2_with fail
                obtain ⟨W4, hr4, hb4, hl4⟩ := hcp (N - d.length) 3
                rw [hl2] at hr4
                have HB4 := Lib.hid hb4
                have HL4 := Lib.hid (hl4 w.heap.size w hbg (below_drewN hbx 1))
                clear hb4 hl4
                go_region_law_o (refine step_copy_runK rfl _ _ 76 76 rfl _ _ (by simp [Act.eval]; omega) (by simp [Act.eval]) hr4 ?_)
                go_wp2_with fail
                go_roundw
                case rel => exact ⟨i + 1, by omega, by go_num, by rw [Hrl.out, List.length_append, hl2]; go_num, by rw [Hrl.out]; exact HB4, HL4.out⟩
                case measure => simp [intOf]; omega
            · have hin : i = s.size := by omega
              have hall : (sb s).take i = sb s := List.take_of_length_le (by rw [sb_len]; omega)
              rw [hall] at hbuf ⊢
              have hNl : (repL (sb s)).length = N := by rw [repL_len, sb_len, Hq.out]; exact HN.out
              have hfull := hbuf.out.full hNl
              have hcv := run_convert_bytes_arg (P := Tryz.prog) wr 76 5 Tryz.underlying76 Tryz.underlying5 g 0 N N ((repL (sb s)).map (fun x : Nat => (x : Int))) (by rw [List.length_map]; exact hNl) (fun j hj => by
                rw [Nat.zero_add, hfull.cell j]
                simp [u8s, u8v, List.getD, hNl, hj]) 9 Tryz.underlying9
              have hcv2 : (convert 76 9 (.slice (some ⟨g, 0, none⟩) N N)).run Tryz.prog wr = .ok (.string (bsOf (repL (sb s)))) wr := hcv
              rw [HR.out] at hcv2
              clear hbuf hfull hcv hall hNl Hcell Hy HA hne HB2
              go_wp2_with fail
              go_ret
              exact R1.mk rfl hbx
--/B
end Go.Proofs.YtihjgbhnlejhfaaGreatDoor
namespace Go.Proofs.YtihjgbhnlejhfaaGreatDoor
open Go.RowKit Go.Shelf

set_option maxRecDepth 1000000 in
set_option maxHeartbeats 4000000 in
theorem rrep_any (w0 w : World) (v : Value) (hb0 : Below w0.heap.size w0 w) (hN : NewRP w0 v w) (s : ByteArray) (hs : s.size ≤ 4294967296) :
    Calls Tryz.prog 116 #[v, .string s] w (R1 (.string (bsOf (repL (sb s)))) (Below w0.heap.size w0)) := by
  obtain ⟨g, o, c, rfl, hg, ho, hne, hB, hown, _⟩ := hN
  have eg : ∀ args w, (callFunc 142 args).run Tryz.prog w = .ok (.enter 142 args) w := enters_of Tryz.func142 (by kernel_rfl) rfl
  have hB1 : Blk (w.setCell ⟨g, 1, none⟩ (.int .i32 1)) g 233 #[.int .u32 0, .int .i32 1, .int .u32 0, .nilIface, .slice (some ⟨o, 0, none⟩) 6 c] := hB.set 1 _
  have hbo := rbuildOnce_any g o c w0 (w.setCell ⟨g, 1, none⟩ (.int .i32 1)) (hb0.setCell hg _) hg ho hB1 (ownsRow_setCell_other hown (a := ⟨g, 1, none⟩) (fun hh => blk_neL hB hown (by decide) hh.symm) _)
  have hgw := hB.lt
  have hsz : (w.setCell ⟨g, 1, none⟩ (.int .i32 1)).heap.size = w.heap.size := by simp [World.setCell]
  rw [hsz] at hbo
  have hD := rp_do g 142 #[.pointer (some ⟨g, 0, none⟩)] (RpMid w0 g (w.heap.size + 1) (.int .u32 0) (.int .i32 1)) w (hB.cell 0) (hB.cell 1) (hB.frozen 1) hbo (eg _) (fun w' hm => ⟨hm.1.cell 0, hm.1.cell 1, hm.1.frozen 0, hm.1.frozen 1⟩)
  have HD := Lib.hid hD
  have hmf : ∀ w : World, (Instr.makeFunc (.func 142) #[.pointer (some ⟨g, 0, none⟩)] #[]).run Tryz.prog w = .ok (.func (.func 142) #[.pointer (some ⟨g, 0, none⟩)] #[]) w := fun _ => by kernel_rfl
  have hgh : g ≠ w.heap.size + 1 := by omega
  have hme : ∀ (a : Addr) (w : World), (method 287 282 (.pointer (some a)) "Replace").run Tryz.prog w = .ok (246, .pointer (some a)) w := fun _ _ => by kernel_rfl
  clear hB hown hB1 hbo hD
  go_enter Tryz.func116, Tryz.ntmps116
  go_wp2_with fail
  refine HD.out.mono ?_
  rintro e w2 ⟨rfl, w1, hm, rfl⟩
  have hm2 : RpMid w0 g (w.heap.size + 1) (.int .u32 1) (.int .i32 0) ((w1.drew.setCell ⟨g, 0, none⟩ (.int .u32 1)).setCell ⟨g, 1, none⟩ (.int .i32 0)) :=
    (hm.drew.set hg hgh 0 (.int .u32 1) (u' := .int .u32 1) (v' := .int .i32 1) rfl).set hg hgh 1 (.int .i32 0) rfl
  obtain ⟨W2, hW2⟩ : ∃ W2, (w1.drew.setCell ⟨g, 0, none⟩ (.int .u32 1)).setCell ⟨g, 1, none⟩ (.int .i32 0) = W2 := ⟨_, rfl⟩
  rw [hW2] at hm2 ⊢
  clear hm hW2
  obtain ⟨hB2, A, c2, a, b, d, h1, h2, h3, h4, h5, h6⟩ := hm2
  have y3 : W2.cell? ⟨g, 3, none⟩ = some (.iface 282 (.pointer (some ⟨w.heap.size + 1, 0, none⟩))) := hB2.cell 3
  have hHas : Has W2 W2.heap.size A (strCs (trL 3)) := Has.of_own h2
  have HR := Lib.hid (brep_any (w.heap.size + 1) c2 A a b d s hs W2 h1 hHas h3 h4 h5)
  have H6 := Lib.hid h6
  clear h1 h2 h3 h4 h5 h6 hHas
  go_wp2_with fail
  refine HR.out.mono ?_
  rintro e w3 ⟨rfl, hb3⟩
  go_wp2_with fail
  go_ret
  exact R1.mk rfl (H6.out.trans (hb3.mono H6.out.size))
end Go.Proofs.YtihjgbhnlejhfaaGreatDoor
namespace Go.Proofs.YtihjgbhnlejhfaaGreatDoor
open Go.RowKit

def quoB (s : ByteArray) : ByteArray := (⟨#[34]⟩ : ByteArray) ++ bsOf (repL (sb s)) ++ (⟨#[34]⟩ : ByteArray)
theorem bsOf_size (l : List Nat) : (bsOf l).size = l.length := by
  unfold bsOf strOfNums ByteArray.size
  simp
theorem quoB_size (s : ByteArray) : (quoB s).size ≤ 2 * s.size + 2 := by
  unfold quoB
  rw [ByteArray.size_append, ByteArray.size_append, bsOf_size, repL_len]
  have := cntS_le (sb s)
  rw [sb_len] at this ⊢
  show 1 + (s.size + cntS (sb s)) + 1 ≤ _
  omega
set_option maxRecDepth 1000000 in
set_option maxHeartbeats 4000000 in
theorem lquoted_any (s : ByteArray) (hs : s.size ≤ 4294967296) (w : World) : Calls Tryz.prog 96 #[.string s] w (R1 (.string (quoB s)) (Below w.heap.size w)) := by
  have hw : ∃ W1, w.alloc (.cells #[.string ⟨#[92]⟩, .string ⟨#[92, 92]⟩, .string ⟨#[34]⟩, .string ⟨#[92, 34]⟩, .string ⟨#[10]⟩, .string ⟨#[92, 110]⟩] 9) = W1 := ⟨_, rfl⟩
  obtain ⟨W1, hW1⟩ := hw
  have hB : Blk W1 w.heap.size 9 #[.string ⟨#[92]⟩, .string ⟨#[92, 92]⟩, .string ⟨#[34]⟩, .string ⟨#[92, 34]⟩, .string ⟨#[10]⟩, .string ⟨#[92, 110]⟩] := by rw [← hW1]; exact Blk.new _ _ _
  have hb1 : Below w.heap.size w W1 := by rw [← hW1]; exact one_allocP _ _
  have hHas : Has W1 W1.heap.size (some ⟨w.heap.size, 0, none⟩) (strCs rpPairs) := fun _ => by
    refine ⟨_, rfl, hB.lt, fun j u hu => ?_⟩
    rw [show (⟨w.heap.size, 0, none⟩ : Addr).add j = ⟨w.heap.size, j, none⟩ from by unfold Addr.add; split <;> simp_all, hB.cell j]
    rw [← Array.getElem?_toList]
    exact hu
  have HN := Lib.hid (newReplacer_any (some ⟨w.heap.size, 0, none⟩) 6 W1 hHas)
  have HW := Lib.hid hW1
  clear hW1 hB hHas
  go_enter Tryz.func96, Tryz.ntmps96
  go_wp2_with fail
  rw [HW.out]
  refine HN.out.mono ?_
  rintro e w2 ⟨v, rfl, hN⟩
  have hb2 : Below W1.heap.size W1 w2 := by
    obtain ⟨g, o, c, _, _, _, _, _, _, h⟩ := hN
    exact h
  have hRR := rrep_any W1 w2 v hb2 hN s hs
  have hq := quoB_size s
  unfold quoB at hq
  obtain ⟨R, hR⟩ : ∃ R, bsOf (repL (sb s)) = R := ⟨_, rfl⟩
  rw [hR] at hRR hq
  have HQ := Lib.hid hR
  rw [ByteArray.size_append, ByteArray.size_append] at hq
  have hq2 : R.size ≤ 9000000000 := by omega
  have HR := Lib.hid hRR
  clear hq hR hRR
  clear hN
  go_wp2_with fail
  refine HR.out.mono ?_
  rintro e w3 ⟨rfl, hb3⟩
  go_wp2_with fail
  go_ret
  exact R1.mk (by rw [quoB, HQ.out]; rfl) (bnext hb1 hb3)
end Go.Proofs.YtihjgbhnlejhfaaGreatDoor
namespace Go.Proofs.YtihjgbhnlejhfaaGreatDoor
open Go.RowKit

/-- what stands between a name and a value -/
def sgB : Nat → ByteArray
  | 1 => ⟨#[61]⟩
  | 2 => ⟨#[33, 61]⟩
  | 3 => ⟨#[61, 94]⟩
  | 4 => ⟨#[61, 126]⟩
  | _ => ⟨#[]⟩
def SgAt (w : World) : Prop := 0 < w.heap.size ∧ ∀ k, k < 5 → w.cell? ⟨0, k, none⟩ = some (.string (sgB k))
theorem SgAt.next {w w' : World} (h : SgAt w) (hb : Below w.heap.size w w') : SgAt w' := ⟨Nat.lt_of_lt_of_le h.1 hb.size, fun k hk => (hb.cell (p := ⟨0, k, none⟩) h.1).trans (h.2 k hk)⟩
def mtT (x : Mt) : ByteArray := x.nm ++ sgB x.k.toNat ++ quoB x.v
def txtB (L : List Mt) : ByteArray := (⟨#[123]⟩ : ByteArray) ++ (⟨(Lib.join ((L.map mtT).map (·.data.toList)) [44]).toArray⟩ : ByteArray) ++ (⟨#[125]⟩ : ByteArray)
/-- matches that CheckMatch lets by are of this size -/
def MtS (x : Mt) : Prop := 1 ≤ x.k ∧ x.k ≤ 4 ∧ x.nm.size ≤ 20 ∧ x.v.size ≤ 40
theorem mtT_size {x : Mt} (h : MtS x) : (mtT x).size ≤ 104 := by
  unfold mtT
  rw [ByteArray.size_append, ByteArray.size_append]
  have h1 := quoB_size x.v
  have h2 : (sgB x.k.toNat).size ≤ 2 := by
    unfold sgB
    split <;> decide
  obtain ⟨_, _, h3, h4⟩ := h
  omega
theorem joinTail_len : ∀ l : List (List UInt8), (∀ x ∈ l, x.length ≤ 104) → (Lib.joinTail [44] l).length ≤ l.length * 105
  | [], _ => Nat.le_refl _
  | x :: l, h => by
    have ih := joinTail_len l (fun y hy => h y (by simp [hy]))
    have hx := h x (by simp)
    have e : Lib.joinTail [44] (x :: l) = (44 :: x) ++ Lib.joinTail [44] l := by simp [Lib.joinTail]
    rw [e, List.length_append, List.length_cons, List.length_cons]
    omega
theorem joinT_len (L : List Mt) (h : ∀ x ∈ L, MtS x) : (Lib.join ((L.map mtT).map (·.data.toList)) [44]).length ≤ L.length * 105 := by
  cases L with
  | nil => exact Nat.le_refl _
  | cons x l =>
    rw [List.map_cons, List.map_cons, Lib.join_cons, List.length_append, List.length_cons]
    have h1 := joinTail_len ((l.map mtT).map (·.data.toList)) (fun y hy => by
      rw [List.map_map] at hy
      obtain ⟨z, hz, rfl⟩ := List.mem_map.1 hy
      have := mtT_size (h z (by simp [hz]))
      simp only [Function.comp, Array.length_toList]
      exact this)
    rw [List.length_map, List.length_map] at h1
    have h2 : (mtT x).data.toList.length ≤ 104 := by rw [Array.length_toList]; exact mtT_size (h x (by simp))
    omega
theorem keepT {w : World} {g s q : Nat} {t : TypeId} {a b c z : Value} (h : Blk w g t #[a, b, c]) (hs : w.cell? ⟨s, q, none⟩ = some z) : w.cell? ⟨g, 0, none⟩ = some a ∧ w.cell? ⟨g, 1, none⟩ = some b ∧ w.cell? ⟨g, 2, none⟩ = some c ∧ w.cell? ⟨s, q, none⟩ = some z := ⟨h.cell 0, h.cell 1, h.cell 2, hs⟩
theorem strCs_app1T (l : List ByteArray) (x : ByteArray) : strCs (l ++ [x]) = strCs l ++ (#[Value.string x] : Array Value).toList := by simp [strCs, strC]

set_option maxRecDepth 1000000 in
set_option maxHeartbeats 4000000 in
theorem ltext_any (A : Option Addr) (n c : Nat) (L : List Mt) (hn : L.length = n) (hl : n ≤ 10) (w : World) (h : Has w w.heap.size A (mtCs L)) (hL : ∀ e ∈ L, MtS e) (tS : SgAt w) :
    Calls Tryz.prog 70 #[.slice A n c] w (R1 (.string (txtB L)) (Below w.heap.size w)) := by
  have Hn := Lib.hid hn
  have HL := Lib.hid hL
  have Hh := Lib.hid h
  have HS := Lib.hid tS
  obtain ⟨r, hr⟩ : ∃ r, txtB L = r := ⟨_, rfl⟩
  rw [hr]
  have HR := Lib.hid hr
  clear hL h hn tS hr
  have mixed : Tryz.prog.follows .mixedOrders = true := by kernel_rfl
  go_enter Tryz.func70, Tryz.ntmps70
  go_wp2_with fail
  go_loopw [3, 8] (fun ov iv wr => ∃ (k : Nat) (B : Option Addr) (d : Nat), k ≤ n ∧ iv = .int .i64 (k : Nat) ∧ ov = .slice B k d ∧ wr.ownsRow w.heap.size 9 1 (.slice B k d) k (strCs ((L.take k).map mtT)) ∧ Below w.heap.size w wr) (fun _ iv _ => n + 5 - (intOf iv).toNat)
  case atStart => exact ⟨0, none, 0, by omega, rfl, rfl, World.ownsRow_nil _ _ _ _, Below.refl _ _⟩
  case round =>
    obtain ⟨k, B, d, hk, rfl, rfl, hown, hbr⟩ := hrel
    have hbs := hbr.size
    by_cases hlt : (k : Int) < (n : Int)
    · have hkL : k < L.length := by rw [Hn.out]; omega
      obtain ⟨ad, rfl, _, c0⟩ := (Hh.out.next hbr).at (mtCs_0 hkL)
      obtain ⟨ad', e', _, c1⟩ := (Hh.out.next hbr).at (mtCs_1 hkL)
      injection e' with e'
      subst e'
      obtain ⟨ad', e', _, c2⟩ := (Hh.out.next hbr).at (mtCs_2 hkL)
      injection e' with e'
      subst e'
      have c1 := cell_off c1 (by decide)
      have c2 := cell_off c2 (by decide)
      have hms := HL.out _ (at_mem hkL)
      have htk := take_at (l := L) (k := k) hkL
      obtain ⟨x, hx⟩ : ∃ x, at_ L k = x := ⟨_, rfl⟩
      rw [hx] at c0 c1 c2 hms htk
      have hsz := mtT_size hms
      have hqs := quoB_size x.v
      obtain ⟨q, nm, v⟩ := x
      unfold mtT at hsz
      obtain ⟨m1, m2, m3, m4⟩ := hms
      simp only [] at c0 c1 c2 m1 m2 m3 m4 hqs hsz
      obtain ⟨qn, hqn⟩ : ∃ qn : Nat, q = (qn : Int) := ⟨q.toNat, by omega⟩
      subst hqn
      obtain ⟨W1, hW1⟩ : ∃ W1, wr.alloc (.cells #[.int .i64 (qn : Int), .string nm, .string v] 157) = W1 := ⟨_, rfl⟩
      obtain ⟨g, hgs⟩ : ∃ g, wr.heap.size = g := ⟨_, rfl⟩
      have hk1 : Blk W1 g 157 #[.int .i64 (qn : Int), .string nm, .string v] := by rw [← hW1, ← hgs]; exact Blk.new _ _ _
      have hb1 : Below wr.heap.size wr W1 := by rw [← hW1]; exact one_allocP _ _
      have hb01 := bnext hbr hb1
      have hown1 := own_next hown hb1
      have sg := (HS.out.next hb01)
      have y0 : W1.cell? ⟨g, 0, none⟩ = some (.int .i64 (qn : Int)) := hk1.cell 0
      have y1 : W1.cell? ⟨g, 1, none⟩ = some (.string nm) := hk1.cell 1
      have y2 : W1.cell? ⟨g, 2, none⟩ = some (.string v) := hk1.cell 2
      have y3 := sg.2 qn (by omega)
      have hgl := hk1.lt
      have hsl := sg.1
      have HW := Lib.hid hW1
      have HG := Lib.hid hgs
      have HQ := fun w => Lib.hid (lquoted_any v (by omega) w)
      have Hown := Lib.hid hown1
      have hsw : 0 < w.heap.size := HS.out.1
      have hneG : some g ≠ (Value.slice B k d).ownBlock := fun h => by have h2 := (own_blockM hown g h.symm).2; omega
      have HK1 := hk1
      clear hW1 hgs hown hown1 hb1 sg hk1
      obtain ⟨sg, hsg⟩ : ∃ sg, sgB qn = sg := ⟨_, rfl⟩
      obtain ⟨qv, hqv⟩ : ∃ qv, quoB v = qv := ⟨_, rfl⟩
      have hz1 : (nm ++ sg ++ qv).size ≤ 104 := by rw [← hsg, ← hqv]; exact hsz
      rw [ByteArray.size_append, ByteArray.size_append] at hz1
      rw [hsg] at y3
      rw [hqv] at HQ
      have Htk := Lib.hid htk
      have Hsg := Lib.hid hsg
      have Hqv := Lib.hid hqv
      have b1 : (0 : Int) ≤ (qn : Int) := by omega
      have b2 : (qn : Int) < 5 := by omega
      have b3 : ¬ 9223372036854775807 < nm.size + sg.size := by omega
      have b4 : ¬ 9223372036854775807 < (nm ++ sg).size + qv.size := by rw [ByteArray.size_append]; omega
      have b5 : ¬ 9223372036854775807 < nm.size + sg.size + qv.size := by omega
      clear hsg hqv hsz hqs htk
      go_wp2_with fail
      rw [HW.out, HG.out]
      go_wp2_with fail
      go_region_held3 (fun w' => w'.cell? ⟨g, 0, none⟩ = some (.int .i64 (qn : Int)) ∧ w'.cell? ⟨g, 1, none⟩ = some (.string nm) ∧ w'.cell? ⟨g, 2, none⟩ = some (.string v) ∧ w'.cell? ⟨0, qn, none⟩ = some (.string sg))
        (first | exact keepT HK1 y3 | exact keepT hk8 s8 | exact keepT (Blk.alloc hk8 _) ((World.cell?_alloc_lt _ _ ⟨0, qn, none⟩ hl8).trans s8) | exact keepT hk9 s9)
        (first
          | (go_at_call 96
             refine ((HQ _).out).mono ?_
             rintro e9 w8 ⟨rfl, hb8⟩
             have hk8 : Blk w8 g 157 #[.int .i64 (qn : Int), .string nm, .string v] := Blk.next (by exact HK1) hb8
             have s8 : w8.cell? ⟨0, qn, none⟩ = some (.string sg) := (hb8.cell (p := ⟨0, qn, none⟩) (by exact hsl)).trans (by exact y3)
             have hl8 : 0 < w8.heap.size := Nat.lt_of_lt_of_le (by exact hsl) hb8.size
             have hown8 : w8.ownsRow w.heap.size 9 1 (.slice B k d) k (strCs ((L.take k).map mtT)) := own_next (by exact Hown.out) hb8
             have hbel8 : Below w.heap.size w w8 := bnext (below_drewN hb01 1) hb8)
          | (refine step_append1 rfl _ _ _ (by rfl) elStrL (by exact World.ownsRow.alloc hown8 _) (by rfl) (by rfl) (by exact heap_alloc_new _ _) (by rfl) (by intro u hu; simp at hu; subst hu; rfl) (by omega) (by unfold maxLen; omega) (by exact Nat.le_trans hbel8.size (one_allocP _ _).size) ?_
             intro B9 d9 w9 hown9 hgrow9 hbel9
             have hk9 : Blk w9 g 157 #[.int .i64 (qn : Int), .string nm, .string v] := Blk.grown (by exact Blk.alloc hk8 _) hgrow9 hneG
             have s9 : w9.cell? ⟨0, qn, none⟩ = some (.string sg) := (hbel9.cell (p := ⟨0, qn, none⟩) (by exact hsw)).trans ((World.cell?_alloc_lt _ _ ⟨0, qn, none⟩ (by exact hl8)).trans (by exact s8))))
      have hbel09 : Below w.heap.size w w9 := (hbel8.alloc hbel8.size _).trans hbel9
      have hrow : strCs ((L.take (k + 1)).map mtT) = strCs ((L.take k).map mtT) ++ (#[Value.string (nm ++ sg ++ qv)] : Array Value).toList := by
        rw [Htk.out, List.map_append, List.map_cons, List.map_nil, strCs_app1T]
        rw [show mtT ⟨(qn : Int), nm, v⟩ = nm ++ sg ++ qv from by unfold mtT; rw [Int.toNat_natCast, Hsg.out, Hqv.out]]
      have Hrow := Lib.hid hrow
      have Hown9 := Lib.hid hown9
      clear hrow hown9 hgrow9 hbel9 hk9 s9
      go_wp2_with fail
      go_roundw
      case rel => exact ⟨k + 1, B9, d9, by omega, by go_num, rfl, by rw [Hrow.out]; exact Hown9.out, hbel09⟩
      case measure => simp [intOf]; omega
    · have hkn : k = n := by omega
      subst hkn
      rw [List.take_of_length_le (by rw [Hn.out]; omega)] at hown
      have hjl := joinT_len L (fun x hx => HL.out x hx)
      rw [Hn.out] at hjl
      obtain ⟨J, hJ⟩ : ∃ J, (⟨(Lib.join ((L.map mtT).map (·.data.toList)) [44]).toArray⟩ : ByteArray) = J := ⟨_, rfl⟩
      have hJs : J.size ≤ 1100 := by rw [← hJ]; show (Lib.join ((L.map mtT).map (·.data.toList)) [44]).toArray.size ≤ 1100; rw [List.size_toArray]; omega
      have hE : r = (⟨#[123]⟩ : ByteArray) ++ J ++ (⟨#[125]⟩ : ByteArray) := by rw [← HR.out, txtB, hJ]
      have hcall : Calls Tryz.prog 97 #[.slice B k d, .string ⟨#[44]⟩] wr (R1 (.string J) (Below wr.heap.size wr)) := by
        rcases Nat.eq_zero_or_pos k with h0 | h0
        · subst h0
          have hL0 : L = [] := List.length_eq_zero_iff.1 Hn.out
          have hJ0 : J = ⟨#[]⟩ := by rw [← hJ, hL0]; rfl
          rw [hJ0]
          refine (Tryz.strings_Join_none B d ⟨#[44]⟩ wr).mono ?_
          rintro e w' ⟨rfl, rfl⟩
          exact R1.mk rfl (Below.refl _ _)
        · obtain ⟨bk, cap, ev, _, hbk⟩ := hown.form h0
          injection ev with e1 _ e3
          subst e1 e3
          have hLl : (L.map mtT).length = k := by rw [List.length_map, Hn.out]
          have hcap : k ≤ d := by
            rcases hown.2 with ⟨e, _⟩ | ⟨g, cap, cur, e, _, _, h1, _⟩
            · cases e
            · injection e with _ _ e3; omega
          have hh := Tryz.strings_Join bk 0 d (L.map mtT) ⟨#[44]⟩ wr (fun j x hx => by
            rw [Nat.zero_add]
            have := Has.of_own hown
            obtain ⟨ad, e, _, h2⟩ := this.at (strCs_at _ _ _ hx)
            injection e with e
            subst e
            rw [show (⟨bk, 0, none⟩ : Addr).add j = ⟨bk, j, none⟩ from by unfold Addr.add; split <;> simp_all] at h2
            exact h2) hbk (by rw [hLl]; omega) (by rw [hLl]; exact hcap) (by
            have e : (⟨#[44]⟩ : ByteArray).data.toList = [44] := rfl
            rw [e]; omega)
          rw [hLl] at hh
          refine hh.mono ?_
          rintro e w' ⟨rfl, hb⟩
          exact R1.mk (congrArg Value.string hJ) hb
      have HJ := Lib.hid hcall
      have HE := Lib.hid hE
      clear hcall hE hJ hjl hown HR HL Hh HS
      go_wp2_with fail
      refine HJ.out.mono ?_
      rintro e w2 ⟨rfl, hb2⟩
      go_wp2_with fail
      go_ret
      rw [HE.out]
      exact R1.mk rfl (bnext hbr hb2)
end Go.Proofs.YtihjgbhnlejhfaaGreatDoor
namespace Go.Proofs.YtihjgbhnlejhfaaGreatDoor
open Go.RowKit

theorem elMtT : Elem Tryz.prog 122 157 3 40 := Elem.mk' (z := .agg #[.int .i64 0, .string ⟨#[]⟩, .string ⟨#[]⟩]) Tryz.underlying122 (by kernel_rfl) rfl (by decide)
theorem mtCs_app1T (l : List Mt) (x : Mt) : mtCs (l ++ [x]) = mtCs l ++ (#[.int .i64 x.k, .string x.nm, .string x.v] : Array Value).toList := by simp [mtCs, mtC]
/-- a label as a match -/
def asM (x : Lab) : Mt := ⟨1, x.nm, x.v⟩
def MtsP (w : World) (M : List Mt) (v : Value) (w' : World) : Prop :=
  ∃ A c, v = .slice A M.length c ∧ w'.ownsRow w.heap.size 157 3 (.slice A M.length c) M.length (mtCs M) ∧ Below w.heap.size w w'

set_option maxRecDepth 1000000 in
set_option maxHeartbeats 4000000 in
theorem lmatches_any (A : Option Addr) (n c : Nat) (L : List Lab) (hn : L.length = n) (hl : n ≤ 1000000) (w : World) (h : Has w w.heap.size A (labCs L)) :
    Calls Tryz.prog 71 #[.slice A n c] w (RV (MtsP w (L.map asM))) := by
  have Hn := Lib.hid hn
  have Hh := Lib.hid h
  clear h hn
  go_enter Tryz.func71, Tryz.ntmps71
  go_wp2_with fail
  go_loopw [3, 8] (fun ov iv wr => ∃ (k : Nat) (B : Option Addr) (d : Nat), k ≤ n ∧ iv = .int .i64 (k : Nat) ∧ ov = .slice B k d ∧ wr.ownsRow w.heap.size 157 3 (.slice B k d) k (mtCs ((L.take k).map asM)) ∧ Below w.heap.size w wr) (fun _ iv _ => n + 5 - (intOf iv).toNat)
  case atStart => exact ⟨0, none, 0, by omega, rfl, rfl, World.ownsRow_nil _ _ _ _, Below.refl _ _⟩
  case round =>
    obtain ⟨k, B, d, hk, rfl, rfl, hown, hbr⟩ := hrel
    have hbs := hbr.size
    by_cases hlt : (k : Int) < (n : Int)
    · have hkL : k < L.length := by rw [Hn.out]; omega
      obtain ⟨ad, rfl, _, c0⟩ := (Hh.out.next hbr).at (labCs_0 hkL)
      obtain ⟨ad', e', _, c1⟩ := (Hh.out.next hbr).at (labCs_1 hkL)
      injection e' with e'
      subst e'
      have c1 := cell_off c1 (by decide)
      have htk := take_at (l := L) (k := k) hkL
      obtain ⟨x, hx⟩ : ∃ x, at_ L k = x := ⟨_, rfl⟩
      rw [hx] at c0 c1 htk
      obtain ⟨nm, v⟩ := x
      simp only [] at c0 c1
      have Htk := Lib.hid htk
      have hrow : mtCs ((L.take (k + 1)).map asM) = mtCs ((L.take k).map asM) ++ (#[.int .i64 1, .string nm, .string v] : Array Value).toList := by
        rw [Htk.out, List.map_append, List.map_cons, List.map_nil, mtCs_app1T]; rfl
      have Hrow := Lib.hid hrow
      have hb2 := (hbr.alloc hbs (.cells #[.string nm, .string v] 85))
      clear htk hrow
      go_wp2_with (at_builtin; refine wpList_append1 rfl _ _ _ rfl elMtT (v := .slice B k d) rfl (hown.alloc _) (g := wr.heap.size + 1) rfl (by simp) rfl ?_ ?c1 ?c2 ?c3 ?c4; intro B9 d9 w9 hown9 hgrow9 hbel9)
      case c1 => first | (intro u hu; simp at hu; rcases hu with rfl | rfl | rfl <;> rfl) | exact ⟨rfl, rfl, rfl⟩ | rfl
      case c2 => omega
      case c3 => unfold maxLen; omega
      case c4 => omega
      have hbel09 : Below w.heap.size w w9 := hb2.trans hbel9
      have Hown9 := Lib.hid hown9
      clear hown9 hgrow9 hbel9
      go_roundw
      case rel => exact ⟨k + 1, B9, d9, by omega, by go_num, rfl, by rw [Hrow.out]; exact Hown9.out, hbel09⟩
      case measure => simp [intOf]; omega
    · have hkn : k = n := by omega
      subst hkn
      rw [List.take_of_length_le (by rw [Hn.out]; omega)] at hown
      have Hown := Lib.hid hown
      clear hown Hh
      go_wp2_with fail
      go_ret
      refine RV.mk ⟨B, d, ?_, ?_, hbr⟩
      · rw [List.length_map, Hn.out]; rfl
      · rw [List.length_map, Hn.out]; exact Hown.out

/-- what Text tells -/
def textN (L : List Lab) : ByteArray × Int := if chkL L ≠ 0 then (⟨#[]⟩, chkL L) else (txtB (L.map asM), 0)
def mtextN (L : List Mt) : ByteArray × Int := if chkM L ≠ 0 then (⟨#[]⟩, chkM L) else (txtB L, 0)
theorem mtS_of {L : List Mt} (h : chkM L = 0) : L.length ≤ 10 ∧ ∀ x ∈ L, MtS x := by
  obtain ⟨h1, h2⟩ := chkM_iff.1 h
  refine ⟨h1, fun x hx => ?_⟩
  have := h2 x hx
  unfold mtErr at this
  split at this
  · cases this
  · split at this
    · cases this
    · split at this
      · cases this
      · rename_i a b c
        have hn : nameOk x.nm = true := by simpa using b
        exact ⟨by omega, by omega, nameOk_le hn, by omega⟩
theorem labS_of {L : List Lab} (h : chkL L = 0) : L.length ≤ 10 ∧ ∀ x ∈ L.map asM, MtS x := by
  obtain ⟨h1, h2, _⟩ := chkL_iff.1 h
  refine ⟨h1, fun x hx => ?_⟩
  obtain ⟨y, hy, rfl⟩ := List.mem_map.1 hx
  obtain ⟨h3, h4⟩ := h2 y hy
  exact ⟨Int.le_refl 1, show (1 : Int) ≤ 4 by decide, nameOk_le h3, h4⟩
set_option maxRecDepth 1000000 in
set_option maxHeartbeats 4000000 in
theorem lmtext_any (A : Option Addr) (n c : Nat) (L : List Mt) (hn : L.length = n) (hl : n ≤ maxLen) (w : World) (h : Has w w.heap.size A (mtCs L)) (hL : ∀ e ∈ L, MtOk e) (tS : SgAt w) :
    Calls Tryz.prog 157 #[.slice A n c] w (R1 (.tuple #[.string (mtextN L).1, .int .i64 (mtextN L).2]) (Below w.heap.size w)) := by
  have HC := Lib.hid (mcheck_any A n c L hn hl w h hL)
  obtain ⟨r, hr⟩ : ∃ r, chkM L = r := ⟨_, rfl⟩
  rw [hr] at HC
  have HT := fun (hz : r = 0) (w1 : World) (hb : Below w.heap.size w w1) => Lib.hid (ltext_any A n c L hn (by have := (mtS_of (hr.trans hz)).1; omega) w1 (h.next hb) (mtS_of (hr.trans hz)).2 (tS.next hb))
  have HE := Lib.hid (show mtextN L = if r ≠ 0 then (⟨#[]⟩, r) else (txtB L, 0) by unfold mtextN; rw [hr])
  clear h hL hr tS hn
  go_enter Tryz.func157, Tryz.ntmps157
  go_wp2_with fail
  refine HC.out.mono ?_
  rintro e w1 ⟨rfl, hb1⟩
  by_cases h0 : r = 0
  · have HT2 := HT h0 w1 hb1
    clear HT
    have E := Lib.hid (show mtextN L = (txtB L, 0) by rw [HE.out, if_neg (by simpa using h0)])
    subst h0
    clear HE
    go_wp2_with fail
    refine HT2.out.mono ?_
    rintro e w2 ⟨rfl, hb2⟩
    go_wp2_with fail
    go_ret2
    rw [E.out]
    exact R1.mk rfl (bnext hb1 hb2)
  · have E := Lib.hid (show mtextN L = (⟨#[]⟩, r) by rw [HE.out, if_pos h0])
    clear HE HT
    have h0' : (r == 0) = false := by simpa using h0
    go_wp2_with fail
    go_ret2
    rw [E.out]
    exact R1.mk rfl hb1
set_option maxRecDepth 1000000 in
set_option maxHeartbeats 4000000 in
theorem lbtext_any (A : Option Addr) (n c : Nat) (L : List Lab) (hn : L.length = n) (hl : n ≤ maxLen) (w : World) (h : Has w w.heap.size A (labCs L)) (hL : ∀ e ∈ L, LabOk e) (tS : SgAt w) :
    Calls Tryz.prog 38 #[.slice A n c] w (R1 (.tuple #[.string (textN L).1, .int .i64 (textN L).2]) (Below w.heap.size w)) := by
  have HC := Lib.hid (lcheck_any A n c L hn hl w h hL)
  obtain ⟨r, hr⟩ : ∃ r, chkL L = r := ⟨_, rfl⟩
  rw [hr] at HC
  obtain ⟨M, hM⟩ : ∃ M, L.map asM = M := ⟨_, rfl⟩
  have hMl : M.length = L.length := by rw [← hM, List.length_map]
  have HM := fun (hz : r = 0) (w1 : World) (hb : Below w.heap.size w w1) => Lib.hid (lmatches_any A n c L hn (by have := (labS_of (hr.trans hz)).1; omega) w1 (h.next hb))
  rw [hM] at HM
  have HL2 : ∀ hz : r = 0, L.length ≤ 10 ∧ ∀ x ∈ M, MtS x := fun hz => by rw [← hM]; exact labS_of (hr.trans hz)
  have HE := Lib.hid (show textN L = if r ≠ 0 then (⟨#[]⟩, r) else (txtB M, 0) by unfold textN; rw [hr, hM])
  have HS := Lib.hid tS
  clear h hL hr tS hn hM
  go_enter Tryz.func38, Tryz.ntmps38
  go_wp2_with fail
  refine HC.out.mono ?_
  rintro e w1 ⟨rfl, hb1⟩
  by_cases h0 : r = 0
  · have HM2 := HM h0 w1 hb1
    clear HM
    obtain ⟨l1, l2⟩ := HL2 h0
    have L2 := Lib.hid l2
    have E := Lib.hid (show textN L = (txtB M, 0) by rw [HE.out, if_neg (by simpa using h0)])
    subst h0
    clear HE HL2 l2
    go_wp2_with fail
    refine HM2.out.mono ?_
    rintro e w2 ⟨v, rfl, A2, c2, rfl, hown2, hb2⟩
    have HT := Lib.hid (ltext_any A2 M.length c2 M rfl (by rw [hMl]; exact l1) w2 (Has.of_own hown2) L2.out (HS.out.next (bnext hb1 hb2)))
    clear hown2 hMl
    go_wp2_with fail
    refine HT.out.mono ?_
    rintro e w3 ⟨rfl, hb3⟩
    go_wp2_with fail
    go_ret2
    rw [E.out]
    exact R1.mk rfl (bnext (bnext hb1 hb2) hb3)
  · have E := Lib.hid (show textN L = (⟨#[]⟩, r) by rw [HE.out, if_pos h0])
    clear HE HM HL2
    have h0' : (r == 0) = false := by simpa using h0
    go_wp2_with fail
    go_ret2
    rw [E.out]
    exact R1.mk rfl hb1
end Go.Proofs.YtihjgbhnlejhfaaGreatDoor
namespace Go.Proofs.YtihjgbhnlejhfaaGreatDoor
open Go.RowKit

/-- what is read behind a quote, up to the next quote that stands for itself: what was read, and what is left -/
def unqGo : List Nat → List Nat → Option (List Nat × List Nat)
  | _, [] => none
  | out, [x] => if x = 34 then some (out, []) else none
  | out, x :: y :: r => if x = 34 then some (out, y :: r) else if x = 92 then unqGo (out ++ [if y = 110 then 10 else y]) r else unqGo (out ++ [x]) (y :: r)
theorem unq_quote (out r : List Nat) : unqGo out (34 :: r) = some (out, r) := by
  cases r with
  | nil => simp [unqGo]
  | cons y r => simp [unqGo]
theorem unq_plain (out r : List Nat) (x : Nat) (h1 : x ≠ 34) (h2 : x ≠ 92) : unqGo out (x :: r) = unqGo (out ++ [x]) r := by
  cases r with
  | nil => simp [unqGo, h1]
  | cons y r => simp [unqGo, h1, h2]
theorem unq_slash (out r : List Nat) (y : Nat) : unqGo out (92 :: y :: r) = unqGo (out ++ [if y = 110 then 10 else y]) r := by simp [unqGo]
theorem unq_end (out : List Nat) : unqGo out [92] = none := by simp [unqGo]
def unqV : Option (List Nat × List Nat) → Value
  | none => .tuple #[.string ⟨#[]⟩, .string ⟨#[]⟩, .bool false]
  | some (a, b) => .tuple #[.string (bsOf a), .string (bsOf b), .bool true]
theorem elU8u : Elem Tryz.prog 76 5 1 1 := Elem.mk' (z := .int .u8 0) Tryz.underlying76 (by kernel_rfl) rfl (by decide)
theorem u8s_app1u (l : List Nat) (x : Nat) : u8s (l ++ [x]) = u8s l ++ (#[.int .u8 (x : Nat)] : Array Value).toList := by simp [u8s, u8v]
theorem conv_own {W : World} {base n : Nat} {v : Value} {l : List Nat} (h : W.ownsRow base 5 1 v n (u8s l)) : (convert 76 9 v).run Tryz.prog W = .ok (.string (bsOf l)) W := by
  have hl : l.length = n := by have := h.1; simp [u8s] at this; omega
  rcases h.2 with ⟨rfl, h0⟩ | ⟨g, cap, cur, rfl, _, hg, h1, _, h2, h3⟩
  · have : l = [] := List.length_eq_zero_iff.1 (by omega)
    subst this
    exact run_convert_bytes_nil (P := Tryz.prog) W 76 5 Tryz.underlying76 Tryz.underlying5 0 0 9 Tryz.underlying9
  · exact run_convert_bytes_arg (P := Tryz.prog) W 76 5 Tryz.underlying76 Tryz.underlying5 g 0 n cap (l.map (fun x : Nat => (x : Int))) (by rw [List.length_map]; exact hl) (fun i hi => by
      rw [Nat.zero_add, cell_of_row W g i cur 5 (0, 0) hg]
      have : cur.toList[i]? = (u8s l)[i]? := by rw [← h3, List.getElem?_take_of_lt (by omega)]
      rw [← Array.getElem?_toList, this]
      simp [u8s, u8v, List.getD, hl, hi]) 9 Tryz.underlying9
theorem bsOf_drop (s : ByteArray) (i : Nat) : bsOf ((sb s).drop i) = s.extract i s.size := by
  have e : bsOf ((sb s).drop i) = ⟨(s.data.toList.drop i).toArray⟩ := by
    unfold bsOf strOfNums sb
    apply ByteArray.ext
    apply Array.ext'
    rw [← List.map_drop]
    simp only [List.map_map]
    have : ((fun n : Int => UInt8.ofNat n.toNat) ∘ (fun x : Nat => (x : Int)) ∘ fun x : UInt8 => x.toNat) = id := by
      funext x
      simp
    first | rw [this, List.map_id] | (simp [this])
  rw [e]
  apply ByteArray.ext
  apply Array.ext'
  rw [ByteArray.data_extract, Array.toList_extract]
  simp [List.extract]
  rw [List.take_of_length_le]
  rw [List.length_drop, Array.length_toList]
  exact Nat.le_refl _
theorem sb_drop_cons (s : ByteArray) (i : Nat) (h : i < s.size) : (sb s).drop i = s[i].toNat :: (sb s).drop (i + 1) := by
  have hl : i < (sb s).length := by rw [sb_len]; exact h
  rw [List.drop_eq_getElem_cons hl]
  congr 1
  have := sb_at s i h
  rw [at_eq hl] at this
  exact this

set_option maxRecDepth 1000000 in
set_option maxHeartbeats 8000000 in
theorem lunq_any (s : ByteArray) (hs : s.size ≤ 4294967296) (w : World) :
    Calls Tryz.prog 175 #[.string s] w (R1 (unqV (unqGo [] (sb s))) (Below w.heap.size w)) := by
  obtain ⟨r, hr⟩ : ∃ r, unqGo [] (sb s) = r := ⟨_, rfl⟩
  have HR := Lib.hid (show unqGo [] ((sb s).drop 0) = r from hr)
  rw [hr]
  clear hr
  go_enter Tryz.func175, Tryz.ntmps175
  go_wp2_with fail
  go_loopw [5, 6] (fun ov iv wr => ∃ (i : Nat) (l : List Nat) (B : Option Addr) (d : Nat), i ≤ s.size ∧ l.length ≤ i ∧ iv = .int .i64 (i : Nat) ∧ ov = .slice B l.length d ∧ Hid (unqGo l ((sb s).drop i) = r) ∧ wr.ownsRow w.heap.size 5 1 (.slice B l.length d) l.length (u8s l) ∧ Below w.heap.size w wr) (fun _ iv _ => s.size + 5 - (intOf iv).toNat)
  case atStart => exact ⟨0, [], none, 0, by omega, by simp, rfl, rfl, HR, World.ownsRow_nil _ _ _ _, Below.refl _ _⟩
  case round =>
    obtain ⟨i, l, B, d, hi, hli, rfl, rfl, hg, hown, hbr⟩ := hrel
    have hbs := hbr.size
    by_cases hlt : (i : Int) < (s.size : Int)
    · have hil : i < s.size := by omega
      have hd := sb_drop_cons s i hil
      obtain ⟨x, hx⟩ : ∃ x, s[i].toNat = x := ⟨_, rfl⟩
      rw [hx] at hd
      have hxl : x < 256 := by rw [← hx]; exact UInt8.toNat_lt _
      have hi0 : (0 : Int) ≤ (i : Int) := by omega
      have hg2 := hg.out
      rw [hd] at hg2
      by_cases q1 : x = 34
      · rw [q1, unq_quote] at hg2
        have hcv := fun n => conv_own (own_drewN hown n)
        have hx' : s[i].toNat = 34 := by rw [hx, q1]
        have HE := Lib.hid (show unqV r = .tuple #[.string (bsOf l), .string (s.extract (i + 1) s.size), .bool true] by rw [← hg2, ← bsOf_drop]; rfl)
        have hi1 : (i : Int) + 1 ≤ (s.size : Int) := by omega
        clear hg2 hg hd hx q1 hxl hown
        go_wp2_with fail
        go_quiet (fail)
        go_wp2_with fail
        go_ret3
        rw [HE.out]
        exact R1.mk rfl (below_drewN hbr _)
      · have q1' : ((x : Int) == 34) = false := by rw [beq_eq_false_iff_ne]; omega
        by_cases q2 : x = 92
        · subst q2
          by_cases hlt2 : (i : Int) + 1 < (s.size : Int)
          · have hil2 : i + 1 < s.size := by omega
            have hd2 := sb_drop_cons s (i + 1) hil2
            obtain ⟨y, hy⟩ : ∃ y, s[i + 1].toNat = y := ⟨_, rfl⟩
            rw [hy] at hd2
            have hyl : y < 256 := by rw [← hy]; exact UInt8.toNat_lt _
            rw [hd2, unq_slash] at hg2
            have hi1 : (0 : Int) ≤ (i : Int) + 1 := by omega
            have hti : ((i : Int) + 1).toNat = i + 1 := by omega
            clear hg hd hd2
            by_cases q3 : y = 110
            · rw [if_pos q3] at hg2
              subst q3
              have Hg := Lib.hid hg2
              clear hg2
              go_wp2_with (at_builtin; refine wpList_append1 rfl _ _ _ rfl elU8u (v := .slice B l.length d) rfl hown (g := wr.heap.size) rfl rfl rfl ?_ ?c1 ?c2 ?c3 ?c4; intro B9 d9 w9 hown9 hgrow9 hbel9)
              case c1 => first | (intro u hu; simp at hu; subst hu; rfl) | rfl
              case c2 => omega
              case c3 => unfold maxLen; omega
              case c4 => exact hbs
              have hbel09 : Below w.heap.size w w9 := hbr.trans hbel9
              have hlen9 : (l ++ [10]).length = l.length + 1 := by simp
              have Hown9 := Lib.hid (show w9.ownsRow w.heap.size 5 1 (.slice B9 (l ++ [10]).length d9) (l ++ [10]).length (u8s (l ++ [10])) by rw [hlen9, u8s_app1u]; exact hown9)
              clear hown9 hgrow9 hbel9
              go_wp2_with fail
              go_roundw
              case rel => exact ⟨i + 2, l ++ [10], B9, d9, by omega, by rw [hlen9]; omega, by go_num, by rw [hlen9], Hg, Hown9.out, hbel09⟩
              case measure => simp [intOf]; omega
            · rw [if_neg q3] at hg2
              have q3' : ((y : Int) == 110) = false := by rw [beq_eq_false_iff_ne]; omega
              have Hg := Lib.hid hg2
              clear hg2
              go_wp2_with (at_builtin; refine wpList_append1 rfl _ _ _ rfl elU8u (v := .slice B l.length d) rfl hown (g := wr.heap.size) rfl rfl rfl ?_ ?c1 ?c2 ?c3 ?c4; intro B9 d9 w9 hown9 hgrow9 hbel9)
              case c1 => first | (intro u hu; simp at hu; subst hu; rfl) | rfl
              case c2 => omega
              case c3 => unfold maxLen; omega
              case c4 => exact hbs
              have hbel09 : Below w.heap.size w w9 := hbr.trans hbel9
              have hlen9 : (l ++ [y]).length = l.length + 1 := by simp
              have Hown9 := Lib.hid (show w9.ownsRow w.heap.size 5 1 (.slice B9 (l ++ [y]).length d9) (l ++ [y]).length (u8s (l ++ [y])) by rw [hlen9, u8s_app1u]; exact hown9)
              clear hown9 hgrow9 hbel9
              go_wp2_with fail
              go_roundw
              case rel => exact ⟨i + 2, l ++ [y], B9, d9, by omega, by rw [hlen9]; omega, by go_num, by rw [hlen9], Hg, Hown9.out, hbel09⟩
              case measure => simp [intOf]; omega
          · have hd2 : (sb s).drop (i + 1) = [] := List.drop_of_length_le (by rw [sb_len]; omega)
            rw [hd2, unq_end] at hg2
            have HE := Lib.hid (show unqV r = .tuple #[.string ⟨#[]⟩, .string ⟨#[]⟩, .bool false] by rw [← hg2]; rfl)
            clear hg2 hg hd hd2 hown
            go_wp2_with fail
            go_ret3
            rw [HE.out]
            exact R1.mk rfl hbr
        · have q2' : ((x : Int) == 92) = false := by rw [beq_eq_false_iff_ne]; omega
          rw [unq_plain _ _ _ q1 q2] at hg2
          have Hg := Lib.hid hg2
          clear hg2 hg hd
          go_wp2_with (at_builtin; refine wpList_append1 rfl _ _ _ rfl elU8u (v := .slice B l.length d) rfl hown (g := wr.heap.size) rfl rfl rfl ?_ ?c1 ?c2 ?c3 ?c4; intro B9 d9 w9 hown9 hgrow9 hbel9)
          case c1 => first | (intro u hu; simp at hu; subst hu; rfl) | rfl
          case c2 => omega
          case c3 => unfold maxLen; omega
          case c4 => exact hbs
          have hbel09 : Below w.heap.size w w9 := hbr.trans hbel9
          have hlen9 : (l ++ [x]).length = l.length + 1 := by simp
          have Hown9 := Lib.hid (show w9.ownsRow w.heap.size 5 1 (.slice B9 (l ++ [x]).length d9) (l ++ [x]).length (u8s (l ++ [x])) by rw [hlen9, u8s_app1u]; exact hown9)
          clear hown9 hgrow9 hbel9
          go_wp2_with fail
          go_roundw
          case rel => exact ⟨i + 1, l ++ [x], B9, d9, by omega, by rw [hlen9]; omega, by go_num, by rw [hlen9], Hg, Hown9.out, hbel09⟩
          case measure => simp [intOf]; omega
    · have hd2 : (sb s).drop i = [] := List.drop_of_length_le (by rw [sb_len]; omega)
      have hg2 := hg.out
      rw [hd2] at hg2
      have HE := Lib.hid (show unqV r = .tuple #[.string ⟨#[]⟩, .string ⟨#[]⟩, .bool false] by rw [← hg2]; rfl)
      clear hg2 hg hd2 hown
      go_wp2_with fail
      go_ret3
      rw [HE.out]
      exact R1.mk rfl hbr
end Go.Proofs.YtihjgbhnlejhfaaGreatDoor
