/- Texts of the proof of ExprOne, joined (by merge.py). Conditions: each theorem's own hypotheses. -/
import Derived.Test.YtnicbhmeigpjkaaGreatDoorExprOneP3
import Derived.Test.YtnicbhmeigpjkaaGreatDoorExprOneP9
import Derived.Test.YtnicbhmeigpjkaaGreatDoorExprOneP11
import Derived.Test.YtnicbhmeigpjkaaGreatDoorExprOneP12
import Derived.Test.YtnicbhmeigpjkaaGreatDoorExprOneP13
import Derived.BigQuiet
import Derived.Shelf.RegionOpenPlain
import Derived.Shelf.Abstract
import Derived.Deep.RegionHeld3
namespace Go.Proofs.YtnicbhmeigpjkaaGreatDoor
open Go.RowKit

theorem rp_cell {W : World} {h k : Nat} {A : Option Addr} {c : Nat} {a b d : Value} (hB : Blk W h 250 (cells4 (.slice A k c) a b d)) (sa : SlB W a [92, 110]) (sb' : SlB W b [92, 34]) (sd : SlB W d [92, 92]) (x : Nat) (hx : x < 256) :
    ∃ v, W.cell? ⟨h, x, none⟩ = some v ∧ ((v = .slice none 0 0 ∧ spc x = 0 ∧ rep1 x = [x]) ∨ (spc x = 1 ∧ ∃ bb cc, v = .slice (some ⟨bb, 0, none⟩) 2 cc ∧ (rep1 x).length = 2 ∧ SlB W (.slice (some ⟨bb, 0, none⟩) 2 cc) (rep1 x))) := by
  refine ⟨_, (hB.cell x).trans (cells4_at _ _ _ _ x hx), ?_⟩
  by_cases h1 : x = 10
  · subst h1
    obtain ⟨bb, cc, cs, fr, e, h2⟩ := sa
    exact .inr ⟨rfl, bb, cc, e, rfl, bb, cc, cs, fr, rfl, h2⟩
  · by_cases h2 : x = 34
    · subst h2
      obtain ⟨bb, cc, cs, fr, e, h2⟩ := sb'
      exact .inr ⟨rfl, bb, cc, e, rfl, bb, cc, cs, fr, rfl, h2⟩
    · by_cases h3 : x = 92
      · subst h3
        obtain ⟨bb, cc, cs, fr, e, h2⟩ := sd
        exact .inr ⟨rfl, bb, cc, e, rfl, bb, cc, cs, fr, rfl, h2⟩
      · refine .inl ⟨?_, ?_, ?_⟩
        · rw [if_neg h1, if_neg h2, if_neg h3]; rfl
        · unfold spc; rw [if_neg h1, if_neg h2, if_neg h3]
        · unfold rep1; rw [if_neg h1, if_neg h2, if_neg h3]
/-- how many of the first k kinds of bytes are in a text -/
def cntK (l : List Nat) (k : Nat) : Nat := ((([10, 34, 92] : List Nat).take k).map (fun x => l.count x)).sum
theorem cntK_3 (l : List Nat) : cntK l 3 = cntS l := by rw [cntS_3]; simp [cntK]; omega
theorem trL_at (k : Nat) (hk : k < 3) : ∃ c : UInt8, (trL 3)[k]? = some ⟨#[c]⟩ ∧ (c.toNat = 10 ∨ c.toNat = 34 ∨ c.toNat = 92) ∧ ∀ l, cntK l (k + 1) = cntK l k + l.count c.toNat := by
  rcases (show k = 0 ∨ k = 1 ∨ k = 2 by omega) with rfl | rfl | rfl
  · exact ⟨10, rfl, .inl rfl, fun l => by simp [cntK]⟩
  · exact ⟨34, rfl, .inr (.inl rfl), fun l => by simp [cntK]⟩
  · exact ⟨92, rfl, .inr (.inr rfl), fun l => by simp [cntK]; omega⟩
theorem strCs_at (l : List ByteArray) (k : Nat) (s : ByteArray) (h : l[k]? = some s) : (strCs l)[k]? = some (.string s) := by
  have e : ∀ l : List ByteArray, strCs l = l.map Value.string := by
    intro l
    unfold strCs
    induction l with
    | nil => rfl
    | cons x l ih => rw [List.flatMap_cons, ih]; rfl
  rw [e, List.getElem?_map, h]; rfl
theorem cntK_le (l : List Nat) (k : Nat) (hk : k ≤ 3) : cntK l k ≤ l.length := by
  have h3 : cntK l 3 ≤ l.length := by rw [cntK_3]; exact cntS_le l
  have : cntK l k ≤ cntK l 3 := by
    rcases (show k = 0 ∨ k = 1 ∨ k = 2 ∨ k = 3 by omega) with rfl | rfl | rfl | rfl <;> simp [cntK] <;> omega
  omega

set_option maxRecDepth 1000000 in
set_option maxHeartbeats 4000000 in
theorem brep_any (h c : Nat) (A : Option Addr) (a b d : Value) (s : ByteArray) (hs : s.size ≤ 4294967296) (w : World) (hB : Blk w h 250 (cells4 (.slice A 3 c) a b d)) (hA : Has w w.heap.size A (strCs (trL 3)))
    (sa : SlB w a [92, 110]) (sb' : SlB w b [92, 34]) (sd : SlB w d [92, 92]) :
    Calls Tryz.prog 233 #[.pointer (some ⟨h, 0, none⟩), .string s] w (R1 (.string (bsOf (repL (sb s)))) (Below w.heap.size w)) := by
  have y1 : w.cell? ⟨h, 256, none⟩ = some (.slice A 3 c) := (hB.cell 256).trans (cells4_256 _ _ _ _)
  have hcell := fun (W : World) (hb : Below w.heap.size w W) x hx => rp_cell (hB.next hb) (sa.next hb) (sb'.next hb) (sd.next hb) x hx
  have hy := fun (W : World) (hb : Below w.heap.size w W) => ((hB.next hb).cell 256).trans (cells4_256 _ _ _ _)
  have Hy := Lib.hid hy
  have Hcell := Lib.hid hcell
  have HA := Lib.hid hA
  obtain ⟨r, hr⟩ : ∃ r, bsOf (repL (sb s)) = r := ⟨_, rfl⟩
  rw [hr]
  have HR := Lib.hid hr
  have hne := fun (w : World) (a : Option Addr) (n c n' c' : Nat) => run_neq_slice_nil_any (P := Tryz.prog) w 123 5 a n c n' c' Tryz.underlying123
  clear hB hA sa sb' sd hr hcell hy
  by_cases hlong : (24 : Int) ≤ (s.size : Int)
  · go_enter Tryz.func233, Tryz.ntmps233
    go_wp2_with fail
    go_loopw [5, 6, 32] (fun nv av iv wr => ∃ k : Nat, k ≤ 3 ∧ iv = .int .i64 (k : Nat) ∧ nv = .int .i64 ((s.size : Int) + (cntK (sb s) k : Int)) ∧ av = .bool (decide (0 < cntK (sb s) k)) ∧ Below w.heap.size w wr) (fun _ _ iv _ => 5 - (intOf iv).toNat)
    case atStart => exact ⟨0, by omega, rfl, congrArg _ (by rw [show cntK (sb s) 0 = 0 from rfl]; omega), rfl, Below.refl _ _⟩
    case round =>
      obtain ⟨k, hk, rfl, rfl, rfl, hbr⟩ := hrel
      have hkc : cntK (sb s) k ≤ s.size := by rw [← sb_len]; exact cntK_le _ _ hk
      by_cases hlt : (k : Int) < 3
      · obtain ⟨x, hx1, hx2, hx3⟩ := trL_at k (by omega)
        obtain ⟨ad, rfl, _, c0⟩ := (HA.out.next hbr).at (strCs_at _ _ _ hx1)
        obtain ⟨v, hv1, hv2⟩ := Hcell.out _ hbr x.toNat (by omega)
        have hv3 : ∃ bb cc, v = .slice (some ⟨bb, 0, none⟩) 2 cc := by
          rcases hv2 with ⟨_, h, _⟩ | ⟨_, bb, cc, h, _⟩
          · exfalso; unfold spc at h; rcases hx2 with e | e | e <;> rw [e] at h <;> simp at h
          · exact ⟨bb, cc, h⟩
        obtain ⟨bb, cc, rfl⟩ := hv3
        have hxe : ((⟨#[x]⟩ : ByteArray)[0]'(show 0 < 1 from by decide)).toNat = x.toNat := rfl
        have hsx : (⟨#[x]⟩ : ByteArray).size = 1 := rfl
        have hct := Tryz.strings_Count_one s x wr
        rw [count_sb] at hct
        have h3 := hx3 (sb s)
        obtain ⟨q, hq⟩ : ∃ q, (sb s).count x.toNat = q := ⟨_, rfl⟩
        have hql : q ≤ s.size := by rw [← sb_len, ← hq]; exact List.count_le_length
        rw [hq] at hct h3
        have H3 := Lib.hid h3
        have HCt := Lib.hid hct
        clear hct h3 hv2 hx3 hq hx1
        go_wp2_with fail
        refine HCt.out.mono ?_
        rintro e1 w1 ⟨rfl, rfl⟩
        by_cases h0 : q = 0
        · subst h0
          go_wp2_with fail
          go_roundw
          case rel => exact ⟨k + 1, by omega, by go_num, by rw [H3.out, Nat.add_zero], by rw [H3.out, Nat.add_zero], hbr⟩
          case measure => simp [intOf]; omega
        · have h0' : ¬ (q : Int) = 0 := by omega
          have h0'' : ((q : Int) == 0) = false := by simp; omega
          go_wp2_with fail
          go_quiet (fail)
          go_wp2_with fail
          go_roundw
          case rel => exact ⟨k + 1, by omega, by go_num, congrArg _ (by rw [H3.out]; omega), by rw [H3.out]; simp; omega, below_drewN hbr _⟩
          case measure => simp [intOf]; omega
      · obtain rfl : k = 3 := by omega
        rw [cntK_3]
        --A
        obtain ⟨q, hq⟩ : ∃ q, cntS (sb s) = q := ⟨_, rfl⟩
        have hql : q ≤ s.size := by rw [← sb_len, ← hq]; exact cntS_le _
        rw [hq]
        have Hq := Lib.hid hq
        clear hq
        by_cases h0 : q = 0
        · subst h0
          have E := Lib.hid (show r = s by rw [← HR.out, repL_none _ Hq.out, bsOf_sb])
          go_wp2_with fail
          go_ret
          rw [E.out]
          exact R1.mk rfl hbr
        · have hpos : 0 < q := by omega
          obtain ⟨N, hN⟩ : ∃ N, s.size + q = N := ⟨_, rfl⟩
          have hN' : (s.size : Int) + (q : Int) = (N : Int) := by omega
          have hNb : N ≤ 8589934592 := by omega
          have HN := Lib.hid hN
          obtain ⟨i0, i1, i2, i3, i4⟩ := info_parts infoU8
          obtain ⟨w2, hrun, hown, hgrow⟩ := run_make_full (P := Tryz.prog) wr w.heap.size 123 5 i0 (.int .u8 0) 1 Tryz.underlying123 i1 i2 i3 .i64 .i64 N (by rw [i4]; omega) (by unfold maxLen; omega) hbr.size
          have hb2 : Below wr.heap.size wr w2 := (Below.refl _ _).grown hgrow (Nat.le_refl _) (fun k e => by cases e)
          have hB2 : RpBuf w2 wr.heap.size N [] := by
            rw [madeCells8] at hown
            rcases hown.2 with ⟨e, _⟩ | ⟨g, cap, cur, e, _, hg, _, _, hc, ht⟩
            · cases e
            · injection e with e1 e2 e3
              injection e1 with e1
              injection e1 with e1
              subst e1 e3
              refine ⟨List.replicate N 0, by simp, ?_, rfl⟩
              rw [List.take_of_length_le (by rw [Array.length_toList]; omega)] at ht
              rw [Blk, hg, ← ht]
          obtain ⟨g, hgs⟩ : ∃ g, wr.heap.size = g := ⟨_, rfl⟩
          have hbg : w.heap.size ≤ g := by rw [← hgs]; exact hbr.size
          have hbel2 := hbr.trans (hb2.mono hbr.size)
          rw [hgs] at hrun hB2
          have HB2 := Lib.hid hB2
          clear hown hgrow hb2 hB2 hgs hbr i1 i2 i3 i4 hN
          go_wp2_with fail
          go_loopw [13, 14] (fun jv iv wx => ∃ i : Nat, i ≤ s.size ∧ iv = .int .i64 (i : Nat) ∧ jv = .int .i64 ((repL ((sb s).take i)).length : Nat) ∧ Hid (RpBuf wx g N (repL ((sb s).take i))) ∧ Below w.heap.size w wx) (fun _ iv _ => s.size + 5 - (intOf iv).toNat)
          case atStart => exact ⟨0, by omega, rfl, rfl, HB2, hbel2⟩
          case round =>
            obtain ⟨i, hi, rfl, rfl, hbuf, hbx⟩ := hrel
            by_cases hlt : (i : Int) < (s.size : Int)
            · have hil : i < s.size := by omega
              have htk := sb_take_succ s i hil
              have hrl : repL ((sb s).take (i + 1)) = repL ((sb s).take i) ++ rep1 s[i].toNat := by rw [htk, repL_app]; simp [repL]
              have hle : (repL ((sb s).take (i + 1))).length ≤ N := by
                have e1 : sb s = (sb s).take (i + 1) ++ (sb s).drop (i + 1) := (List.take_append_drop _ _).symm
                have e2 : (repL (sb s)).length = N := by rw [repL_len, sb_len, Hq.out]; exact HN.out
                rw [e1, repL_app, List.length_append] at e2
                omega
              rw [hrl] at hle
              obtain ⟨x, hx⟩ : ∃ x, s[i].toNat = x := ⟨_, rfl⟩
              have hx256 : x < 256 := by rw [← hx]; exact UInt8.toNat_lt _
              rw [hx] at hle hrl
              obtain ⟨d, hd⟩ : ∃ d, repL ((sb s).take i) = d := ⟨_, rfl⟩
              rw [hd] at hle hrl hbuf ⊢
              have Hrl := Lib.hid hrl
              obtain ⟨v, hv1, hv2⟩ := Hcell.out _ hbx x hx256
              have hi0 : (0 : Int) ≤ (i : Int) := by omega
              have hx0 : (0 : Int) ≤ (x : Int) := by omega
              have hx1 : (x : Int) < 256 := by omega
              rw [List.length_append] at hle
              clear hrl htk hd
              rcases hv2 with ⟨rfl, _, h1⟩ | ⟨_, bb, cc, rfl, hl2, hsl⟩
              · rw [h1] at hle
                have hdl : d.length < N := by rw [List.length_singleton] at hle; omega
                have hdl' : ((d.length : Nat) : Int) < (N : Int) := by omega
                obtain ⟨⟨z, hz⟩, hf⟩ := hbuf.out.cell d.length hdl
                have hput := Lib.hid (hbuf.out.put x hdl)
                have hbp := hbx.setCell hbg (p := ⟨g, d.length, none⟩) (.int .u8 (x : Int))
                have H1 := Lib.hid h1
                clear hbuf h1 hle
                go_wp2_with fail
                go_roundw
                case rel => exact ⟨i + 1, by omega, by go_num, by rw [Hrl.out, H1.out, List.length_append]; go_num, by rw [Hrl.out, H1.out]; exact hput, hbp⟩
                case measure => simp [intOf]; omega
              · have hcp := fun dc ty => RpBuf.copy (g := g) (n := N) (RpBuf.drew hbuf.out) (rep1 x) hle (by rw [hl2]; exact (hsl.next (drawn_below ⟨1, rfl⟩))) dc ty
                have hdN : d.length + 2 ≤ N := by rw [hl2] at hle; exact hle
                have hd1 : ((d.length : Nat) : Int) ≤ (N : Int) := by omega
                have hd0 : (0 : Int) ≤ ((d.length : Nat) : Int) := by omega
                clear hbuf hsl hle
                have mixed : Tryz.prog.follows .mixedOrders = true := by kernel_rfl
                go_wp2_with fail
                obtain ⟨W4, hr4, hb4, hl4⟩ := hcp (N - d.length) 3
                rw [hl2] at hr4
                have HB4 := Lib.hid hb4
                have HL4 := Lib.hid (hl4 w.heap.size w hbg (below_drewN hbx 1))
                clear hb4 hl4
                go_region_law_o (refine step_copy_runK rfl _ _ 123 123 rfl _ _ (by simp [Act.eval]; omega) (by simp [Act.eval]) hr4 ?_)
                go_wp2_with fail
                go_roundw
                case rel => exact ⟨i + 1, by omega, by go_num, by rw [Hrl.out, List.length_append, hl2]; go_num, by rw [Hrl.out]; exact HB4, HL4.out⟩
                case measure => simp [intOf]; omega
            · have hin : i = s.size := by omega
              have hall : (sb s).take i = sb s := List.take_of_length_le (by rw [sb_len]; omega)
              rw [hall] at hbuf ⊢
              have hNl : (repL (sb s)).length = N := by rw [repL_len, sb_len, Hq.out]; exact HN.out
              have hfull := hbuf.out.full hNl
              have hcv := run_convert_bytes_arg (P := Tryz.prog) wr 123 5 Tryz.underlying123 Tryz.underlying5 g 0 N N ((repL (sb s)).map (fun x : Nat => (x : Int))) (by rw [List.length_map]; exact hNl) (fun j hj => by
                rw [Nat.zero_add, hfull.cell j]
                simp [u8s, u8v, List.getD, hNl, hj]) 9 Tryz.underlying9
              have hcv2 : (convert 123 9 (.slice (some ⟨g, 0, none⟩) N N)).run Tryz.prog wr = .ok (.string (bsOf (repL (sb s)))) wr := hcv
              rw [HR.out] at hcv2
              clear hbuf hfull hcv hall hNl Hcell Hy HA hne HB2
              go_wp2_with fail
              go_ret
              exact R1.mk rfl hbx
--/A
  · go_enter Tryz.func233, Tryz.ntmps233
    have hlen0 : ∃ n : Nat, s.size = n := ⟨_, rfl⟩
    have h24 : s.size < 24 := by omega
    go_wp2_with fail
    go_loopw [5, 6, 10] (fun nv av iv wr => ∃ k : Nat, k ≤ s.size ∧ iv = .int .i64 (k : Nat) ∧ nv = .int .i64 ((s.size : Int) + (cntS ((sb s).take k) : Int)) ∧ av = .bool (decide (0 < cntS ((sb s).take k))) ∧ Below w.heap.size w wr) (fun _ _ iv _ => s.size + 5 - (intOf iv).toNat)
    case atStart => exact ⟨0, by omega, rfl, congrArg _ (by rw [show cntS ((sb s).take 0) = 0 from rfl]; omega), rfl, Below.refl _ _⟩
    case round =>
      obtain ⟨k, hk, rfl, rfl, rfl, hbr⟩ := hrel
      have hkc : cntS ((sb s).take k) ≤ s.size := Nat.le_trans (cntS_le _) (by rw [List.length_take, sb_len]; omega)
      by_cases hlt : (k : Int) < (s.size : Int)
      · have hil : k < s.size := by omega
        have htk := sb_take_succ s k hil
        have hc : cntS ((sb s).take (k + 1)) = cntS ((sb s).take k) + spc s[k].toNat := by rw [htk, cntS_app]; rfl
        obtain ⟨x, hx⟩ : ∃ x, s[k].toNat = x := ⟨_, rfl⟩
        have hx256 : x < 256 := by rw [← hx]; exact UInt8.toNat_lt _
        rw [hx] at hc
        obtain ⟨q, hq⟩ : ∃ q, cntS ((sb s).take k) = q := ⟨_, rfl⟩
        rw [hq] at hc hkc ⊢
        obtain ⟨v, hv1, hv2⟩ := Hcell.out _ hbr x hx256
        have hi0 : (0 : Int) ≤ (k : Int) := by omega
        have hx0 : (0 : Int) ≤ (x : Int) := by omega
        have hx1 : (x : Int) < 256 := by omega
        have Hc := Lib.hid hc
        clear hc htk hq
        rcases hv2 with ⟨rfl, h1, _⟩ | ⟨h1, bb, cc, rfl, _, _⟩
        · have H1 := Lib.hid h1
          clear h1
          go_wp2_with fail
          go_roundw
          case rel => exact ⟨k + 1, by omega, by go_num, by rw [Hc.out, H1.out, Nat.add_zero], by rw [Hc.out, H1.out, Nat.add_zero], hbr⟩
          case measure => simp [intOf]; omega
        · have H1 := Lib.hid h1
          clear h1
          go_wp2_with fail
          go_roundw
          case rel => exact ⟨k + 1, by omega, by go_num, congrArg _ (by rw [Hc.out, H1.out]; omega), by rw [Hc.out, H1.out]; simp, hbr⟩
          case measure => simp [intOf]; omega
      · have hks : k = s.size := by omega
        have hall : (sb s).take k = sb s := List.take_of_length_le (by rw [sb_len]; omega)
        rw [hall]
        clear hall hkc
        --B
        obtain ⟨q, hq⟩ : ∃ q, cntS (sb s) = q := ⟨_, rfl⟩
        have hql : q ≤ s.size := by rw [← sb_len, ← hq]; exact cntS_le _
        rw [hq]
        have Hq := Lib.hid hq
        clear hq
        by_cases h0 : q = 0
        · subst h0
          have E := Lib.hid (show r = s by rw [← HR.out, repL_none _ Hq.out, bsOf_sb])
          go_wp2_with fail
          go_ret
          rw [E.out]
          exact R1.mk rfl hbr
        · have hpos : 0 < q := by omega
          obtain ⟨N, hN⟩ : ∃ N, s.size + q = N := ⟨_, rfl⟩
          have hN' : (s.size : Int) + (q : Int) = (N : Int) := by omega
          have hNb : N ≤ 8589934592 := by omega
          have HN := Lib.hid hN
          obtain ⟨i0, i1, i2, i3, i4⟩ := info_parts infoU8
          obtain ⟨w2, hrun, hown, hgrow⟩ := run_make_full (P := Tryz.prog) wr w.heap.size 123 5 i0 (.int .u8 0) 1 Tryz.underlying123 i1 i2 i3 .i64 .i64 N (by rw [i4]; omega) (by unfold maxLen; omega) hbr.size
          have hb2 : Below wr.heap.size wr w2 := (Below.refl _ _).grown hgrow (Nat.le_refl _) (fun k e => by cases e)
          have hB2 : RpBuf w2 wr.heap.size N [] := by
            rw [madeCells8] at hown
            rcases hown.2 with ⟨e, _⟩ | ⟨g, cap, cur, e, _, hg, _, _, hc, ht⟩
            · cases e
            · injection e with e1 e2 e3
              injection e1 with e1
              injection e1 with e1
              subst e1 e3
              refine ⟨List.replicate N 0, by simp, ?_, rfl⟩
              rw [List.take_of_length_le (by rw [Array.length_toList]; omega)] at ht
              rw [Blk, hg, ← ht]
          obtain ⟨g, hgs⟩ : ∃ g, wr.heap.size = g := ⟨_, rfl⟩
          have hbg : w.heap.size ≤ g := by rw [← hgs]; exact hbr.size
          have hbel2 := hbr.trans (hb2.mono hbr.size)
          rw [hgs] at hrun hB2
          have HB2 := Lib.hid hB2
          clear hown hgrow hb2 hB2 hgs hbr i1 i2 i3 i4 hN
          go_wp2_with fail
          go_loopw [13, 14] (fun jv iv wx => ∃ i : Nat, i ≤ s.size ∧ iv = .int .i64 (i : Nat) ∧ jv = .int .i64 ((repL ((sb s).take i)).length : Nat) ∧ Hid (RpBuf wx g N (repL ((sb s).take i))) ∧ Below w.heap.size w wx) (fun _ iv _ => s.size + 5 - (intOf iv).toNat)
          case atStart => exact ⟨0, by omega, rfl, rfl, HB2, hbel2⟩
          case round =>
            obtain ⟨i, hi, rfl, rfl, hbuf, hbx⟩ := hrel
            by_cases hlt : (i : Int) < (s.size : Int)
            · have hil : i < s.size := by omega
              have htk := sb_take_succ s i hil
              have hrl : repL ((sb s).take (i + 1)) = repL ((sb s).take i) ++ rep1 s[i].toNat := by rw [htk, repL_app]; simp [repL]
              have hle : (repL ((sb s).take (i + 1))).length ≤ N := by
                have e1 : sb s = (sb s).take (i + 1) ++ (sb s).drop (i + 1) := (List.take_append_drop _ _).symm
                have e2 : (repL (sb s)).length = N := by rw [repL_len, sb_len, Hq.out]; exact HN.out
                rw [e1, repL_app, List.length_append] at e2
                omega
              rw [hrl] at hle
              obtain ⟨x, hx⟩ : ∃ x, s[i].toNat = x := ⟨_, rfl⟩
              have hx256 : x < 256 := by rw [← hx]; exact UInt8.toNat_lt _
              rw [hx] at hle hrl
              obtain ⟨d, hd⟩ : ∃ d, repL ((sb s).take i) = d := ⟨_, rfl⟩
              rw [hd] at hle hrl hbuf ⊢
              have Hrl := Lib.hid hrl
              obtain ⟨v, hv1, hv2⟩ := Hcell.out _ hbx x hx256
              have hi0 : (0 : Int) ≤ (i : Int) := by omega
              have hx0 : (0 : Int) ≤ (x : Int) := by omega
              have hx1 : (x : Int) < 256 := by omega
              rw [List.length_append] at hle
              clear hrl htk hd
              rcases hv2 with ⟨rfl, _, h1⟩ | ⟨_, bb, cc, rfl, hl2, hsl⟩
              · rw [h1] at hle
                have hdl : d.length < N := by rw [List.length_singleton] at hle; omega
                have hdl' : ((d.length : Nat) : Int) < (N : Int) := by omega
                obtain ⟨⟨z, hz⟩, hf⟩ := hbuf.out.cell d.length hdl
                have hput := Lib.hid (hbuf.out.put x hdl)
                have hbp := hbx.setCell hbg (p := ⟨g, d.length, none⟩) (.int .u8 (x : Int))
                have H1 := Lib.hid h1
                clear hbuf h1 hle
                go_wp2_with fail
                go_roundw
                case rel => exact ⟨i + 1, by omega, by go_num, by rw [Hrl.out, H1.out, List.length_append]; go_num, by rw [Hrl.out, H1.out]; exact hput, hbp⟩
                case measure => simp [intOf]; omega
              · have hcp := fun dc ty => RpBuf.copy (g := g) (n := N) (RpBuf.drew hbuf.out) (rep1 x) hle (by rw [hl2]; exact (hsl.next (drawn_below ⟨1, rfl⟩))) dc ty
                have hdN : d.length + 2 ≤ N := by rw [hl2] at hle; exact hle
                have hd1 : ((d.length : Nat) : Int) ≤ (N : Int) := by omega
                have hd0 : (0 : Int) ≤ ((d.length : Nat) : Int) := by omega
                clear hbuf hsl hle
                have mixed : Tryz.prog.follows .mixedOrders = true := by kernel_rfl
                go_wp2_with fail
                obtain ⟨W4, hr4, hb4, hl4⟩ := hcp (N - d.length) 3
                rw [hl2] at hr4
                have HB4 := Lib.hid hb4
                have HL4 := Lib.hid (hl4 w.heap.size w hbg (below_drewN hbx 1))
                clear hb4 hl4
                go_region_law_o (refine step_copy_runK rfl _ _ 123 123 rfl _ _ (by simp [Act.eval]; omega) (by simp [Act.eval]) hr4 ?_)
                go_wp2_with fail
                go_roundw
                case rel => exact ⟨i + 1, by omega, by go_num, by rw [Hrl.out, List.length_append, hl2]; go_num, by rw [Hrl.out]; exact HB4, HL4.out⟩
                case measure => simp [intOf]; omega
            · have hin : i = s.size := by omega
              have hall : (sb s).take i = sb s := List.take_of_length_le (by rw [sb_len]; omega)
              rw [hall] at hbuf ⊢
              have hNl : (repL (sb s)).length = N := by rw [repL_len, sb_len, Hq.out]; exact HN.out
              have hfull := hbuf.out.full hNl
              have hcv := run_convert_bytes_arg (P := Tryz.prog) wr 123 5 Tryz.underlying123 Tryz.underlying5 g 0 N N ((repL (sb s)).map (fun x : Nat => (x : Int))) (by rw [List.length_map]; exact hNl) (fun j hj => by
                rw [Nat.zero_add, hfull.cell j]
                simp [u8s, u8v, List.getD, hNl, hj]) 9 Tryz.underlying9
              have hcv2 : (convert 123 9 (.slice (some ⟨g, 0, none⟩) N N)).run Tryz.prog wr = .ok (.string (bsOf (repL (sb s)))) wr := hcv
              rw [HR.out] at hcv2
              clear hbuf hfull hcv hall hNl Hcell Hy HA hne HB2
              go_wp2_with fail
              go_ret
              exact R1.mk rfl hbx
--/B
end Go.Proofs.YtnicbhmeigpjkaaGreatDoor
namespace Go.Proofs.YtnicbhmeigpjkaaGreatDoor
open Go.RowKit Go.Shelf

set_option maxRecDepth 1000000 in
set_option maxHeartbeats 4000000 in
theorem rrep_any (w0 w : World) (v : Value) (hb0 : Below w0.heap.size w0 w) (hN : NewRP w0 v w) (s : ByteArray) (hs : s.size ≤ 4294967296) :
    Calls Tryz.prog 100 #[v, .string s] w (R1 (.string (bsOf (repL (sb s)))) (Below w0.heap.size w0)) := by
  obtain ⟨g, o, c, rfl, hg, ho, hne, hB, hown, _⟩ := hN
  have eg : ∀ args w, (callFunc 133 args).run Tryz.prog w = .ok (.enter 133 args) w := enters_of Tryz.func133 (by kernel_rfl) rfl
  have hB1 : Blk (w.setCell ⟨g, 1, none⟩ (.int .i32 1)) g 195 #[.int .u32 0, .int .i32 1, .int .u32 0, .nilIface, .slice (some ⟨o, 0, none⟩) 6 c] := hB.set 1 _
  have hbo := rbuildOnce_any g o c w0 (w.setCell ⟨g, 1, none⟩ (.int .i32 1)) (hb0.setCell hg _) hg ho hB1 (ownsRow_setCell_other hown (a := ⟨g, 1, none⟩) (fun hh => blk_neL hB hown (by decide) hh.symm) _)
  have hgw := hB.lt
  have hsz : (w.setCell ⟨g, 1, none⟩ (.int .i32 1)).heap.size = w.heap.size := by simp [World.setCell]
  rw [hsz] at hbo
  have hD := rp_do g 133 #[.pointer (some ⟨g, 0, none⟩)] (RpMid w0 g (w.heap.size + 1) (.int .u32 0) (.int .i32 1)) w (hB.cell 0) (hB.cell 1) (hB.frozen 1) hbo (eg _) (fun w' hm => ⟨hm.1.cell 0, hm.1.cell 1, hm.1.frozen 0, hm.1.frozen 1⟩)
  have HD := Lib.hid hD
  have hmf : ∀ w : World, (Instr.makeFunc (.func 133) #[.pointer (some ⟨g, 0, none⟩)] #[]).run Tryz.prog w = .ok (.func (.func 133) #[.pointer (some ⟨g, 0, none⟩)] #[]) w := fun _ => by kernel_rfl
  have hgh : g ≠ w.heap.size + 1 := by omega
  have hme : ∀ (a : Addr) (w : World), (method 287 251 (.pointer (some a)) "Replace").run Tryz.prog w = .ok (233, .pointer (some a)) w := fun _ _ => by kernel_rfl
  clear hB hown hB1 hbo hD
  go_enter Tryz.func100, Tryz.ntmps100
  go_wp2_with fail
  refine HD.out.mono ?_
  rintro e w2 ⟨rfl, w1, hm, rfl⟩
  have hm2 : RpMid w0 g (w.heap.size + 1) (.int .u32 1) (.int .i32 0) ((w1.drew.setCell ⟨g, 0, none⟩ (.int .u32 1)).setCell ⟨g, 1, none⟩ (.int .i32 0)) :=
    (hm.drew.set hg hgh 0 (.int .u32 1) (u' := .int .u32 1) (v' := .int .i32 1) rfl).set hg hgh 1 (.int .i32 0) rfl
  obtain ⟨W2, hW2⟩ : ∃ W2, (w1.drew.setCell ⟨g, 0, none⟩ (.int .u32 1)).setCell ⟨g, 1, none⟩ (.int .i32 0) = W2 := ⟨_, rfl⟩
  rw [hW2] at hm2 ⊢
  clear hm hW2
  obtain ⟨hB2, A, c2, a, b, d, h1, h2, h3, h4, h5, h6⟩ := hm2
  have y3 : W2.cell? ⟨g, 3, none⟩ = some (.iface 251 (.pointer (some ⟨w.heap.size + 1, 0, none⟩))) := hB2.cell 3
  have hHas : Has W2 W2.heap.size A (strCs (trL 3)) := Has.of_own h2
  have HR := Lib.hid (brep_any (w.heap.size + 1) c2 A a b d s hs W2 h1 hHas h3 h4 h5)
  have H6 := Lib.hid h6
  clear h1 h2 h3 h4 h5 h6 hHas
  go_wp2_with fail
  refine HR.out.mono ?_
  rintro e w3 ⟨rfl, hb3⟩
  go_wp2_with fail
  go_ret
  exact R1.mk rfl (H6.out.trans (hb3.mono H6.out.size))
end Go.Proofs.YtnicbhmeigpjkaaGreatDoor
namespace Go.Proofs.YtnicbhmeigpjkaaGreatDoor
open Go.RowKit

def quoB (s : ByteArray) : ByteArray := (⟨#[34]⟩ : ByteArray) ++ bsOf (repL (sb s)) ++ (⟨#[34]⟩ : ByteArray)
theorem bsOf_size (l : List Nat) : (bsOf l).size = l.length := by
  unfold bsOf strOfNums ByteArray.size
  simp
theorem quoB_size (s : ByteArray) : (quoB s).size ≤ 2 * s.size + 2 := by
  unfold quoB
  rw [ByteArray.size_append, ByteArray.size_append, bsOf_size, repL_len]
  have := cntS_le (sb s)
  rw [sb_len] at this ⊢
  show 1 + (s.size + cntS (sb s)) + 1 ≤ _
  omega
set_option maxRecDepth 1000000 in
set_option maxHeartbeats 4000000 in
theorem lquoted_any (s : ByteArray) (hs : s.size ≤ 4294967296) (w : World) : Calls Tryz.prog 74 #[.string s] w (R1 (.string (quoB s)) (Below w.heap.size w)) := by
  have hw : ∃ W1, w.alloc (.cells #[.string ⟨#[92]⟩, .string ⟨#[92, 92]⟩, .string ⟨#[34]⟩, .string ⟨#[92, 34]⟩, .string ⟨#[10]⟩, .string ⟨#[92, 110]⟩] 9) = W1 := ⟨_, rfl⟩
  obtain ⟨W1, hW1⟩ := hw
  have hB : Blk W1 w.heap.size 9 #[.string ⟨#[92]⟩, .string ⟨#[92, 92]⟩, .string ⟨#[34]⟩, .string ⟨#[92, 34]⟩, .string ⟨#[10]⟩, .string ⟨#[92, 110]⟩] := by rw [← hW1]; exact Blk.new _ _ _
  have hb1 : Below w.heap.size w W1 := by rw [← hW1]; exact one_allocP _ _
  have hHas : Has W1 W1.heap.size (some ⟨w.heap.size, 0, none⟩) (strCs rpPairs) := fun _ => by
    refine ⟨_, rfl, hB.lt, fun j u hu => ?_⟩
    rw [show (⟨w.heap.size, 0, none⟩ : Addr).add j = ⟨w.heap.size, j, none⟩ from by unfold Addr.add; split <;> simp_all, hB.cell j]
    rw [← Array.getElem?_toList]
    exact hu
  have HN := Lib.hid (newReplacer_any (some ⟨w.heap.size, 0, none⟩) 6 W1 hHas)
  have HW := Lib.hid hW1
  clear hW1 hB hHas
  go_enter Tryz.func74, Tryz.ntmps74
  go_wp2_with fail
  rw [HW.out]
  refine HN.out.mono ?_
  rintro e w2 ⟨v, rfl, hN⟩
  have hb2 : Below W1.heap.size W1 w2 := by
    obtain ⟨g, o, c, _, _, _, _, _, _, h⟩ := hN
    exact h
  have hRR := rrep_any W1 w2 v hb2 hN s hs
  have hq := quoB_size s
  unfold quoB at hq
  obtain ⟨R, hR⟩ : ∃ R, bsOf (repL (sb s)) = R := ⟨_, rfl⟩
  rw [hR] at hRR hq
  have HQ := Lib.hid hR
  rw [ByteArray.size_append, ByteArray.size_append] at hq
  have hq2 : R.size ≤ 9000000000 := by omega
  have HR := Lib.hid hRR
  clear hq hR hRR
  clear hN
  go_wp2_with fail
  refine HR.out.mono ?_
  rintro e w3 ⟨rfl, hb3⟩
  go_wp2_with fail
  go_ret
  exact R1.mk (by rw [quoB, HQ.out]; rfl) (bnext hb1 hb3)
end Go.Proofs.YtnicbhmeigpjkaaGreatDoor
namespace Go.Proofs.YtnicbhmeigpjkaaGreatDoor
open Go.RowKit

/-- what stands between a name and a value -/
def sgB : Nat → ByteArray
  | 1 => ⟨#[61]⟩
  | 2 => ⟨#[33, 61]⟩
  | 3 => ⟨#[61, 94]⟩
  | 4 => ⟨#[61, 126]⟩
  | _ => ⟨#[]⟩
def SgAt (w : World) : Prop := 1 < w.heap.size ∧ ∀ k, k < 5 → w.cell? ⟨1, k, none⟩ = some (.string (sgB k))
theorem SgAt.next {w w' : World} (h : SgAt w) (hb : Below w.heap.size w w') : SgAt w' := ⟨Nat.lt_of_lt_of_le h.1 hb.size, fun k hk => (hb.cell (p := ⟨1, k, none⟩) h.1).trans (h.2 k hk)⟩
def mtT (x : Mt) : ByteArray := x.nm ++ sgB x.k.toNat ++ quoB x.v
def txtB (L : List Mt) : ByteArray := (⟨#[123]⟩ : ByteArray) ++ (⟨(Lib.join ((L.map mtT).map (·.data.toList)) [44]).toArray⟩ : ByteArray) ++ (⟨#[125]⟩ : ByteArray)
/-- matches that CheckMatch lets by are of this size -/
def MtS (x : Mt) : Prop := 1 ≤ x.k ∧ x.k ≤ 4 ∧ x.nm.size ≤ 20 ∧ x.v.size ≤ 40
theorem mtT_size {x : Mt} (h : MtS x) : (mtT x).size ≤ 104 := by
  unfold mtT
  rw [ByteArray.size_append, ByteArray.size_append]
  have h1 := quoB_size x.v
  have h2 : (sgB x.k.toNat).size ≤ 2 := by
    unfold sgB
    split <;> decide
  obtain ⟨_, _, h3, h4⟩ := h
  omega
theorem joinTail_len : ∀ l : List (List UInt8), (∀ x ∈ l, x.length ≤ 104) → (Lib.joinTail [44] l).length ≤ l.length * 105
  | [], _ => Nat.le_refl _
  | x :: l, h => by
    have ih := joinTail_len l (fun y hy => h y (by simp [hy]))
    have hx := h x (by simp)
    have e : Lib.joinTail [44] (x :: l) = (44 :: x) ++ Lib.joinTail [44] l := by simp [Lib.joinTail]
    rw [e, List.length_append, List.length_cons, List.length_cons]
    omega
theorem joinT_len (L : List Mt) (h : ∀ x ∈ L, MtS x) : (Lib.join ((L.map mtT).map (·.data.toList)) [44]).length ≤ L.length * 105 := by
  cases L with
  | nil => exact Nat.le_refl _
  | cons x l =>
    rw [List.map_cons, List.map_cons, Lib.join_cons, List.length_append, List.length_cons]
    have h1 := joinTail_len ((l.map mtT).map (·.data.toList)) (fun y hy => by
      rw [List.map_map] at hy
      obtain ⟨z, hz, rfl⟩ := List.mem_map.1 hy
      have := mtT_size (h z (by simp [hz]))
      simp only [Function.comp, Array.length_toList]
      exact this)
    rw [List.length_map, List.length_map] at h1
    have h2 : (mtT x).data.toList.length ≤ 104 := by rw [Array.length_toList]; exact mtT_size (h x (by simp))
    omega
theorem keepT {w : World} {g s q : Nat} {t : TypeId} {a b c z : Value} (h : Blk w g t #[a, b, c]) (hs : w.cell? ⟨s, q, none⟩ = some z) : w.cell? ⟨g, 0, none⟩ = some a ∧ w.cell? ⟨g, 1, none⟩ = some b ∧ w.cell? ⟨g, 2, none⟩ = some c ∧ w.cell? ⟨s, q, none⟩ = some z := ⟨h.cell 0, h.cell 1, h.cell 2, hs⟩
theorem strCs_app1T (l : List ByteArray) (x : ByteArray) : strCs (l ++ [x]) = strCs l ++ (#[Value.string x] : Array Value).toList := by simp [strCs, strC]

set_option maxRecDepth 1000000 in
set_option maxHeartbeats 4000000 in
theorem ltext_any (A : Option Addr) (n c : Nat) (L : List Mt) (hn : L.length = n) (hl : n ≤ 10) (w : World) (h : Has w w.heap.size A (mtCs L)) (hL : ∀ e ∈ L, MtS e) (tS : SgAt w) :
    Calls Tryz.prog 47 #[.slice A n c] w (R1 (.string (txtB L)) (Below w.heap.size w)) := by
  have Hn := Lib.hid hn
  have HL := Lib.hid hL
  have Hh := Lib.hid h
  have HS := Lib.hid tS
  obtain ⟨r, hr⟩ : ∃ r, txtB L = r := ⟨_, rfl⟩
  rw [hr]
  have HR := Lib.hid hr
  clear hL h hn tS hr
  have mixed : Tryz.prog.follows .mixedOrders = true := by kernel_rfl
  go_enter Tryz.func47, Tryz.ntmps47
  go_wp2_with fail
  go_loopw [3, 8] (fun ov iv wr => ∃ (k : Nat) (B : Option Addr) (d : Nat), k ≤ n ∧ iv = .int .i64 (k : Nat) ∧ ov = .slice B k d ∧ wr.ownsRow w.heap.size 9 1 (.slice B k d) k (strCs ((L.take k).map mtT)) ∧ Below w.heap.size w wr) (fun _ iv _ => n + 5 - (intOf iv).toNat)
  case atStart => exact ⟨0, none, 0, by omega, rfl, rfl, World.ownsRow_nil _ _ _ _, Below.refl _ _⟩
  case round =>
    obtain ⟨k, B, d, hk, rfl, rfl, hown, hbr⟩ := hrel
    have hbs := hbr.size
    by_cases hlt : (k : Int) < (n : Int)
    · have hkL : k < L.length := by rw [Hn.out]; omega
      obtain ⟨ad, rfl, _, c0⟩ := (Hh.out.next hbr).at (mtCs_0 hkL)
      obtain ⟨ad', e', _, c1⟩ := (Hh.out.next hbr).at (mtCs_1 hkL)
      injection e' with e'
      subst e'
      obtain ⟨ad', e', _, c2⟩ := (Hh.out.next hbr).at (mtCs_2 hkL)
      injection e' with e'
      subst e'
      have c1 := cell_off c1 (by decide)
      have c2 := cell_off c2 (by decide)
      have hms := HL.out _ (at_mem hkL)
      have htk := take_at (l := L) (k := k) hkL
      obtain ⟨x, hx⟩ : ∃ x, at_ L k = x := ⟨_, rfl⟩
      rw [hx] at c0 c1 c2 hms htk
      have hsz := mtT_size hms
      have hqs := quoB_size x.v
      obtain ⟨q, nm, v⟩ := x
      unfold mtT at hsz
      obtain ⟨m1, m2, m3, m4⟩ := hms
      simp only [] at c0 c1 c2 m1 m2 m3 m4 hqs hsz
      obtain ⟨qn, hqn⟩ : ∃ qn : Nat, q = (qn : Int) := ⟨q.toNat, by omega⟩
      subst hqn
      obtain ⟨W1, hW1⟩ : ∃ W1, wr.alloc (.cells #[.int .i64 (qn : Int), .string nm, .string v] 83) = W1 := ⟨_, rfl⟩
      obtain ⟨g, hgs⟩ : ∃ g, wr.heap.size = g := ⟨_, rfl⟩
      have hk1 : Blk W1 g 83 #[.int .i64 (qn : Int), .string nm, .string v] := by rw [← hW1, ← hgs]; exact Blk.new _ _ _
      have hb1 : Below wr.heap.size wr W1 := by rw [← hW1]; exact one_allocP _ _
      have hb01 := bnext hbr hb1
      have hown1 := own_next hown hb1
      have sg := (HS.out.next hb01)
      have y0 : W1.cell? ⟨g, 0, none⟩ = some (.int .i64 (qn : Int)) := hk1.cell 0
      have y1 : W1.cell? ⟨g, 1, none⟩ = some (.string nm) := hk1.cell 1
      have y2 : W1.cell? ⟨g, 2, none⟩ = some (.string v) := hk1.cell 2
      have y3 := sg.2 qn (by omega)
      have hgl := hk1.lt
      have hsl := sg.1
      have HW := Lib.hid hW1
      have HG := Lib.hid hgs
      have HQ := fun w => Lib.hid (lquoted_any v (by omega) w)
      have Hown := Lib.hid hown1
      have hsw : 1 < w.heap.size := HS.out.1
      have hneG : some g ≠ (Value.slice B k d).ownBlock := fun h => by have h2 := (own_blockM hown g h.symm).2; omega
      have HK1 := hk1
      clear hW1 hgs hown hown1 hb1 sg hk1
      obtain ⟨sg, hsg⟩ : ∃ sg, sgB qn = sg := ⟨_, rfl⟩
      obtain ⟨qv, hqv⟩ : ∃ qv, quoB v = qv := ⟨_, rfl⟩
      have hz1 : (nm ++ sg ++ qv).size ≤ 104 := by rw [← hsg, ← hqv]; exact hsz
      rw [ByteArray.size_append, ByteArray.size_append] at hz1
      rw [hsg] at y3
      rw [hqv] at HQ
      have Htk := Lib.hid htk
      have Hsg := Lib.hid hsg
      have Hqv := Lib.hid hqv
      have b1 : (0 : Int) ≤ (qn : Int) := by omega
      have b2 : (qn : Int) < 5 := by omega
      have b3 : ¬ 9223372036854775807 < nm.size + sg.size := by omega
      have b4 : ¬ 9223372036854775807 < (nm ++ sg).size + qv.size := by rw [ByteArray.size_append]; omega
      have b5 : ¬ 9223372036854775807 < nm.size + sg.size + qv.size := by omega
      clear hsg hqv hsz hqs htk
      go_wp2_with fail
      rw [HW.out, HG.out]
      go_wp2_with fail
      go_region_held3 (fun w' => w'.cell? ⟨g, 0, none⟩ = some (.int .i64 (qn : Int)) ∧ w'.cell? ⟨g, 1, none⟩ = some (.string nm) ∧ w'.cell? ⟨g, 2, none⟩ = some (.string v) ∧ w'.cell? ⟨1, qn, none⟩ = some (.string sg))
        (first | exact keepT HK1 y3 | exact keepT hk8 s8 | exact keepT (Blk.alloc hk8 _) ((World.cell?_alloc_lt _ _ ⟨1, qn, none⟩ hl8).trans s8) | exact keepT hk9 s9)
        (first
          | (go_at_call 74
             refine ((HQ _).out).mono ?_
             rintro e9 w8 ⟨rfl, hb8⟩
             have hk8 : Blk w8 g 83 #[.int .i64 (qn : Int), .string nm, .string v] := Blk.next (by exact HK1) hb8
             have s8 : w8.cell? ⟨1, qn, none⟩ = some (.string sg) := (hb8.cell (p := ⟨1, qn, none⟩) (by exact hsl)).trans (by exact y3)
             have hl8 : 1 < w8.heap.size := Nat.lt_of_lt_of_le (by exact hsl) hb8.size
             have hown8 : w8.ownsRow w.heap.size 9 1 (.slice B k d) k (strCs ((L.take k).map mtT)) := own_next (by exact Hown.out) hb8
             have hbel8 : Below w.heap.size w w8 := bnext (below_drewN hb01 1) hb8)
          | (refine step_append1 rfl _ _ _ (by rfl) elStrL (by exact World.ownsRow.alloc hown8 _) (by rfl) (by rfl) (by exact heap_alloc_new _ _) (by rfl) (by intro u hu; simp at hu; subst hu; rfl) (by omega) (by unfold maxLen; omega) (by exact Nat.le_trans hbel8.size (one_allocP _ _).size) ?_
             intro B9 d9 w9 hown9 hgrow9 hbel9
             have hk9 : Blk w9 g 83 #[.int .i64 (qn : Int), .string nm, .string v] := Blk.grown (by exact Blk.alloc hk8 _) hgrow9 hneG
             have s9 : w9.cell? ⟨1, qn, none⟩ = some (.string sg) := (hbel9.cell (p := ⟨1, qn, none⟩) (by exact hsw)).trans ((World.cell?_alloc_lt _ _ ⟨1, qn, none⟩ (by exact hl8)).trans (by exact s8))))
      have hbel09 : Below w.heap.size w w9 := (hbel8.alloc hbel8.size _).trans hbel9
      have hrow : strCs ((L.take (k + 1)).map mtT) = strCs ((L.take k).map mtT) ++ (#[Value.string (nm ++ sg ++ qv)] : Array Value).toList := by
        rw [Htk.out, List.map_append, List.map_cons, List.map_nil, strCs_app1T]
        rw [show mtT ⟨(qn : Int), nm, v⟩ = nm ++ sg ++ qv from by unfold mtT; rw [Int.toNat_natCast, Hsg.out, Hqv.out]]
      have Hrow := Lib.hid hrow
      have Hown9 := Lib.hid hown9
      clear hrow hown9 hgrow9 hbel9 hk9 s9
      go_wp2_with fail
      go_roundw
      case rel => exact ⟨k + 1, B9, d9, by omega, by go_num, rfl, by rw [Hrow.out]; exact Hown9.out, hbel09⟩
      case measure => simp [intOf]; omega
    · have hkn : k = n := by omega
      subst hkn
      rw [List.take_of_length_le (by rw [Hn.out]; omega)] at hown
      have hjl := joinT_len L (fun x hx => HL.out x hx)
      rw [Hn.out] at hjl
      obtain ⟨J, hJ⟩ : ∃ J, (⟨(Lib.join ((L.map mtT).map (·.data.toList)) [44]).toArray⟩ : ByteArray) = J := ⟨_, rfl⟩
      have hJs : J.size ≤ 1100 := by rw [← hJ]; show (Lib.join ((L.map mtT).map (·.data.toList)) [44]).toArray.size ≤ 1100; rw [List.size_toArray]; omega
      have hE : r = (⟨#[123]⟩ : ByteArray) ++ J ++ (⟨#[125]⟩ : ByteArray) := by rw [← HR.out, txtB, hJ]
      have hcall : Calls Tryz.prog 62 #[.slice B k d, .string ⟨#[44]⟩] wr (R1 (.string J) (Below wr.heap.size wr)) := by
        rcases Nat.eq_zero_or_pos k with h0 | h0
        · subst h0
          have hL0 : L = [] := List.length_eq_zero_iff.1 Hn.out
          have hJ0 : J = ⟨#[]⟩ := by rw [← hJ, hL0]; rfl
          rw [hJ0]
          refine (Tryz.strings_Join_none B d ⟨#[44]⟩ wr).mono ?_
          rintro e w' ⟨rfl, rfl⟩
          exact R1.mk rfl (Below.refl _ _)
        · obtain ⟨bk, cap, ev, _, hbk⟩ := hown.form h0
          injection ev with e1 _ e3
          subst e1 e3
          have hLl : (L.map mtT).length = k := by rw [List.length_map, Hn.out]
          have hcap : k ≤ d := by
            rcases hown.2 with ⟨e, _⟩ | ⟨g, cap, cur, e, _, _, h1, _⟩
            · cases e
            · injection e with _ _ e3; omega
          have hh := Tryz.strings_Join bk 0 d (L.map mtT) ⟨#[44]⟩ wr (fun j x hx => by
            rw [Nat.zero_add]
            have := Has.of_own hown
            obtain ⟨ad, e, _, h2⟩ := this.at (strCs_at _ _ _ hx)
            injection e with e
            subst e
            rw [show (⟨bk, 0, none⟩ : Addr).add j = ⟨bk, j, none⟩ from by unfold Addr.add; split <;> simp_all] at h2
            exact h2) hbk (by rw [hLl]; omega) (by rw [hLl]; exact hcap) (by
            have e : (⟨#[44]⟩ : ByteArray).data.toList = [44] := rfl
            rw [e]; omega)
          rw [hLl] at hh
          refine hh.mono ?_
          rintro e w' ⟨rfl, hb⟩
          exact R1.mk (congrArg Value.string hJ) hb
      have HJ := Lib.hid hcall
      have HE := Lib.hid hE
      clear hcall hE hJ hjl hown HR HL Hh HS
      go_wp2_with fail
      refine HJ.out.mono ?_
      rintro e w2 ⟨rfl, hb2⟩
      go_wp2_with fail
      go_ret
      rw [HE.out]
      exact R1.mk rfl (bnext hbr hb2)
end Go.Proofs.YtnicbhmeigpjkaaGreatDoor
namespace Go.Proofs.YtnicbhmeigpjkaaGreatDoor
open Go.RowKit

theorem elMtT : Elem Tryz.prog 24 83 3 40 := Elem.mk' (z := .agg #[.int .i64 0, .string ⟨#[]⟩, .string ⟨#[]⟩]) Tryz.underlying24 (by kernel_rfl) rfl (by decide)
theorem mtCs_app1T (l : List Mt) (x : Mt) : mtCs (l ++ [x]) = mtCs l ++ (#[.int .i64 x.k, .string x.nm, .string x.v] : Array Value).toList := by simp [mtCs, mtC]
/-- a label as a match -/
def asM (x : Lab) : Mt := ⟨1, x.nm, x.v⟩
def MtsP (w : World) (M : List Mt) (v : Value) (w' : World) : Prop :=
  ∃ A c, v = .slice A M.length c ∧ w'.ownsRow w.heap.size 83 3 (.slice A M.length c) M.length (mtCs M) ∧ Below w.heap.size w w'

set_option maxRecDepth 1000000 in
set_option maxHeartbeats 4000000 in
theorem lmatches_any (A : Option Addr) (n c : Nat) (L : List Lab) (hn : L.length = n) (hl : n ≤ 1000000) (w : World) (h : Has w w.heap.size A (labCs L)) :
    Calls Tryz.prog 48 #[.slice A n c] w (RV (MtsP w (L.map asM))) := by
  have Hn := Lib.hid hn
  have Hh := Lib.hid h
  clear h hn
  go_enter Tryz.func48, Tryz.ntmps48
  go_wp2_with fail
  go_loopw [3, 8] (fun ov iv wr => ∃ (k : Nat) (B : Option Addr) (d : Nat), k ≤ n ∧ iv = .int .i64 (k : Nat) ∧ ov = .slice B k d ∧ wr.ownsRow w.heap.size 83 3 (.slice B k d) k (mtCs ((L.take k).map asM)) ∧ Below w.heap.size w wr) (fun _ iv _ => n + 5 - (intOf iv).toNat)
  case atStart => exact ⟨0, none, 0, by omega, rfl, rfl, World.ownsRow_nil _ _ _ _, Below.refl _ _⟩
  case round =>
    obtain ⟨k, B, d, hk, rfl, rfl, hown, hbr⟩ := hrel
    have hbs := hbr.size
    by_cases hlt : (k : Int) < (n : Int)
    · have hkL : k < L.length := by rw [Hn.out]; omega
      obtain ⟨ad, rfl, _, c0⟩ := (Hh.out.next hbr).at (labCs_0 hkL)
      obtain ⟨ad', e', _, c1⟩ := (Hh.out.next hbr).at (labCs_1 hkL)
      injection e' with e'
      subst e'
      have c1 := cell_off c1 (by decide)
      have htk := take_at (l := L) (k := k) hkL
      obtain ⟨x, hx⟩ : ∃ x, at_ L k = x := ⟨_, rfl⟩
      rw [hx] at c0 c1 htk
      obtain ⟨nm, v⟩ := x
      simp only [] at c0 c1
      have Htk := Lib.hid htk
      have hrow : mtCs ((L.take (k + 1)).map asM) = mtCs ((L.take k).map asM) ++ (#[.int .i64 1, .string nm, .string v] : Array Value).toList := by
        rw [Htk.out, List.map_append, List.map_cons, List.map_nil, mtCs_app1T]; rfl
      have Hrow := Lib.hid hrow
      have hb2 := (hbr.alloc hbs (.cells #[.string nm, .string v] 78))
      clear htk hrow
      go_wp2_with (at_builtin; refine wpList_append1 rfl _ _ _ rfl elMtT (v := .slice B k d) rfl (hown.alloc _) (g := wr.heap.size + 1) rfl (by simp) rfl ?_ ?c1 ?c2 ?c3 ?c4; intro B9 d9 w9 hown9 hgrow9 hbel9)
      case c1 => first | (intro u hu; simp at hu; rcases hu with rfl | rfl | rfl <;> rfl) | exact ⟨rfl, rfl, rfl⟩ | rfl
      case c2 => omega
      case c3 => unfold maxLen; omega
      case c4 => omega
      have hbel09 : Below w.heap.size w w9 := hb2.trans hbel9
      have Hown9 := Lib.hid hown9
      clear hown9 hgrow9 hbel9
      go_roundw
      case rel => exact ⟨k + 1, B9, d9, by omega, by go_num, rfl, by rw [Hrow.out]; exact Hown9.out, hbel09⟩
      case measure => simp [intOf]; omega
    · have hkn : k = n := by omega
      subst hkn
      rw [List.take_of_length_le (by rw [Hn.out]; omega)] at hown
      have Hown := Lib.hid hown
      clear hown Hh
      go_wp2_with fail
      go_ret
      refine RV.mk ⟨B, d, ?_, ?_, hbr⟩
      · rw [List.length_map, Hn.out]; rfl
      · rw [List.length_map, Hn.out]; exact Hown.out

/-- what Text tells -/
def textN (L : List Lab) : ByteArray × Int := if chkL L ≠ 0 then (⟨#[]⟩, chkL L) else (txtB (L.map asM), 0)
def mtextN (L : List Mt) : ByteArray × Int := if chkM L ≠ 0 then (⟨#[]⟩, chkM L) else (txtB L, 0)
theorem mtS_of {L : List Mt} (h : chkM L = 0) : L.length ≤ 10 ∧ ∀ x ∈ L, MtS x := by
  obtain ⟨h1, h2⟩ := chkM_iff.1 h
  refine ⟨h1, fun x hx => ?_⟩
  have := h2 x hx
  unfold mtErr at this
  split at this
  · cases this
  · split at this
    · cases this
    · split at this
      · cases this
      · rename_i a b c
        have hn : nameOk x.nm = true := by simpa using b
        exact ⟨by omega, by omega, nameOk_le hn, by omega⟩
theorem labS_of {L : List Lab} (h : chkL L = 0) : L.length ≤ 10 ∧ ∀ x ∈ L.map asM, MtS x := by
  obtain ⟨h1, h2, _⟩ := chkL_iff.1 h
  refine ⟨h1, fun x hx => ?_⟩
  obtain ⟨y, hy, rfl⟩ := List.mem_map.1 hx
  obtain ⟨h3, h4⟩ := h2 y hy
  exact ⟨Int.le_refl 1, show (1 : Int) ≤ 4 by decide, nameOk_le h3, h4⟩
set_option maxRecDepth 1000000 in
set_option maxHeartbeats 4000000 in
theorem lmtext_any (A : Option Addr) (n c : Nat) (L : List Mt) (hn : L.length = n) (hl : n ≤ maxLen) (w : World) (h : Has w w.heap.size A (mtCs L)) (hL : ∀ e ∈ L, MtOk e) (tS : SgAt w) :
    Calls Tryz.prog 64 #[.slice A n c] w (R1 (.tuple #[.string (mtextN L).1, .int .i64 (mtextN L).2]) (Below w.heap.size w)) := by
  have HC := Lib.hid (mcheck_any A n c L hn hl w h hL)
  obtain ⟨r, hr⟩ : ∃ r, chkM L = r := ⟨_, rfl⟩
  rw [hr] at HC
  have HT := fun (hz : r = 0) (w1 : World) (hb : Below w.heap.size w w1) => Lib.hid (ltext_any A n c L hn (by have := (mtS_of (hr.trans hz)).1; omega) w1 (h.next hb) (mtS_of (hr.trans hz)).2 (tS.next hb))
  have HE := Lib.hid (show mtextN L = if r ≠ 0 then (⟨#[]⟩, r) else (txtB L, 0) by unfold mtextN; rw [hr])
  clear h hL hr tS hn
  go_enter Tryz.func64, Tryz.ntmps64
  go_wp2_with fail
  refine HC.out.mono ?_
  rintro e w1 ⟨rfl, hb1⟩
  by_cases h0 : r = 0
  · have HT2 := HT h0 w1 hb1
    clear HT
    have E := Lib.hid (show mtextN L = (txtB L, 0) by rw [HE.out, if_neg (by simpa using h0)])
    subst h0
    clear HE
    go_wp2_with fail
    refine HT2.out.mono ?_
    rintro e w2 ⟨rfl, hb2⟩
    go_wp2_with fail
    go_ret2
    rw [E.out]
    exact R1.mk rfl (bnext hb1 hb2)
  · have E := Lib.hid (show mtextN L = (⟨#[]⟩, r) by rw [HE.out, if_pos h0])
    clear HE HT
    have h0' : (r == 0) = false := by simpa using h0
    go_wp2_with fail
    go_ret2
    rw [E.out]
    exact R1.mk rfl hb1
set_option maxRecDepth 1000000 in
set_option maxHeartbeats 4000000 in
theorem lbtext_any (A : Option Addr) (n c : Nat) (L : List Lab) (hn : L.length = n) (hl : n ≤ maxLen) (w : World) (h : Has w w.heap.size A (labCs L)) (hL : ∀ e ∈ L, LabOk e) (tS : SgAt w) :
    Calls Tryz.prog 27 #[.slice A n c] w (R1 (.tuple #[.string (textN L).1, .int .i64 (textN L).2]) (Below w.heap.size w)) := by
  have HC := Lib.hid (lcheck_any A n c L hn hl w h hL)
  obtain ⟨r, hr⟩ : ∃ r, chkL L = r := ⟨_, rfl⟩
  rw [hr] at HC
  obtain ⟨M, hM⟩ : ∃ M, L.map asM = M := ⟨_, rfl⟩
  have hMl : M.length = L.length := by rw [← hM, List.length_map]
  have HM := fun (hz : r = 0) (w1 : World) (hb : Below w.heap.size w w1) => Lib.hid (lmatches_any A n c L hn (by have := (labS_of (hr.trans hz)).1; omega) w1 (h.next hb))
  rw [hM] at HM
  have HL2 : ∀ hz : r = 0, L.length ≤ 10 ∧ ∀ x ∈ M, MtS x := fun hz => by rw [← hM]; exact labS_of (hr.trans hz)
  have HE := Lib.hid (show textN L = if r ≠ 0 then (⟨#[]⟩, r) else (txtB M, 0) by unfold textN; rw [hr, hM])
  have HS := Lib.hid tS
  clear h hL hr tS hn hM
  go_enter Tryz.func27, Tryz.ntmps27
  go_wp2_with fail
  refine HC.out.mono ?_
  rintro e w1 ⟨rfl, hb1⟩
  by_cases h0 : r = 0
  · have HM2 := HM h0 w1 hb1
    clear HM
    obtain ⟨l1, l2⟩ := HL2 h0
    have L2 := Lib.hid l2
    have E := Lib.hid (show textN L = (txtB M, 0) by rw [HE.out, if_neg (by simpa using h0)])
    subst h0
    clear HE HL2 l2
    go_wp2_with fail
    refine HM2.out.mono ?_
    rintro e w2 ⟨v, rfl, A2, c2, rfl, hown2, hb2⟩
    have HT := Lib.hid (ltext_any A2 M.length c2 M rfl (by rw [hMl]; exact l1) w2 (Has.of_own hown2) L2.out (HS.out.next (bnext hb1 hb2)))
    clear hown2 hMl
    go_wp2_with fail
    refine HT.out.mono ?_
    rintro e w3 ⟨rfl, hb3⟩
    go_wp2_with fail
    go_ret2
    rw [E.out]
    exact R1.mk rfl (bnext (bnext hb1 hb2) hb3)
  · have E := Lib.hid (show textN L = (⟨#[]⟩, r) by rw [HE.out, if_pos h0])
    clear HE HM HL2
    have h0' : (r == 0) = false := by simpa using h0
    go_wp2_with fail
    go_ret2
    rw [E.out]
    exact R1.mk rfl hb1
end Go.Proofs.YtnicbhmeigpjkaaGreatDoor
namespace Go.Proofs.YtnicbhmeigpjkaaGreatDoor
open Go.RowKit

/-- an expression, with where its rows lie -/
inductive ExE
  | mk (kind n w : Int) (ma : Option Addr) (mc : Nat) (m : List Mt) (ba : Option Addr) (bc : Nat) (b : List ByteArray) (xa : Option Addr) (xc : Nat) (x : List ExE)
namespace ExE
def kind : ExE → Int | mk k _ _ _ _ _ _ _ _ _ _ _ => k
def n : ExE → Int | mk _ n _ _ _ _ _ _ _ _ _ _ => n
def w : ExE → Int | mk _ _ w _ _ _ _ _ _ _ _ _ => w
def ma : ExE → Option Addr | mk _ _ _ a _ _ _ _ _ _ _ _ => a
def mc : ExE → Nat | mk _ _ _ _ c _ _ _ _ _ _ _ => c
def m : ExE → List Mt | mk _ _ _ _ _ m _ _ _ _ _ _ => m
def ba : ExE → Option Addr | mk _ _ _ _ _ _ a _ _ _ _ _ => a
def bc : ExE → Nat | mk _ _ _ _ _ _ _ c _ _ _ _ => c
def b : ExE → List ByteArray | mk _ _ _ _ _ _ _ _ b _ _ _ => b
def xa : ExE → Option Addr | mk _ _ _ _ _ _ _ _ _ a _ _ => a
def xc : ExE → Nat | mk _ _ _ _ _ _ _ _ _ _ c _ => c
def x : ExE → List ExE | mk _ _ _ _ _ _ _ _ _ _ _ x => x
theorem induct {P : ExE → Prop} (h : ∀ e : ExE, (∀ y ∈ e.x, P y) → P e) : ∀ e, P e
  | mk k n w ma mc m ba bc b xa xc x => h _ fun y _hy => induct h y
termination_by e => SizeOf.sizeOf e
decreasing_by
  have := List.sizeOf_lt_of_mem _hy
  simp only [mk.sizeOf_spec]
  simp only [ExE.x] at this
  omega
end ExE
mutual
def ExE.cnt : ExE → Nat | .mk _ _ _ _ _ _ _ _ _ _ _ x => 1 + ExE.cntL x
def ExE.cntL : List ExE → Nat | [] => 0 | y :: ys => y.cnt + ExE.cntL ys
end
theorem ExE.cnt_eq (e : ExE) : e.cnt = 1 + ExE.cntL e.x := by cases e; simp only [ExE.cnt, ExE.x]
def partsN (k : Int) : Int := if k = 1 ∨ k = 2 then 0 else if k = 3 ∨ k = 4 ∨ k = 5 then 1 else if k = 6 ∨ k = 7 ∨ k = 8 then 2 else -1
def byL (b : List ByteArray) : List Lab := b.map fun s => ⟨s, noS⟩
def badX (k n w : Int) (ml bl xl : Nat) : Prop :=
  partsN k < 0 ∨ (xl : Int) ≠ partsN k ∨ (k ≠ 1 ∧ n ≠ 0) ∨ (k ≠ 2 ∧ (w ≠ 0 ∨ 0 < ml)) ∨ (partsN k ≠ 1 ∧ 0 < bl) ∨ (k = 2 ∧ (w < 1 ∨ 1099511627776 < w))
instance (k n w : Int) (ml bl xl : Nat) : Decidable (badX k n w ml bl xl) := by unfold badX; exact inferInstance
def ownX (k n w : Int) (m : List Mt) (b : List ByteArray) (xl : Nat) : Int :=
  if badX k n w m.length b.length xl then 1 else fstE (chkM m) (chkL (byL b))
mutual
def ExE.chk : ExE → Int | .mk k n w _ _ m _ _ b _ _ x => fstE (ownX k n w m b x.length) (ExE.chkL x)
def ExE.chkL : List ExE → Int | [] => 0 | y :: ys => fstE y.chk (ExE.chkL ys)
end
theorem ExE.chk_eq (e : ExE) : e.chk = fstE (ownX e.kind e.n e.w e.m e.b e.x.length) (ExE.chkL e.x) := by cases e; simp only [ExE.chk, ExE.kind, ExE.n, ExE.w, ExE.m, ExE.b, ExE.x]
def ExE.chkT (e : ExE) : Int := if 100 < e.cnt then 2 else e.chk

/-- a row: labels, a number -/
abbrev RowN := List Lab × Int
def txK (L : List Lab) : ByteArray := txtB (L.map asM)
def kB (r : RowN) : List UInt8 := (txK r.1).data.toList
def sortR (l : List RowN) : List RowN := l.mergeSort fun a b => decide (kB a ≤ kB b)
def w64 (a : Int) : Int := IntKind.i64.wrap a
def selN (all : List (List Lab × List Smp)) (now : Int) (m : List Mt) (w : Int) : List RowN :=
  all.filterMap fun s => if fitsL s.1 m = true then (rangeN s.2 (now - w + 1) (now + 1)).getLast?.map fun x => (s.1, x.v) else none
def inB (b : List ByteArray) (s : ByteArray) : Bool := b.any fun x => decide (x = s)
theorem inB_iff {b : List ByteArray} {s : ByteArray} : inB b s = true ↔ s ∈ b := by
  unfold inB
  rw [List.any_eq_true]
  exact ⟨fun ⟨x, hx, e⟩ => by rw [← of_decide_eq_true e]; exact hx, fun h => ⟨s, h, decide_eq_true rfl⟩⟩
def labsBy (b : List ByteArray) (L : List Lab) : List Lab := L.filter fun e => inB b e.nm
def opN (k u v : Int) : Int := if k = 4 then max u v else w64 (u + v)
def addG (k : Int) (L : List Lab) (v : Int) : List RowN → List RowN
  | [] => [(L, v)]
  | o :: out => if o.1 = L then (o.1, opN k o.2 v) :: out else o :: addG k L v out
def valG (k : Int) (v : Int) : Int := if k = 5 then 1 else v
def groupN (k : Int) (b : List ByteArray) (rows : List RowN) : List RowN := rows.foldl (fun out y => addG k (labsBy b y.1) (valG k y.2) out) []
def bothN (k a b : Int) : Int := if k = 6 then w64 (a + b) else if k = 7 then w64 (a - b) else w64 (a * b)
def singleN (l : List RowN) : Bool := decide (l.length = 1) && decide ((at_ l 0).1 = [])
def pairR (k : Int) (l m : List RowN) (y : RowN) : List RowN :=
  m.flatMap fun z => if singleN m then [(y.1, bothN k y.2 z.2)] else if singleN l then [(z.1, bothN k y.2 z.2)] else if y.1 = z.1 then [(y.1, bothN k y.2 z.2)] else []
def pairN (k : Int) (l m : List RowN) : List RowN := l.flatMap (pairR k l m)
def rawN (all : List (List Lab × List Smp)) (now k n w : Int) (m : List Mt) (b : List ByteArray) (rs : List (List RowN)) : List RowN :=
  if partsN k = 1 then groupN k b (at_ rs 0) else if partsN k = 2 then pairN k (at_ rs 0) (at_ rs 1) else if k = 1 then [([], n)] else selN all now m w
mutual
def ExE.ev (all : List (List Lab × List Smp)) (now : Int) : ExE → List RowN
  | .mk k n w _ _ m _ _ b _ _ x => sortR (rawN all now k n w m b (ExE.evL all now x))
def ExE.evL (all : List (List Lab × List Smp)) (now : Int) : List ExE → List (List RowN)
  | [] => []
  | y :: ys => y.ev all now :: ExE.evL all now ys
end
theorem ExE.ev_eq (all : List (List Lab × List Smp)) (now : Int) (e : ExE) : e.ev all now = sortR (rawN all now e.kind e.n e.w e.m e.b (ExE.evL all now e.x)) := by
  cases e; simp only [ExE.ev, ExE.kind, ExE.n, ExE.w, ExE.m, ExE.b, ExE.x]
theorem ExE.evL_map (all : List (List Lab × List Smp)) (now : Int) (x : List ExE) : ExE.evL all now x = x.map (ExE.ev all now) := by
  induction x with
  | nil => simp only [ExE.evL, List.map_nil]
  | cons y x ih => simp only [ExE.evL, List.map_cons, ih]
def serErr (s : List Lab × List Smp) : Int := fstE (chkL s.1) (chkS s.2)
def sersErr : List (List Lab × List Smp) → Int
  | [] => 0
  | s :: l => fstE (serErr s) (sersErr l)
def evalN (e : ExE) (all : List (List Lab × List Smp)) (now : Int) : List RowN × Int :=
  if e.chkT ≠ 0 then ([], e.chkT) else if 200 < all.length then ([], 2) else if sersErr all ≠ 0 then ([], sersErr all)
  else if ¬ (all.map (·.1)).Nodup then ([], 8) else if now < -1152921504606846976 ∨ 1152921504606846976 < now then ([], 6) else (e.ev all now, 0)

/-- what holds of rows -/
structure RowsOk (l : List RowN) : Prop where
  ok : ∀ r ∈ l, _root_.Go.Proofs.YtnicbhmeigpjkaaGreatDoor.chkL r.1 = 0
  num : ∀ r ∈ l, in64 r.2
  one : (l.map (·.1)).Nodup
def TxInj : Prop := ∀ L M : List Lab, chkL L = 0 → chkL M = 0 → txK L = txK M → L = M
theorem kB_inj (hi : TxInj) {l : List RowN} (h : RowsOk l) {a b : RowN} (ha : a ∈ l) (hb : b ∈ l) (e : kB a = kB b) : a.1 = b.1 :=
  hi _ _ (h.ok _ ha) (h.ok _ hb) (ByteArray.ext (Array.ext' e))
theorem row_eq {l : List RowN} (h : (l.map (·.1)).Nodup) {a b : RowN} (ha : a ∈ l) (hb : b ∈ l) (e : a.1 = b.1) : a = b := by
  induction l with
  | nil => cases ha
  | cons x l ih =>
    rw [List.map_cons, List.nodup_cons] at h
    rcases List.mem_cons.1 ha with h1 | h1 <;> rcases List.mem_cons.1 hb with h2 | h2
    · rw [h1, h2]
    · exact absurd (by rw [← h1, e]; exact List.mem_map_of_mem h2) h.1
    · exact absurd (by rw [← h2, ← e]; exact List.mem_map_of_mem h1) h.1
    · exact ih h.2 h1 h2
theorem sortR_perm (l : List RowN) : (sortR l).Perm l := List.mergeSort_perm _ _
theorem sortR_len (l : List RowN) : (sortR l).length = l.length := (sortR_perm l).length_eq
theorem sortR_mem {l : List RowN} {r : RowN} : r ∈ sortR l ↔ r ∈ l := (sortR_perm l).mem_iff
def UpR (l : List RowN) : Prop := l.Pairwise fun a b => kB a ≤ kB b
theorem sortR_up (l : List RowN) : UpR (sortR l) :=
  (List.pairwise_mergeSort (le := fun a b : RowN => decide (kB a ≤ kB b)) (fun _ _ _ h1 h2 => by simp only [decide_eq_true_eq] at *; exact List.le_trans h1 h2) (fun a b => by simp only [Bool.or_eq_true, decide_eq_true_eq]; exact List.le_total (kB a) (kB b)) l).imp (fun h => of_decide_eq_true h)
theorem RowsOk.perm {l m : List RowN} (h : RowsOk l) (p : m.Perm l) : RowsOk m :=
  ⟨fun r hr => h.ok r (p.mem_iff.1 hr), fun r hr => h.num r (p.mem_iff.1 hr), ((p.map (·.1)).nodup_iff).2 h.one⟩
theorem up_unique (hi : TxInj) {l m : List RowN} (h : RowsOk l) (p : m.Perm l) (hl : UpR l) (hm : UpR m) : m = l :=
  List.Perm.eq_of_pairwise (fun _ _ ha hb h1 h2 => row_eq h.one (p.mem_iff.1 ha) hb (kB_inj hi h (p.mem_iff.1 ha) hb (List.le_antisymm h1 h2))) hm hl p
theorem sortR_of (hi : TxInj) {l m : List RowN} (h : RowsOk l) (p : m.Perm l) (hm : UpR m) : m = sortR l :=
  up_unique hi (h.perm (sortR_perm l)) (p.trans (sortR_perm l).symm) (sortR_up l) hm
theorem rows_ext (hi : TxInj) {l m : List RowN} (h : RowsOk l) (k : RowsOk m) (hl : UpR l) (hm : UpR m) (he : ∀ r, r ∈ l ↔ r ∈ m) : l = m := by
  refine up_unique hi k ((List.perm_ext_iff_of_nodup ?_ ?_).2 he) hm hl
  · exact (List.pairwise_map.1 h.one).imp fun h e => h (by rw [e])
  · exact (List.pairwise_map.1 k.one).imp fun h e => h (by rw [e])
end Go.Proofs.YtnicbhmeigpjkaaGreatDoor
namespace Go.Proofs.YtnicbhmeigpjkaaGreatDoor
open Go.RowKit

theorem w64_in (a : Int) : in64 (w64 a) := by
  unfold w64 in64
  rw [IntKind.wrap_i64]
  omega
theorem w64_of {a : Int} (h : in64 a) : w64 a = a := IntWalk.i64_in _ h
theorem RowsOk.nil : RowsOk [] := ⟨(fun _ h => by cases h), (fun _ h => by cases h), List.nodup_nil⟩
theorem labsBy_sub (b : List ByteArray) (L : List Lab) : (labsBy b L).Sublist L := List.filter_sublist
theorem chkL_sub {L M : List Lab} (h : chkL L = 0) (hs : M.Sublist L) : chkL M = 0 := by
  obtain ⟨h1, h2, h3⟩ := chkL_iff.1 h
  exact chkL_iff.2 ⟨Nat.le_trans hs.length_le h1, fun x hx => h2 x (hs.subset hx), h3.sublist (hs.map _)⟩
theorem chkL_by {L : List Lab} (h : chkL L = 0) (b : List ByteArray) : chkL (labsBy b L) = 0 := chkL_sub h (labsBy_sub b L)
theorem addG_keys (k : Int) (L : List Lab) (v : Int) (out : List RowN) : (addG k L v out).map (·.1) = if L ∈ out.map (·.1) then out.map (·.1) else out.map (·.1) ++ [L] := by
  induction out with
  | nil => simp [addG]
  | cons o out ih =>
    unfold addG
    by_cases h : o.1 = L
    · rw [if_pos h, if_pos (by rw [List.map_cons, h]; exact List.mem_cons_self)]
      rfl
    · rw [if_neg h, List.map_cons, ih]
      by_cases h2 : L ∈ out.map (·.1)
      · rw [if_pos h2, if_pos (by rw [List.map_cons]; exact List.mem_cons_of_mem _ h2)]
        rfl
      · rw [if_neg h2, if_neg (by rw [List.map_cons, List.mem_cons]; exact fun e => e.elim (fun e => h e.symm) h2)]
        rfl
theorem addG_mem {k : Int} {L : List Lab} {v : Int} {out : List RowN} {r : RowN} (h : r ∈ addG k L v out) : r ∈ out ∨ r = (L, v) ∨ ∃ o ∈ out, r = (o.1, opN k o.2 v) := by
  induction out with
  | nil =>
    unfold addG at h
    exact .inr (.inl (List.mem_singleton.1 h))
  | cons o out ih =>
    unfold addG at h
    by_cases h2 : o.1 = L
    · rw [if_pos h2] at h
      rcases List.mem_cons.1 h with e | e
      · exact .inr (.inr ⟨o, List.mem_cons_self, e⟩)
      · exact .inl (List.mem_cons_of_mem _ e)
    · rw [if_neg h2] at h
      rcases List.mem_cons.1 h with e | e
      · exact .inl (by rw [e]; exact List.mem_cons_self)
      · rcases ih e with e | e | ⟨q, hq, e⟩
        · exact .inl (List.mem_cons_of_mem _ e)
        · exact .inr (.inl e)
        · exact .inr (.inr ⟨q, List.mem_cons_of_mem _ hq, e⟩)
theorem opN_in {k u v : Int} (hu : in64 u) (hv : in64 v) : in64 (opN k u v) := by
  unfold opN
  split
  · unfold in64 at *; omega
  · exact w64_in _
theorem RowsOk.addG {out : List RowN} (h : RowsOk out) {k : Int} {L : List Lab} {v : Int} (hL : chkL L = 0) (hv : in64 v) : RowsOk (addG k L v out) := by
  refine ⟨fun r hr => ?_, fun r hr => ?_, ?_⟩
  · rcases addG_mem hr with e | e | ⟨o, ho, e⟩
    · exact h.ok r e
    · rw [e]; exact hL
    · rw [e]; exact h.ok o ho
  · rcases addG_mem hr with e | e | ⟨o, ho, e⟩
    · exact h.num r e
    · rw [e]; exact hv
    · rw [e]; exact opN_in (h.num o ho) hv
  · rw [addG_keys]
    split
    · exact h.one
    · rename_i h2
      exact List.nodup_append.2 ⟨h.one, by simp, fun a ha c hc e => by simp at hc; rw [e, hc] at ha; exact h2 ha⟩
theorem valG_in {k v : Int} (h : in64 v) : in64 (valG k v) := by
  unfold valG
  split
  · unfold in64; omega
  · exact h
theorem groupN_snoc (k : Int) (b : List ByteArray) (rows : List RowN) (y : RowN) : groupN k b (rows ++ [y]) = _root_.Go.Proofs.YtnicbhmeigpjkaaGreatDoor.addG k (labsBy b y.1) (valG k y.2) (groupN k b rows) := by
  unfold groupN
  rw [List.foldl_append]
  rfl
theorem RowsOk.group_go {k : Int} {b : List ByteArray} : ∀ (rows out : List RowN), (∀ r ∈ rows, chkL r.1 = 0 ∧ in64 r.2) → RowsOk out → RowsOk (rows.foldl (fun out y => _root_.Go.Proofs.YtnicbhmeigpjkaaGreatDoor.addG k (labsBy b y.1) (valG k y.2) out) out)
  | [], _, _, h => h
  | y :: rows, _, hr, h => RowsOk.group_go rows _ (fun r h => hr r (List.mem_cons_of_mem _ h)) (h.addG (chkL_by (hr y List.mem_cons_self).1 b) (valG_in (hr y List.mem_cons_self).2))
theorem RowsOk.group {rows : List RowN} (h : RowsOk rows) (k : Int) (b : List ByteArray) : RowsOk (groupN k b rows) := RowsOk.group_go rows [] (fun r hr => ⟨h.ok r hr, h.num r hr⟩) RowsOk.nil
theorem bothN_in (k a b : Int) : in64 (bothN k a b) := by
  unfold bothN
  split
  · exact w64_in _
  · split <;> exact w64_in _
theorem single_eq {l : List RowN} (h : singleN l = true) : ∃ v, l = [([], v)] := by
  unfold singleN at h
  simp only [Bool.and_eq_true, decide_eq_true_eq] at h
  obtain ⟨x, rfl⟩ := List.length_eq_one_iff.1 h.1
  have h2 : x.1 = [] := h.2
  exact ⟨x.2, by rw [← h2]⟩
theorem pairR_same {k : Int} {l m : List RowN} {y r : RowN} (h : r ∈ pairR k l m y) : in64 r.2 ∧ (r.1 = y.1 ∨ (singleN m = false ∧ singleN l = true ∧ ∃ z ∈ m, r.1 = z.1)) := by
  unfold pairR at h
  obtain ⟨z, hz, hr⟩ := List.mem_flatMap.1 h
  cases hm : singleN m with
  | true =>
    rw [hm, if_pos rfl] at hr
    rw [List.mem_singleton.1 hr]
    exact ⟨bothN_in _ _ _, .inl rfl⟩
  | false =>
    rw [hm, if_neg (by decide)] at hr
    cases hl : singleN l with
    | true =>
      rw [hl, if_pos rfl] at hr
      rw [List.mem_singleton.1 hr]
      exact ⟨bothN_in _ _ _, .inr ⟨rfl, rfl, z, hz, rfl⟩⟩
    | false =>
      rw [hl, if_neg (by decide)] at hr
      split at hr
      · rw [List.mem_singleton.1 hr]
        exact ⟨bothN_in _ _ _, .inl rfl⟩
      · cases hr
theorem match_one {k : Int} {y : RowN} : ∀ {m : List RowN}, (m.map (·.1)).Nodup → (m.flatMap fun z => if y.1 = z.1 then [(y.1, bothN k y.2 z.2)] else []).length ≤ 1
  | [], _ => by simp
  | z :: m, h => by
    rw [List.map_cons, List.nodup_cons] at h
    rw [List.flatMap_cons, List.length_append]
    have ih := match_one (k := k) (y := y) h.2
    by_cases e : y.1 = z.1
    · rw [if_pos e]
      have : (m.flatMap fun z => if y.1 = z.1 then [(y.1, bothN k y.2 z.2)] else []) = [] := by
        rw [List.flatMap_eq_nil_iff]
        intro q hq
        rw [if_neg]
        intro e2
        exact h.1 (by rw [← e, e2]; exact List.mem_map_of_mem hq)
      rw [this]
      simp
    · rw [if_neg e]
      simpa using ih
theorem nodup_short {α : Type} {l : List α} (h : l.length ≤ 1) : l.Nodup := by
  match l, h with
  | [], _ => exact List.nodup_nil
  | [a], _ => simp
/-- rows of each of l, no two alike, none from two -/
theorem nodup_flat {α β : Type} {f : α → List β} {g : β → List Lab} {key : α → List Lab} {l : List α} (hl : (l.map key).Nodup) (h1 : ∀ y ∈ l, (f y).length ≤ 1) (h2 : ∀ y ∈ l, ∀ r ∈ f y, g r = key y) : ((l.flatMap f).map g).Nodup := by
  induction l with
  | nil => simp
  | cons y l ih =>
    rw [List.map_cons, List.nodup_cons] at hl
    rw [List.flatMap_cons, List.map_append]
    refine List.nodup_append.2 ⟨nodup_short (by rw [List.length_map]; exact h1 y List.mem_cons_self), ih hl.2 (fun q hq => h1 q (List.mem_cons_of_mem _ hq)) (fun q hq => h2 q (List.mem_cons_of_mem _ hq)), fun a ha c hc e => ?_⟩
    obtain ⟨r, hr, e1⟩ := List.mem_map.1 ha
    obtain ⟨s, hs, e2⟩ := List.mem_map.1 hc
    obtain ⟨q, hq, hs⟩ := List.mem_flatMap.1 hs
    refine hl.1 (List.mem_map.2 ⟨q, hq, ?_⟩)
    rw [← h2 q (List.mem_cons_of_mem _ hq) s hs, e2, ← e, ← e1, h2 y List.mem_cons_self r hr]
theorem RowsOk.pair {l m : List RowN} (h : RowsOk l) (h' : RowsOk m) (k : Int) : RowsOk (pairN k l m) := by
  refine ⟨fun r hr => ?_, fun r hr => ?_, ?_⟩
  · obtain ⟨y, hy, hr⟩ := List.mem_flatMap.1 hr
    rcases (pairR_same hr).2 with e | ⟨_, _, z, hz, e⟩
    · rw [e]; exact h.ok y hy
    · rw [e]; exact h'.ok z hz
  · obtain ⟨y, hy, hr⟩ := List.mem_flatMap.1 hr
    exact (pairR_same hr).1
  · cases hm : singleN m with
    | true =>
      obtain ⟨v, rfl⟩ := single_eq hm
      refine nodup_flat (key := (·.1)) h.one (fun y _ => ?_) (fun y _ r hr => ?_)
      · unfold pairR
        rw [hm]
        simp
      · rcases (pairR_same hr).2 with e | ⟨e, _⟩
        · exact e
        · rw [hm] at e; cases e
    | false =>
      cases hl : singleN l with
      | true =>
        obtain ⟨v, rfl⟩ := single_eq hl
        have : pairN k [([], v)] m = m.flatMap fun z => [(z.1, bothN k v z.2)] := by
          unfold pairN pairR
          rw [hm, hl]
          simp
        rw [this]
        refine nodup_flat (key := (·.1)) h'.one (fun y _ => by simp) (fun y _ r hr => ?_)
        rw [List.mem_singleton.1 hr]
      | false =>
        refine nodup_flat (key := (·.1)) h.one (fun y _ => ?_) (fun y _ r hr => ?_)
        · unfold pairR
          rw [hm, hl]
          simp only [Bool.false_eq_true, if_false]
          exact match_one h'.one
        · rcases (pairR_same hr).2 with e | ⟨_, e, _⟩
          · exact e
          · rw [hl] at e; cases e
/-- what Eval has looked at before it evaluates -/
structure AllOk (all : List (List Lab × List Smp)) : Prop where
  lab : ∀ s ∈ all, chkL s.1 = 0
  smp : ∀ s ∈ all, chkS s.2 = 0
  num : ∀ s ∈ all, ∀ x ∈ s.2, in64 x.v
  one : (all.map (·.1)).Nodup
theorem range_sub (l : List Smp) (a b : Int) : (rangeN l a b).Sublist l := by
  unfold rangeN
  split
  · exact List.nil_sublist _
  · exact List.filter_sublist
theorem RowsOk.sel {all : List (List Lab × List Smp)} (h : AllOk all) (now : Int) (m : List Mt) (w : Int) : RowsOk (selN all now m w) := by
  have hone : ∀ s ∈ all, ∀ r, (if fitsL s.1 m = true then (rangeN s.2 (now - w + 1) (now + 1)).getLast?.map fun x => (s.1, x.v) else none) = some r → r.1 = s.1 ∧ in64 r.2 := fun s hs r hr => by
    split at hr
    · cases hx : (rangeN s.2 (now - w + 1) (now + 1)).getLast? with
      | none => rw [hx] at hr; cases hr
      | some x =>
        rw [hx] at hr
        injection hr with hr
        rw [← hr]
        exact ⟨rfl, h.num s hs x ((range_sub _ _ _).subset (List.mem_of_getLast? hx))⟩
    · cases hr
  refine ⟨fun r hr => ?_, fun r hr => ?_, ?_⟩
  · obtain ⟨s, hs, e⟩ := List.mem_filterMap.1 hr
    rw [(hone s hs r e).1]
    exact h.lab s hs
  · obtain ⟨s, hs, e⟩ := List.mem_filterMap.1 hr
    exact (hone s hs r e).2
  · have h1 := h.one
    clear h
    induction all with
    | nil => simp [selN]
    | cons s all ih =>
      rw [List.map_cons, List.nodup_cons] at h1
      have ih := ih (fun q hq => hone q (List.mem_cons_of_mem _ hq)) h1.2
      unfold selN at ih ⊢
      rw [List.filterMap_cons]
      split
      · exact ih
      · rename_i r hr
        rw [List.map_cons, List.nodup_cons]
        refine ⟨fun hm => ?_, ih⟩
        obtain ⟨q, hq, e⟩ := List.mem_map.1 hm
        obtain ⟨t, ht, e2⟩ := List.mem_filterMap.1 hq
        refine h1.1 (List.mem_map.2 ⟨t, ht, ?_⟩)
        rw [← (hone t (List.mem_cons_of_mem _ ht) q e2).1, e, (hone s List.mem_cons_self r hr).1]
inductive ExE.Nu : ExE → Prop
  | mk {e : ExE} : in64 e.n → (∀ y ∈ e.x, ExE.Nu y) → ExE.Nu e
theorem ExE.Nu.num {e : ExE} (h : e.Nu) : in64 e.n := by cases h with | mk h _ => exact h
theorem ExE.Nu.sub {e : ExE} (h : e.Nu) : ∀ y ∈ e.x, y.Nu := by cases h with | mk _ h => exact h
theorem RowsOk.num1 {n : Int} (h : in64 n) : RowsOk [([], n)] := ⟨fun r hr => by rw [List.mem_singleton.1 hr]; rfl, fun r hr => by rw [List.mem_singleton.1 hr]; exact h, by simp⟩
theorem RowsOk.at {rs : List (List RowN)} (h : ∀ r ∈ rs, RowsOk r) (i : Nat) : RowsOk (at_ rs i) := by
  by_cases hi : i < rs.length
  · exact h _ (at_mem hi)
  · have : at_ rs i = [] := by
      unfold at_
      rw [List.getD_eq_getElem?_getD, List.getElem?_eq_none (by omega)]
      rfl
    rw [this]
    exact RowsOk.nil
theorem RowsOk.raw {all : List (List Lab × List Smp)} (h : AllOk all) (now k n w : Int) (m : List Mt) (b : List ByteArray) {rs : List (List RowN)} (hn : in64 n) (hrs : ∀ r ∈ rs, RowsOk r) : RowsOk (rawN all now k n w m b rs) := by
  unfold rawN
  split
  · exact (RowsOk.at hrs 0).group k b
  · split
    · exact (RowsOk.at hrs 0).pair (RowsOk.at hrs 1) k
    · split
      · exact RowsOk.num1 hn
      · exact RowsOk.sel h now m w
theorem RowsOk.ev {all : List (List Lab × List Smp)} (h : AllOk all) (now : Int) : ∀ e : ExE, e.Nu → RowsOk (e.ev all now) := by
  refine ExE.induct fun e ih hn => ?_
  rw [ExE.ev_eq]
  refine (RowsOk.raw h now _ _ _ _ _ hn.num fun r hr => ?_).perm (sortR_perm _)
  rw [ExE.evL_map] at hr
  obtain ⟨y, hy, rfl⟩ := List.mem_map.1 hr
  exact ih y hy (hn.sub y hy)
theorem ev_up (all : List (List Lab × List Smp)) (now : Int) (e : ExE) : UpR (e.ev all now) := by rw [ExE.ev_eq]; exact sortR_up _
theorem sersErr_iff {all : List (List Lab × List Smp)} : sersErr all = 0 ↔ ∀ s ∈ all, chkL s.1 = 0 ∧ chkS s.2 = 0 := by
  induction all with
  | nil => simp [sersErr]
  | cons s l ih => rw [sersErr, fstE_iff, ih, serErr, fstE_iff]; simp
theorem evalN_ok {e : ExE} {all : List (List Lab × List Smp)} {now : Int} {l : List RowN} (h : evalN e all now = (l, 0)) (hn : ∀ s ∈ all, ∀ x ∈ s.2, in64 x.v) : e.chkT = 0 ∧ all.length ≤ 200 ∧ AllOk all ∧ -1152921504606846976 ≤ now ∧ now ≤ 1152921504606846976 ∧ l = e.ev all now := by
  unfold evalN at h
  by_cases h1 : e.chkT = 0
  · rw [if_neg (by simpa using h1)] at h
    by_cases h2 : 200 < all.length
    · rw [if_pos h2] at h; cases h
    · rw [if_neg h2] at h
      by_cases h3 : sersErr all = 0
      · rw [if_neg (by simpa using h3)] at h
        by_cases h4 : (all.map (·.1)).Nodup
        · rw [if_neg (by simpa using h4)] at h
          by_cases h5 : now < -1152921504606846976 ∨ 1152921504606846976 < now
          · rw [if_pos h5] at h; cases h
          · rw [if_neg h5] at h
            injection h with h6 _
            exact ⟨h1, by omega, ⟨fun s hs => (sersErr_iff.1 h3 s hs).1, fun s hs => (sersErr_iff.1 h3 s hs).2, hn, h4⟩, by omega, by omega, h6.symm⟩
        · rw [if_pos (by simpa using h4)] at h; cases h
      · rw [if_pos (by simpa using h3)] at h
        injection h with _ h
        exact absurd h h3
  · rw [if_pos (by simpa using h1)] at h
    injection h with _ h
    exact absurd h h1
end Go.Proofs.YtnicbhmeigpjkaaGreatDoor
namespace Go.Proofs.YtnicbhmeigpjkaaGreatDoor
open Go.RowKit

def exC (e : ExE) : List Value := [.int .i64 e.kind, .int .i64 e.n, .int .i64 e.w, .slice e.ma e.m.length e.mc, .slice e.ba e.b.length e.bc, .slice e.xa e.x.length e.xc]
def exCs (l : List ExE) : List Value := l.flatMap exC
instance : Inhabited ExE := ⟨.mk 0 0 0 none 0 [] none 0 [] none 0 []⟩
theorem exCs_len (l : List ExE) : (exCs l).length = l.length * 6 := flat_len (f := exC) (C := 6) (fun _ => rfl) l
/-- what holds of one expression, but for those in it -/
structure ExE.Own (w : World) (e : ExE) : Prop where
  k : in64 e.kind
  n : in64 e.n
  wi : in64 e.w
  ms : ∀ x ∈ e.m, MtOk x
  ml : e.m.length ≤ e.mc
  mc : e.mc ≤ maxLen
  mn : e.ma = none → e.mc = 0
  mh : Has w w.heap.size e.ma (mtCs e.m)
  bs : ∀ s ∈ e.b, s.size ≤ maxLen
  bl : e.b.length ≤ e.bc
  bc : e.bc ≤ maxLen
  bn : e.ba = none → e.bc = 0
  bh : Has w w.heap.size e.ba (strCs e.b)
  bk : e.b.length ≤ 1048576
  xl : e.x.length ≤ e.xc
  xc : e.xc ≤ maxLen
  xn : e.xa = none → e.xc = 0
  xh : Has w w.heap.size e.xa (exCs e.x)
inductive ExE.G (w : World) : ExE → Prop
  | mk {e : ExE} : e.Own w → (∀ y ∈ e.x, ExE.G w y) → ExE.G w e
theorem ExE.G.own {w : World} {e : ExE} (h : e.G w) : e.Own w := by cases h with | mk h _ => exact h
theorem ExE.G.sub {w : World} {e : ExE} (h : e.G w) : ∀ y ∈ e.x, y.G w := by cases h with | mk _ h => exact h
theorem ExE.Own.next {w w' : World} {e : ExE} (h : e.Own w) (hb : Below w.heap.size w w') : e.Own w' :=
  { h with mh := h.mh.next hb, bh := h.bh.next hb, xh := h.xh.next hb }
theorem ExE.G.next {w w' : World} (hb : Below w.heap.size w w') : ∀ e : ExE, e.G w → e.G w' :=
  ExE.induct fun _ ih h => .mk (h.own.next hb) fun y hy => ih y hy (h.sub y hy)
theorem ExE.G.nu {w : World} : ∀ e : ExE, e.G w → e.Nu := by
  refine ExE.induct fun e ih h => .mk h.own.n fun y hy => ih y hy (h.sub y hy)
end Go.Proofs.YtnicbhmeigpjkaaGreatDoor
namespace Go.Proofs.YtnicbhmeigpjkaaGreatDoor
open Go.RowKit Go.ChangeShapes Go.WideShapes Go.Deep

/-- a series, with where its rows lie -/
structure SerE where
  t : LbsE
  A : Option Addr
  c : Nat
  s : List Smp
instance : Inhabited SerE := ⟨⟨⟨none, 0, []⟩, none, 0, []⟩⟩
def serCE (e : SerE) : List Value := [.slice e.t.A e.t.l.length e.t.c, .slice e.A e.s.length e.c]
def sersC (l : List SerE) : List Value := l.flatMap serCE
theorem sersC_len (l : List SerE) : (sersC l).length = l.length * 2 := flat_len (f := serCE) (C := 2) (fun _ => rfl) l
theorem sersC_one (l : List SerE) : ∀ u ∈ sersC l, u.oneCell' = true := by
  intro u hu
  unfold sersC at hu
  obtain ⟨x, _, h⟩ := List.mem_flatMap.1 hu
  simp [serCE] at h
  rcases h with rfl | rfl <;> rfl
theorem sersC_at {l : List SerE} {k r : Nat} (h : k < l.length) (hr : r < 2) : (sersC l)[k * 2 + r]? = (serCE (at_ l k))[r]? := flat_at (f := serCE) (C := 2) (fun _ => rfl) h hr
theorem sersC_cells {w : World} {B : Nat} {A : Option Addr} {l : List SerE} (h : Has w B A (sersC l)) {k : Nat} (hk : k < l.length) :
    ∃ ad, A = some ad ∧ ad.block < B ∧ w.cell? (ad.add (k * 2)) = some (.slice (at_ l k).t.A (at_ l k).t.l.length (at_ l k).t.c) ∧ w.cell? ⟨(ad.add (k * 2)).block, (ad.add (k * 2)).off + 1, none⟩ = some (.slice (at_ l k).A (at_ l k).s.length (at_ l k).c) := by
  obtain ⟨ad, rfl, hb, c0⟩ := h.at (sersC_at hk (show 0 < 2 by decide))
  refine ⟨ad, rfl, hb, c0, ?_⟩
  obtain ⟨ad', e', _, c⟩ := h.at (sersC_at hk (show 1 < 2 by decide)); injection e' with e'; subst e'; exact cell_off c (by decide)
structure SerE.good (w : World) (e : SerE) : Prop where
  lab : LbsE.ok w e.t
  xs : ∀ x ∈ e.s, x.ok
  sl : e.s.length ≤ e.c
  sc : e.c ≤ maxLen
  sn : e.A = none → e.c = 0
  sh : Has w w.heap.size e.A (smpCs e.s)
theorem SerE.good.next {w w' : World} {e : SerE} (h : e.good w) (hb : Below w.heap.size w w') : e.good w' := { h with lab := h.lab.next hb, sh := h.sh.next hb }
def serX (e : SerE) : List Lab × List Smp := (e.t.l, e.s)
def sersX (l : List SerE) : List (List Lab × List Smp) := l.map serX
theorem sersX_len (l : List SerE) : (sersX l).length = l.length := by unfold sersX; rw [List.length_map]
end Go.Proofs.YtnicbhmeigpjkaaGreatDoor
namespace Go.Proofs.YtnicbhmeigpjkaaGreatDoor
open Go.RowKit

theorem addG_len (k : Int) (L : List Lab) (v : Int) (out : List RowN) : (addG k L v out).length ≤ out.length + 1 := by
  induction out with
  | nil => simp [addG]
  | cons o out ih =>
    unfold addG
    split
    · simp
    · rw [List.length_cons, List.length_cons]; omega
theorem group_len_go (k : Int) (b : List ByteArray) : ∀ (rows out : List RowN), (rows.foldl (fun out y => addG k (labsBy b y.1) (valG k y.2) out) out).length ≤ out.length + rows.length
  | [], out => by simp
  | y :: rows, out => by
    rw [List.foldl_cons, List.length_cons]
    have h1 := group_len_go k b rows (addG k (labsBy b y.1) (valG k y.2) out)
    have h2 := addG_len k (labsBy b y.1) (valG k y.2) out
    omega
theorem group_len (k : Int) (b : List ByteArray) (rows : List RowN) : (groupN k b rows).length ≤ rows.length := by
  have := group_len_go k b rows []
  simpa [groupN] using this
theorem flat_len1 {α β : Type} {f : α → List β} {l : List α} (h : ∀ y ∈ l, (f y).length ≤ 1) : (l.flatMap f).length ≤ l.length := by
  induction l with
  | nil => simp
  | cons y l ih =>
    rw [List.flatMap_cons, List.length_append, List.length_cons]
    have h1 := h y List.mem_cons_self
    have h2 := ih fun q hq => h q (List.mem_cons_of_mem _ hq)
    omega
theorem pair_len (k : Int) {l m : List RowN} (hm : RowsOk m) : (pairN k l m).length ≤ max l.length m.length := by
  cases hs : singleN m with
  | true =>
    have : (pairN k l m).length ≤ l.length := flat_len1 fun y _ => by
      obtain ⟨v, rfl⟩ := single_eq hs
      unfold pairR
      rw [hs]
      simp
    omega
  | false =>
    cases hl : singleN l with
    | true =>
      obtain ⟨v, rfl⟩ := single_eq hl
      have : (pairN k [([], v)] m).length ≤ m.length := by
        have e : pairN k [([], v)] m = m.flatMap fun z => [(z.1, bothN k v z.2)] := by
          unfold pairN pairR
          rw [hs, hl]
          simp
        rw [e]
        exact flat_len1 fun y _ => by simp
      omega
    | false =>
      have : (pairN k l m).length ≤ l.length := flat_len1 fun y _ => by
        unfold pairR
        rw [hs, hl]
        simp only [Bool.false_eq_true, if_false]
        exact match_one hm.one
      omega
theorem ev_len {all : List (List Lab × List Smp)} (h : AllOk all) (hl : all.length ≤ 200) (now : Int) : ∀ e : ExE, e.Nu → (e.ev all now).length ≤ 200 := by
  refine ExE.induct fun e ih hn => ?_
  rw [ExE.ev_eq, sortR_len, ExE.evL_map]
  have hat : ∀ i, (at_ (e.x.map (ExE.ev all now)) i).length ≤ 200 := fun i => by
    by_cases hi : i < (e.x.map (ExE.ev all now)).length
    · obtain ⟨y, hy, he⟩ := List.mem_map.1 (at_mem hi)
      rw [← he]
      exact ih y hy (hn.sub y hy)
    · have : at_ (e.x.map (ExE.ev all now)) i = [] := by
        unfold at_
        rw [List.getD_eq_getElem?_getD, List.getElem?_eq_none (by omega)]
        rfl
      rw [this]
      simp
  have hok : ∀ r ∈ e.x.map (ExE.ev all now), RowsOk r := fun r hr => by
    obtain ⟨y, hy, rfl⟩ := List.mem_map.1 hr
    exact RowsOk.ev h now y (hn.sub y hy)
  unfold rawN
  split
  · exact Nat.le_trans (group_len _ _ _) (hat 0)
  · split
    · have := pair_len e.kind (l := at_ (e.x.map (ExE.ev all now)) 0) (RowsOk.at hok 1)
      have h0 := hat 0
      have h1 := hat 1
      omega
    · split
      · simp
      · exact Nat.le_trans (List.length_filterMap_le _ _) hl
theorem addG_none {k : Int} {L : List Lab} {v : Int} {out : List RowN} (h : ∀ o ∈ out, o.1 ≠ L) : addG k L v out = out ++ [(L, v)] := by
  induction out with
  | nil => rfl
  | cons o out ih =>
    unfold addG
    rw [if_neg (h o List.mem_cons_self), ih fun q hq => h q (List.mem_cons_of_mem _ hq)]
    rfl
theorem addG_at {k : Int} {L : List Lab} {v : Int} : ∀ {out : List RowN} {i : Nat}, i < out.length → (at_ out i).1 = L → (∀ q, q < i → (at_ out q).1 ≠ L) → addG k L v out = out.set i ((at_ out i).1, opN k (at_ out i).2 v)
  | o :: out, 0, _, h1, _ => by
    have h1 : o.1 = L := h1
    unfold addG
    rw [if_pos h1]
    rfl
  | o :: out, i + 1, hi, h1, h2 => by
    have h0 : o.1 ≠ L := h2 0 (by omega)
    unfold addG
    rw [if_neg h0, addG_at (i := i) (by simpa using hi) h1 (fun q hq => h2 (q + 1) (by omega))]
    rfl
theorem groupN_take {k : Int} {b : List ByteArray} {rows : List RowN} {j : Nat} (h : j < rows.length) : groupN k b (rows.take (j + 1)) = addG k (labsBy b (at_ rows j).1) (valG k (at_ rows j).2) (groupN k b (rows.take j)) := by
  rw [List.take_add_one, List.getElem?_eq_getElem h, at_eq h]
  exact groupN_snoc _ _ _ _
end Go.Proofs.YtnicbhmeigpjkaaGreatDoor
namespace Go.Proofs.YtnicbhmeigpjkaaGreatDoor
open Go.RowKit

/-- what is read behind a quote, up to the next quote that stands for itself: what was read, and what is left -/
def unqGo : List Nat → List Nat → Option (List Nat × List Nat)
  | _, [] => none
  | out, [x] => if x = 34 then some (out, []) else none
  | out, x :: y :: r => if x = 34 then some (out, y :: r) else if x = 92 then unqGo (out ++ [if y = 110 then 10 else y]) r else unqGo (out ++ [x]) (y :: r)
theorem unq_quote (out r : List Nat) : unqGo out (34 :: r) = some (out, r) := by
  cases r with
  | nil => simp [unqGo]
  | cons y r => simp [unqGo]
theorem unq_plain (out r : List Nat) (x : Nat) (h1 : x ≠ 34) (h2 : x ≠ 92) : unqGo out (x :: r) = unqGo (out ++ [x]) r := by
  cases r with
  | nil => simp [unqGo, h1]
  | cons y r => simp [unqGo, h1, h2]
theorem unq_slash (out r : List Nat) (y : Nat) : unqGo out (92 :: y :: r) = unqGo (out ++ [if y = 110 then 10 else y]) r := by simp [unqGo]
theorem unq_end (out : List Nat) : unqGo out [92] = none := by simp [unqGo]
def unqV : Option (List Nat × List Nat) → Value
  | none => .tuple #[.string ⟨#[]⟩, .string ⟨#[]⟩, .bool false]
  | some (a, b) => .tuple #[.string (bsOf a), .string (bsOf b), .bool true]
theorem elU8u : Elem Tryz.prog 123 5 1 1 := Elem.mk' (z := .int .u8 0) Tryz.underlying123 (by kernel_rfl) rfl (by decide)
theorem u8s_app1u (l : List Nat) (x : Nat) : u8s (l ++ [x]) = u8s l ++ (#[.int .u8 (x : Nat)] : Array Value).toList := by simp [u8s, u8v]
theorem conv_own {W : World} {base n : Nat} {v : Value} {l : List Nat} (h : W.ownsRow base 5 1 v n (u8s l)) : (convert 123 9 v).run Tryz.prog W = .ok (.string (bsOf l)) W := by
  have hl : l.length = n := by have := h.1; simp [u8s] at this; omega
  rcases h.2 with ⟨rfl, h0⟩ | ⟨g, cap, cur, rfl, _, hg, h1, _, h2, h3⟩
  · have : l = [] := List.length_eq_zero_iff.1 (by omega)
    subst this
    exact run_convert_bytes_nil (P := Tryz.prog) W 123 5 Tryz.underlying123 Tryz.underlying5 0 0 9 Tryz.underlying9
  · exact run_convert_bytes_arg (P := Tryz.prog) W 123 5 Tryz.underlying123 Tryz.underlying5 g 0 n cap (l.map (fun x : Nat => (x : Int))) (by rw [List.length_map]; exact hl) (fun i hi => by
      rw [Nat.zero_add, cell_of_row W g i cur 5 (0, 0) hg]
      have : cur.toList[i]? = (u8s l)[i]? := by rw [← h3, List.getElem?_take_of_lt (by omega)]
      rw [← Array.getElem?_toList, this]
      simp [u8s, u8v, List.getD, hl, hi]) 9 Tryz.underlying9
theorem bsOf_drop (s : ByteArray) (i : Nat) : bsOf ((sb s).drop i) = s.extract i s.size := by
  have e : bsOf ((sb s).drop i) = ⟨(s.data.toList.drop i).toArray⟩ := by
    unfold bsOf strOfNums sb
    apply ByteArray.ext
    apply Array.ext'
    rw [← List.map_drop]
    simp only [List.map_map]
    have : ((fun n : Int => UInt8.ofNat n.toNat) ∘ (fun x : Nat => (x : Int)) ∘ fun x : UInt8 => x.toNat) = id := by
      funext x
      simp
    first | rw [this, List.map_id] | (simp [this])
  rw [e]
  apply ByteArray.ext
  apply Array.ext'
  rw [ByteArray.data_extract, Array.toList_extract]
  simp [List.extract]
  rw [List.take_of_length_le]
  rw [List.length_drop, Array.length_toList]
  exact Nat.le_refl _
theorem sb_drop_cons (s : ByteArray) (i : Nat) (h : i < s.size) : (sb s).drop i = s[i].toNat :: (sb s).drop (i + 1) := by
  have hl : i < (sb s).length := by rw [sb_len]; exact h
  rw [List.drop_eq_getElem_cons hl]
  congr 1
  have := sb_at s i h
  rw [at_eq hl] at this
  exact this

set_option maxRecDepth 1000000 in
set_option maxHeartbeats 8000000 in
theorem lunq_any (s : ByteArray) (hs : s.size ≤ 4294967296) (w : World) :
    Calls Tryz.prog 128 #[.string s] w (R1 (unqV (unqGo [] (sb s))) (Below w.heap.size w)) := by
  obtain ⟨r, hr⟩ : ∃ r, unqGo [] (sb s) = r := ⟨_, rfl⟩
  have HR := Lib.hid (show unqGo [] ((sb s).drop 0) = r from hr)
  rw [hr]
  clear hr
  go_enter Tryz.func128, Tryz.ntmps128
  go_wp2_with fail
  go_loopw [5, 6] (fun ov iv wr => ∃ (i : Nat) (l : List Nat) (B : Option Addr) (d : Nat), i ≤ s.size ∧ l.length ≤ i ∧ iv = .int .i64 (i : Nat) ∧ ov = .slice B l.length d ∧ Hid (unqGo l ((sb s).drop i) = r) ∧ wr.ownsRow w.heap.size 5 1 (.slice B l.length d) l.length (u8s l) ∧ Below w.heap.size w wr) (fun _ iv _ => s.size + 5 - (intOf iv).toNat)
  case atStart => exact ⟨0, [], none, 0, by omega, by simp, rfl, rfl, HR, World.ownsRow_nil _ _ _ _, Below.refl _ _⟩
  case round =>
    obtain ⟨i, l, B, d, hi, hli, rfl, rfl, hg, hown, hbr⟩ := hrel
    have hbs := hbr.size
    by_cases hlt : (i : Int) < (s.size : Int)
    · have hil : i < s.size := by omega
      have hd := sb_drop_cons s i hil
      obtain ⟨x, hx⟩ : ∃ x, s[i].toNat = x := ⟨_, rfl⟩
      rw [hx] at hd
      have hxl : x < 256 := by rw [← hx]; exact UInt8.toNat_lt _
      have hi0 : (0 : Int) ≤ (i : Int) := by omega
      have hg2 := hg.out
      rw [hd] at hg2
      by_cases q1 : x = 34
      · rw [q1, unq_quote] at hg2
        have hcv := fun n => conv_own (own_drewN hown n)
        have hx' : s[i].toNat = 34 := by rw [hx, q1]
        have HE := Lib.hid (show unqV r = .tuple #[.string (bsOf l), .string (s.extract (i + 1) s.size), .bool true] by rw [← hg2, ← bsOf_drop]; rfl)
        have hi1 : (i : Int) + 1 ≤ (s.size : Int) := by omega
        clear hg2 hg hd hx q1 hxl hown
        go_wp2_with fail
        go_quiet (fail)
        go_wp2_with fail
        go_ret3
        rw [HE.out]
        exact R1.mk rfl (below_drewN hbr _)
      · have q1' : ((x : Int) == 34) = false := by rw [beq_eq_false_iff_ne]; omega
        by_cases q2 : x = 92
        · subst q2
          by_cases hlt2 : (i : Int) + 1 < (s.size : Int)
          · have hil2 : i + 1 < s.size := by omega
            have hd2 := sb_drop_cons s (i + 1) hil2
            obtain ⟨y, hy⟩ : ∃ y, s[i + 1].toNat = y := ⟨_, rfl⟩
            rw [hy] at hd2
            have hyl : y < 256 := by rw [← hy]; exact UInt8.toNat_lt _
            rw [hd2, unq_slash] at hg2
            have hi1 : (0 : Int) ≤ (i : Int) + 1 := by omega
            have hti : ((i : Int) + 1).toNat = i + 1 := by omega
            clear hg hd hd2
            by_cases q3 : y = 110
            · rw [if_pos q3] at hg2
              subst q3
              have Hg := Lib.hid hg2
              clear hg2
              go_wp2_with (at_builtin; refine wpList_append1 rfl _ _ _ rfl elU8u (v := .slice B l.length d) rfl hown (g := wr.heap.size) rfl rfl rfl ?_ ?c1 ?c2 ?c3 ?c4; intro B9 d9 w9 hown9 hgrow9 hbel9)
              case c1 => first | (intro u hu; simp at hu; subst hu; rfl) | rfl
              case c2 => omega
              case c3 => unfold maxLen; omega
              case c4 => exact hbs
              have hbel09 : Below w.heap.size w w9 := hbr.trans hbel9
              have hlen9 : (l ++ [10]).length = l.length + 1 := by simp
              have Hown9 := Lib.hid (show w9.ownsRow w.heap.size 5 1 (.slice B9 (l ++ [10]).length d9) (l ++ [10]).length (u8s (l ++ [10])) by rw [hlen9, u8s_app1u]; exact hown9)
              clear hown9 hgrow9 hbel9
              go_wp2_with fail
              go_roundw
              case rel => exact ⟨i + 2, l ++ [10], B9, d9, by omega, by rw [hlen9]; omega, by go_num, by rw [hlen9], Hg, Hown9.out, hbel09⟩
              case measure => simp [intOf]; omega
            · rw [if_neg q3] at hg2
              have q3' : ((y : Int) == 110) = false := by rw [beq_eq_false_iff_ne]; omega
              have Hg := Lib.hid hg2
              clear hg2
              go_wp2_with (at_builtin; refine wpList_append1 rfl _ _ _ rfl elU8u (v := .slice B l.length d) rfl hown (g := wr.heap.size) rfl rfl rfl ?_ ?c1 ?c2 ?c3 ?c4; intro B9 d9 w9 hown9 hgrow9 hbel9)
              case c1 => first | (intro u hu; simp at hu; subst hu; rfl) | rfl
              case c2 => omega
              case c3 => unfold maxLen; omega
              case c4 => exact hbs
              have hbel09 : Below w.heap.size w w9 := hbr.trans hbel9
              have hlen9 : (l ++ [y]).length = l.length + 1 := by simp
              have Hown9 := Lib.hid (show w9.ownsRow w.heap.size 5 1 (.slice B9 (l ++ [y]).length d9) (l ++ [y]).length (u8s (l ++ [y])) by rw [hlen9, u8s_app1u]; exact hown9)
              clear hown9 hgrow9 hbel9
              go_wp2_with fail
              go_roundw
              case rel => exact ⟨i + 2, l ++ [y], B9, d9, by omega, by rw [hlen9]; omega, by go_num, by rw [hlen9], Hg, Hown9.out, hbel09⟩
              case measure => simp [intOf]; omega
          · have hd2 : (sb s).drop (i + 1) = [] := List.drop_of_length_le (by rw [sb_len]; omega)
            rw [hd2, unq_end] at hg2
            have HE := Lib.hid (show unqV r = .tuple #[.string ⟨#[]⟩, .string ⟨#[]⟩, .bool false] by rw [← hg2]; rfl)
            clear hg2 hg hd hd2 hown
            go_wp2_with fail
            go_ret3
            rw [HE.out]
            exact R1.mk rfl hbr
        · have q2' : ((x : Int) == 92) = false := by rw [beq_eq_false_iff_ne]; omega
          rw [unq_plain _ _ _ q1 q2] at hg2
          have Hg := Lib.hid hg2
          clear hg2 hg hd
          go_wp2_with (at_builtin; refine wpList_append1 rfl _ _ _ rfl elU8u (v := .slice B l.length d) rfl hown (g := wr.heap.size) rfl rfl rfl ?_ ?c1 ?c2 ?c3 ?c4; intro B9 d9 w9 hown9 hgrow9 hbel9)
          case c1 => first | (intro u hu; simp at hu; subst hu; rfl) | rfl
          case c2 => omega
          case c3 => unfold maxLen; omega
          case c4 => exact hbs
          have hbel09 : Below w.heap.size w w9 := hbr.trans hbel9
          have hlen9 : (l ++ [x]).length = l.length + 1 := by simp
          have Hown9 := Lib.hid (show w9.ownsRow w.heap.size 5 1 (.slice B9 (l ++ [x]).length d9) (l ++ [x]).length (u8s (l ++ [x])) by rw [hlen9, u8s_app1u]; exact hown9)
          clear hown9 hgrow9 hbel9
          go_wp2_with fail
          go_roundw
          case rel => exact ⟨i + 1, l ++ [x], B9, d9, by omega, by rw [hlen9]; omega, by go_num, by rw [hlen9], Hg, Hown9.out, hbel09⟩
          case measure => simp [intOf]; omega
    · have hd2 : (sb s).drop i = [] := List.drop_of_length_le (by rw [sb_len]; omega)
      have hg2 := hg.out
      rw [hd2] at hg2
      have HE := Lib.hid (show unqV r = .tuple #[.string ⟨#[]⟩, .string ⟨#[]⟩, .bool false] by rw [← hg2]; rfl)
      clear hg2 hg hd2 hown
      go_wp2_with fail
      go_ret3
      rw [HE.out]
      exact R1.mk rfl hbr
end Go.Proofs.YtnicbhmeigpjkaaGreatDoor
namespace Go.Proofs.YtnicbhmeigpjkaaGreatDoor
open Go.RowKit

section
variable (all : List (List Lab × List Smp)) (now : Int)
theorem sortR_nil : sortR [] = [] := List.eq_nil_of_length_eq_zero (by rw [sortR_len]; rfl)
theorem sortR_one (r : RowN) : sortR [r] = [r] := List.perm_singleton.1 (sortR_perm [r])
theorem sortR_same {l : List RowN} (h : UpR l) : sortR l = l := List.mergeSort_of_pairwise (h.imp fun h => decide_eq_true h)

/-! ### numbers alone -/
theorem ev_num (n w : Int) (ma : Option Addr) (mc : Nat) (m : List Mt) (ba : Option Addr) (bc : Nat) (b : List ByteArray) (xa : Option Addr) (xc : Nat) (x : List ExE) : (ExE.mk 1 n w ma mc m ba bc b xa xc x).ev all now = [([], n)] := by
  rw [ExE.ev_eq]
  simp only [ExE.kind, ExE.n, rawN, partsN]
  simp only [show ¬ ((1 : Int) = 3 ∨ (1 : Int) = 4 ∨ (1 : Int) = 5) by decide]
  simp [sortR_one]
theorem ev_two (k n w : Int) (hk : k = 6 ∨ k = 7 ∨ k = 8) (ma : Option Addr) (mc : Nat) (m : List Mt) (ba : Option Addr) (bc : Nat) (b : List ByteArray) (xa : Option Addr) (xc : Nat) (x y : ExE) : (ExE.mk k n w ma mc m ba bc b xa xc [x, y]).ev all now = sortR (pairN k (x.ev all now) (y.ev all now)) := by
  rw [ExE.ev_eq]
  simp only [ExE.kind, ExE.n, ExE.w, ExE.m, ExE.b, ExE.x, rawN, ExE.evL]
  have h2 : partsN k = 2 := by rcases hk with rfl | rfl | rfl <;> rfl
  rw [if_neg (by rw [h2]; decide), if_pos h2]
  rfl
theorem ev_one (k n w : Int) (hk : k = 3 ∨ k = 4 ∨ k = 5) (ma : Option Addr) (mc : Nat) (m : List Mt) (ba : Option Addr) (bc : Nat) (b : List ByteArray) (xa : Option Addr) (xc : Nat) (x : ExE) : (ExE.mk k n w ma mc m ba bc b xa xc [x]).ev all now = sortR (groupN k b (x.ev all now)) := by
  rw [ExE.ev_eq]
  simp only [ExE.kind, ExE.n, ExE.w, ExE.m, ExE.b, ExE.x, rawN, ExE.evL]
  have h2 : partsN k = 1 := by rcases hk with rfl | rfl | rfl <;> rfl
  rw [if_pos h2]
  rfl
theorem ev_sel (n w : Int) (ma : Option Addr) (mc : Nat) (m : List Mt) (ba : Option Addr) (bc : Nat) (b : List ByteArray) (xa : Option Addr) (xc : Nat) (x : List ExE) : (ExE.mk 2 n w ma mc m ba bc b xa xc x).ev all now = sortR (selN all now m w) := by
  rw [ExE.ev_eq]
  simp only [ExE.kind, ExE.w, ExE.m, rawN, partsN]
  simp
theorem pair_ones (k a b : Int) : pairN k [([], a)] [([], b)] = [([], bothN k a b)] := by
  simp [pairN, pairR, singleN, at_]
theorem labsBy_nil (b : List ByteArray) : labsBy b [] = [] := rfl
theorem group_one3 (b : List ByteArray) (a : Int) : groupN 3 b [([], a)] = [([], a)] := by
  simp [groupN, addG, valG, labsBy_nil]
/-! ### a count by none -/
theorem labsBy_none (L : List Lab) : labsBy [] L = [] := by
  unfold labsBy inB
  simp
theorem count_go (rows : List RowN) : ∀ (n : Nat), (n : Int) + rows.length ≤ 9223372036854775807 → rows.foldl (fun out y => addG 5 (labsBy [] y.1) (valG 5 y.2) out) [([], (n : Int))] = [([], ((n + rows.length : Nat) : Int))] := by
  induction rows with
  | nil => intro n _; simp
  | cons y rows ih =>
    intro n h
    rw [List.length_cons] at h
    rw [List.foldl_cons]
    have e : addG 5 (labsBy [] y.1) (valG 5 y.2) [([], (n : Int))] = [([], ((n + 1 : Nat) : Int))] := by
      rw [labsBy_none]
      unfold addG
      rw [if_pos rfl]
      have : opN 5 (n : Int) (valG 5 y.2) = ((n + 1 : Nat) : Int) := by
        unfold opN valG
        rw [if_neg (by decide), if_pos rfl, w64_of (by unfold in64; omega)]
        omega
      rw [this]
    rw [e, ih (n + 1) (by omega), List.length_cons, show n + 1 + rows.length = n + (rows.length + 1) by omega]
theorem count_none {rows : List RowN} (h : (rows.length : Int) ≤ 9223372036854775807) : groupN 5 [] rows = if rows = [] then [] else [([], (rows.length : Int))] := by
  cases rows with
  | nil => rfl
  | cons y rows =>
    rw [if_neg (by simp)]
    unfold groupN
    rw [List.foldl_cons]
    have e : addG 5 (labsBy [] y.1) (valG 5 y.2) [] = [([], ((1 : Nat) : Int))] := by
      rw [labsBy_none]
      rfl
    rw [List.length_cons] at h
    rw [e, count_go rows 1 (by omega), List.length_cons, Nat.add_comm]
/-! ### what is taken off itself -/
theorem single_iff {l : List RowN} : singleN l = true ↔ ∃ v, l = [([], v)] := ⟨single_eq, fun ⟨v, h⟩ => by subst h; simp [singleN, at_]⟩
theorem match_self {f : RowN → RowN → Int} : ∀ {m : List RowN}, (m.map (·.1)).Nodup → ∀ y ∈ m, (m.flatMap fun z => if y.1 = z.1 then [(y.1, f y z)] else []) = [(y.1, f y y)]
  | [], _, _, h => by cases h
  | z :: m, h, y, hy => by
    rw [List.map_cons, List.nodup_cons] at h
    rw [List.flatMap_cons]
    by_cases e : y.1 = z.1
    · rw [if_pos e]
      have h0 : (m.flatMap fun z => if y.1 = z.1 then [(y.1, f y z)] else []) = [] := by
        rw [List.flatMap_eq_nil_iff]
        intro q hq
        rw [if_neg]
        intro e2
        exact h.1 (by rw [← e, e2]; exact List.mem_map_of_mem hq)
      have hyz : y = z := by
        rcases List.mem_cons.1 hy with e1 | e1
        · exact e1
        · exact absurd (by rw [← e]; exact List.mem_map_of_mem e1) h.1
      rw [h0, hyz]
      rfl
    · rw [if_neg e]
      rcases List.mem_cons.1 hy with e1 | e1
      · exact absurd (by rw [e1]) e
      · exact match_self h.2 y e1
theorem w64_zero : w64 0 = 0 := rfl
theorem pair_self {l : List RowN} (h : RowsOk l) : pairN 7 l l = l.map fun y => (y.1, 0) := by
  have hb : ∀ a : Int, bothN 7 a a = 0 := fun a => by unfold bothN; rw [if_neg (by decide), if_pos rfl, Int.sub_self]; rfl
  cases hs : singleN l with
  | true =>
    obtain ⟨v, rfl⟩ := single_eq hs
    rw [pair_ones, hb]
    rfl
  | false =>
    unfold pairN
    rw [show l.map (fun y => ((y.1, 0) : RowN)) = l.flatMap (fun y => [(y.1, 0)]) by rw [List.map_eq_flatMap]]
    have : ∀ (k : List RowN), (∀ y ∈ k, y ∈ l) → k.flatMap (pairR 7 l l) = k.flatMap (fun y => [(y.1, 0)]) := by
      intro k hk
      induction k with
      | nil => rfl
      | cons y k ih =>
        rw [List.flatMap_cons, List.flatMap_cons, ih (fun q hq => hk q (List.mem_cons_of_mem _ hq))]
        congr 1
        unfold pairR
        rw [hs]
        simp only [Bool.false_eq_true, if_false]
        rw [match_self (f := fun y z => bothN 7 y.2 z.2) h.one y (hk y List.mem_cons_self), hb]
    exact this l (fun _ h => h)
theorem up_keep {l : List RowN} (h : UpR l) (f : RowN → Int) : UpR (l.map fun y => (y.1, f y)) := List.pairwise_map.2 (h.imp fun h => h)
/-- x - x: the rows of x, each nothing -/
theorem less_self {e : ExE} (h : AllOk all) (hn : e.Nu) : sortR (pairN 7 (e.ev all now) (e.ev all now)) = (e.ev all now).map fun y => (y.1, 0) := by
  rw [pair_self (RowsOk.ev h now e hn)]
  exact sortR_same (up_keep (ev_up all now e) fun _ => 0)
theorem pair_const (k n : Int) (l : List RowN) : pairN k l [([], n)] = l.map fun y => (y.1, bothN k y.2 n) := by
  unfold pairN
  rw [List.map_eq_flatMap]
  congr 1
theorem add_less {l : List RowN} (h : RowsOk l) (hu : UpR l) (n : Int) : sortR (pairN 7 (sortR (pairN 6 l [([], n)])) [([], n)]) = l := by
  have e1 : sortR (pairN 6 l [([], n)]) = l.map fun y => (y.1, bothN 6 y.2 n) := by
    rw [pair_const]
    exact sortR_same (up_keep hu fun y => bothN 6 y.2 n)
  rw [e1, pair_const, List.map_map]
  have e2 : l.map ((fun y : RowN => (y.1, bothN 7 y.2 n)) ∘ fun y : RowN => (y.1, bothN 6 y.2 n)) = l := by
    refine (List.map_congr_left fun r hr => ?_).trans (List.map_id l)
    have h1 := h.num r hr
    have : bothN 7 (bothN 6 r.2 n) n = r.2 := by
      unfold bothN w64
      unfold in64 at h1
      rw [if_neg (by decide), if_pos rfl, if_pos rfl, IntKind.wrap_i64, IntKind.wrap_i64]
      omega
    simp only [Function.comp, this]
    rfl
  rw [e2]
  exact sortR_same hu
/-! ### selections -/
theorem sel_mem {m : List Mt} {w : Int} {r : RowN} : r ∈ selN all now m w ↔ ∃ s ∈ all, fitsL s.1 m = true ∧ r.1 = s.1 ∧ ∃ x, (rangeN s.2 (now - w + 1) (now + 1)).getLast? = some x ∧ r.2 = x.v := by
  unfold selN
  rw [List.mem_filterMap]
  constructor
  · rintro ⟨s, hs, e⟩
    by_cases hf : fitsL s.1 m = true
    · rw [if_pos hf] at e
      cases hx : (rangeN s.2 (now - w + 1) (now + 1)).getLast? with
      | none => rw [hx] at e; cases e
      | some x =>
        rw [hx] at e
        injection e with e
        exact ⟨s, hs, hf, by rw [← e], x, hx, by rw [← e]⟩
    · rw [if_neg hf] at e; cases e
  · rintro ⟨s, hs, hf, e1, x, hx, e2⟩
    refine ⟨s, hs, ?_⟩
    rw [if_pos hf, hx]
    obtain ⟨a, b⟩ := r
    simp only [] at e1 e2
    rw [e1, e2]
    rfl
theorem sel_len (m : List Mt) (w : Int) : (selN all now m w).length ≤ all.length := List.length_filterMap_le _ _
/-- of times that rise, the last one below b is the same, from wherever one looks -/
theorem last_wider {l : List Smp} {a a' b : Int} (h : a' ≤ a) {x : Smp} (hx : (l.filter (inS a b)).getLast? = some x) (hu : Up l) : (l.filter (inS a' b)).getLast? = some x := by
  induction l with
  | nil => cases hx
  | cons y l ih =>
    have hu2 := up_tail hu
    cases hr : (l.filter (inS a b)) with
    | nil =>
      rw [List.filter_cons, hr] at hx
      by_cases hy : inS a b y = true
      · rw [if_pos hy] at hx
        have hxy : y = x := by injection hx
        have hy' := hy
        unfold inS at hy'
        simp only [Bool.and_eq_true, decide_eq_true_eq] at hy'
        have h0 : l.filter (inS a' b) = [] := by
          rw [List.filter_eq_nil_iff]
          intro z hz hin
          have h1 := up_mem hu z hz
          have h2 : z ∈ l.filter (inS a b) := List.mem_filter.2 ⟨hz, by unfold inS at hin ⊢; simp only [Bool.and_eq_true, decide_eq_true_eq] at hin ⊢; omega⟩
          rw [hr] at h2
          cases h2
        rw [List.filter_cons, h0, if_pos (by unfold inS; simp only [Bool.and_eq_true, decide_eq_true_eq]; omega), hxy]
        rfl
      · rw [if_neg hy] at hx; cases hx
    | cons z zs =>
      have h1 : (l.filter (inS a b)).getLast? = some x := by
        rw [List.filter_cons] at hx
        split at hx
        · rw [hr] at hx ⊢
          rw [List.getLast?_cons_cons] at hx
          exact hx
        · exact hx
      have h2 := ih h1 hu2
      rw [List.filter_cons]
      split
      · cases h3 : l.filter (inS a' b) with
        | nil => rw [h3] at h2; cases h2
        | cons q qs => rw [h3] at h2; rw [List.getLast?_cons_cons]; exact h2
      · exact h2
theorem sel_wider (h : AllOk all) (hup : ∀ s ∈ all, Up s.2) {m : List Mt} {w more : Int} (hm : 0 ≤ more) {r : RowN} (hr : r ∈ selN all now m w) : r ∈ selN all now m (w + more) := by
  rw [sel_mem] at hr ⊢
  obtain ⟨s, hs, hf, e1, x, hx, e2⟩ := hr
  refine ⟨s, hs, hf, e1, x, ?_, e2⟩
  unfold rangeN at hx ⊢
  rw [if_neg (by rw [h.smp s hs]; decide)] at hx ⊢
  exact last_wider (by omega) hx (hup s hs)
theorem sel_else (x : List Lab × List Smp) {m : List Mt} (hx : fitsL x.1 m = false) (w : Int) : selN (all ++ [x]) now m w = selN all now m w := by
  unfold selN
  rw [List.filterMap_append]
  simp [hx]
end
end Go.Proofs.YtnicbhmeigpjkaaGreatDoor
