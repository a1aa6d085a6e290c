/- What Replace of label's replacer makes of a text. Conditions: the replacer is built. -/
import Derived.Test.YtmfndpkhcejffaaGreatDoorRpPlain
import Derived.Test.YtmfndpkhcejffaaGreatDoorShC
import Derived.BigQuiet
import Derived.Shelf.RegionOpenPlain
namespace Go.Proofs.YtmfndpkhcejffaaGreatDoor
open Go.RowKit

theorem rp_cell {W : World} {h k : Nat} {A : Option Addr} {c : Nat} {a b d : Value} (hB : Blk W h 118 (cells4 (.slice A k c) a b d)) (sa : SlB W a [92, 110]) (sb' : SlB W b [92, 34]) (sd : SlB W d [92, 92]) (x : Nat) (hx : x < 256) :
    ∃ v, W.cell? ⟨h, x, none⟩ = some v ∧ ((v = .slice none 0 0 ∧ spc x = 0 ∧ rep1 x = [x]) ∨ (spc x = 1 ∧ ∃ bb cc, v = .slice (some ⟨bb, 0, none⟩) 2 cc ∧ (rep1 x).length = 2 ∧ SlB W (.slice (some ⟨bb, 0, none⟩) 2 cc) (rep1 x))) := by
  refine ⟨_, (hB.cell x).trans (cells4_at _ _ _ _ x hx), ?_⟩
  by_cases h1 : x = 10
  · subst h1
    obtain ⟨bb, cc, cs, fr, e, h2⟩ := sa
    exact .inr ⟨rfl, bb, cc, e, rfl, bb, cc, cs, fr, rfl, h2⟩
  · by_cases h2 : x = 34
    · subst h2
      obtain ⟨bb, cc, cs, fr, e, h2⟩ := sb'
      exact .inr ⟨rfl, bb, cc, e, rfl, bb, cc, cs, fr, rfl, h2⟩
    · by_cases h3 : x = 92
      · subst h3
        obtain ⟨bb, cc, cs, fr, e, h2⟩ := sd
        exact .inr ⟨rfl, bb, cc, e, rfl, bb, cc, cs, fr, rfl, h2⟩
      · refine .inl ⟨?_, ?_, ?_⟩
        · rw [if_neg h1, if_neg h2, if_neg h3]; rfl
        · unfold spc; rw [if_neg h1, if_neg h2, if_neg h3]
        · unfold rep1; rw [if_neg h1, if_neg h2, if_neg h3]
/-- how many of the first k kinds of bytes are in a text -/
def cntK (l : List Nat) (k : Nat) : Nat := ((([10, 34, 92] : List Nat).take k).map (fun x => l.count x)).sum
theorem cntK_3 (l : List Nat) : cntK l 3 = cntS l := by rw [cntS_3]; simp [cntK]; omega
theorem trL_at (k : Nat) (hk : k < 3) : ∃ c : UInt8, (trL 3)[k]? = some ⟨#[c]⟩ ∧ (c.toNat = 10 ∨ c.toNat = 34 ∨ c.toNat = 92) ∧ ∀ l, cntK l (k + 1) = cntK l k + l.count c.toNat := by
  rcases (show k = 0 ∨ k = 1 ∨ k = 2 by omega) with rfl | rfl | rfl
  · exact ⟨10, rfl, .inl rfl, fun l => by simp [cntK]⟩
  · exact ⟨34, rfl, .inr (.inl rfl), fun l => by simp [cntK]⟩
  · exact ⟨92, rfl, .inr (.inr rfl), fun l => by simp [cntK]; omega⟩
theorem strCs_at (l : List ByteArray) (k : Nat) (s : ByteArray) (h : l[k]? = some s) : (strCs l)[k]? = some (.string s) := by
  have e : ∀ l : List ByteArray, strCs l = l.map Value.string := by
    intro l
    unfold strCs
    induction l with
    | nil => rfl
    | cons x l ih => rw [List.flatMap_cons, ih]; rfl
  rw [e, List.getElem?_map, h]; rfl
theorem cntK_le (l : List Nat) (k : Nat) (hk : k ≤ 3) : cntK l k ≤ l.length := by
  have h3 : cntK l 3 ≤ l.length := by rw [cntK_3]; exact cntS_le l
  have : cntK l k ≤ cntK l 3 := by
    rcases (show k = 0 ∨ k = 1 ∨ k = 2 ∨ k = 3 by omega) with rfl | rfl | rfl | rfl <;> simp [cntK] <;> omega
  omega

set_option maxRecDepth 1000000 in
set_option maxHeartbeats 4000000 in
theorem brep_any (h c : Nat) (A : Option Addr) (a b d : Value) (s : ByteArray) (hs : s.size ≤ 4294967296) (w : World) (hB : Blk w h 118 (cells4 (.slice A 3 c) a b d)) (hA : Has w w.heap.size A (strCs (trL 3)))
    (sa : SlB w a [92, 110]) (sb' : SlB w b [92, 34]) (sd : SlB w d [92, 92]) :
    Calls Tryz.prog 105 #[.pointer (some ⟨h, 0, none⟩), .string s] w (R1 (.string (bsOf (repL (sb s)))) (Below w.heap.size w)) := by
  have y1 : w.cell? ⟨h, 256, none⟩ = some (.slice A 3 c) := (hB.cell 256).trans (cells4_256 _ _ _ _)
  have hcell := fun (W : World) (hb : Below w.heap.size w W) x hx => rp_cell (hB.next hb) (sa.next hb) (sb'.next hb) (sd.next hb) x hx
  have hy := fun (W : World) (hb : Below w.heap.size w W) => ((hB.next hb).cell 256).trans (cells4_256 _ _ _ _)
  have Hy := Lib.hid hy
  have Hcell := Lib.hid hcell
  have HA := Lib.hid hA
  obtain ⟨r, hr⟩ : ∃ r, bsOf (repL (sb s)) = r := ⟨_, rfl⟩
  rw [hr]
  have HR := Lib.hid hr
  have hne := fun (w : World) (a : Option Addr) (n c n' c' : Nat) => run_neq_slice_nil_any (P := Tryz.prog) w 58 5 a n c n' c' Tryz.underlying58
  clear hB hA sa sb' sd hr hcell hy
  by_cases hlong : (24 : Int) ≤ (s.size : Int)
  · go_enter Tryz.func105, Tryz.ntmps105
    go_wp2_with fail
    go_loopw [5, 6, 32] (fun nv av iv wr => ∃ k : Nat, k ≤ 3 ∧ iv = .int .i64 (k : Nat) ∧ nv = .int .i64 ((s.size : Int) + (cntK (sb s) k : Int)) ∧ av = .bool (decide (0 < cntK (sb s) k)) ∧ Below w.heap.size w wr) (fun _ _ iv _ => 5 - (intOf iv).toNat)
    case atStart => exact ⟨0, by omega, rfl, congrArg _ (by rw [show cntK (sb s) 0 = 0 from rfl]; omega), rfl, Below.refl _ _⟩
    case round =>
      obtain ⟨k, hk, rfl, rfl, rfl, hbr⟩ := hrel
      have hkc : cntK (sb s) k ≤ s.size := by rw [← sb_len]; exact cntK_le _ _ hk
      by_cases hlt : (k : Int) < 3
      · obtain ⟨x, hx1, hx2, hx3⟩ := trL_at k (by omega)
        obtain ⟨ad, rfl, _, c0⟩ := (HA.out.next hbr).at (strCs_at _ _ _ hx1)
        obtain ⟨v, hv1, hv2⟩ := Hcell.out _ hbr x.toNat (by omega)
        have hv3 : ∃ bb cc, v = .slice (some ⟨bb, 0, none⟩) 2 cc := by
          rcases hv2 with ⟨_, h, _⟩ | ⟨_, bb, cc, h, _⟩
          · exfalso; unfold spc at h; rcases hx2 with e | e | e <;> rw [e] at h <;> simp at h
          · exact ⟨bb, cc, h⟩
        obtain ⟨bb, cc, rfl⟩ := hv3
        have hxe : ((⟨#[x]⟩ : ByteArray)[0]'(show 0 < 1 from by decide)).toNat = x.toNat := rfl
        have hsx : (⟨#[x]⟩ : ByteArray).size = 1 := rfl
        have hct := Tryz.strings_Count_one s x wr
        rw [count_sb] at hct
        have h3 := hx3 (sb s)
        obtain ⟨q, hq⟩ : ∃ q, (sb s).count x.toNat = q := ⟨_, rfl⟩
        have hql : q ≤ s.size := by rw [← sb_len, ← hq]; exact List.count_le_length
        rw [hq] at hct h3
        have H3 := Lib.hid h3
        have HCt := Lib.hid hct
        clear hct h3 hv2 hx3 hq hx1
        go_wp2_with fail
        refine HCt.out.mono ?_
        rintro e1 w1 ⟨rfl, rfl⟩
        by_cases h0 : q = 0
        · subst h0
          go_wp2_with fail
          go_roundw
          case rel => exact ⟨k + 1, by omega, by go_num, by rw [H3.out, Nat.add_zero], by rw [H3.out, Nat.add_zero], hbr⟩
          case measure => simp [intOf]; omega
        · have h0' : ¬ (q : Int) = 0 := by omega
          have h0'' : ((q : Int) == 0) = false := by simp; omega
          go_wp2_with fail
          go_quiet (fail)
          go_wp2_with fail
          go_roundw
          case rel => exact ⟨k + 1, by omega, by go_num, congrArg _ (by rw [H3.out]; omega), by rw [H3.out]; simp; omega, below_drewN hbr _⟩
          case measure => simp [intOf]; omega
      · obtain rfl : k = 3 := by omega
        rw [cntK_3]
        --A
        obtain ⟨q, hq⟩ : ∃ q, cntS (sb s) = q := ⟨_, rfl⟩
        have hql : q ≤ s.size := by rw [← sb_len, ← hq]; exact cntS_le _
        rw [hq]
        have Hq := Lib.hid hq
        clear hq
        by_cases h0 : q = 0
        · subst h0
          have E := Lib.hid (show r = s by rw [← HR.out, repL_none _ Hq.out, bsOf_sb])
          go_wp2_with fail
          go_ret
          rw [E.out]
          exact R1.mk rfl hbr
        · have hpos : 0 < q := by omega
          obtain ⟨N, hN⟩ : ∃ N, s.size + q = N := ⟨_, rfl⟩
          have hN' : (s.size : Int) + (q : Int) = (N : Int) := by omega
          have hNb : N ≤ 8589934592 := by omega
          have HN := Lib.hid hN
          obtain ⟨i0, i1, i2, i3, i4⟩ := info_parts infoU8
          obtain ⟨w2, hrun, hown, hgrow⟩ := run_make_full (P := Tryz.prog) wr w.heap.size 58 5 i0 (.int .u8 0) 1 Tryz.underlying58 i1 i2 i3 .i64 .i64 N (by rw [i4]; omega) (by unfold maxLen; omega) hbr.size
          have hb2 : Below wr.heap.size wr w2 := (Below.refl _ _).grown hgrow (Nat.le_refl _) (fun k e => by cases e)
          have hB2 : RpBuf w2 wr.heap.size N [] := by
            rw [madeCells8] at hown
            rcases hown.2 with ⟨e, _⟩ | ⟨g, cap, cur, e, _, hg, _, _, hc, ht⟩
            · cases e
            · injection e with e1 e2 e3
              injection e1 with e1
              injection e1 with e1
              subst e1 e3
              refine ⟨List.replicate N 0, by simp, ?_, rfl⟩
              rw [List.take_of_length_le (by rw [Array.length_toList]; omega)] at ht
              rw [Blk, hg, ← ht]
          obtain ⟨g, hgs⟩ : ∃ g, wr.heap.size = g := ⟨_, rfl⟩
          have hbg : w.heap.size ≤ g := by rw [← hgs]; exact hbr.size
          have hbel2 := hbr.trans (hb2.mono hbr.size)
          rw [hgs] at hrun hB2
          have HB2 := Lib.hid hB2
          clear hown hgrow hb2 hB2 hgs hbr i1 i2 i3 i4 hN
          go_wp2_with fail
          go_loopw [13, 14] (fun jv iv wx => ∃ i : Nat, i ≤ s.size ∧ iv = .int .i64 (i : Nat) ∧ jv = .int .i64 ((repL ((sb s).take i)).length : Nat) ∧ Hid (RpBuf wx g N (repL ((sb s).take i))) ∧ Below w.heap.size w wx) (fun _ iv _ => s.size + 5 - (intOf iv).toNat)
          case atStart => exact ⟨0, by omega, rfl, rfl, HB2, hbel2⟩
          case round =>
            obtain ⟨i, hi, rfl, rfl, hbuf, hbx⟩ := hrel
            by_cases hlt : (i : Int) < (s.size : Int)
            · have hil : i < s.size := by omega
              have htk := sb_take_succ s i hil
              have hrl : repL ((sb s).take (i + 1)) = repL ((sb s).take i) ++ rep1 s[i].toNat := by rw [htk, repL_app]; simp [repL]
              have hle : (repL ((sb s).take (i + 1))).length ≤ N := by
                have e1 : sb s = (sb s).take (i + 1) ++ (sb s).drop (i + 1) := (List.take_append_drop _ _).symm
                have e2 : (repL (sb s)).length = N := by rw [repL_len, sb_len, Hq.out]; exact HN.out
                rw [e1, repL_app, List.length_append] at e2
                omega
              rw [hrl] at hle
              obtain ⟨x, hx⟩ : ∃ x, s[i].toNat = x := ⟨_, rfl⟩
              have hx256 : x < 256 := by rw [← hx]; exact UInt8.toNat_lt _
              rw [hx] at hle hrl
              obtain ⟨d, hd⟩ : ∃ d, repL ((sb s).take i) = d := ⟨_, rfl⟩
              rw [hd] at hle hrl hbuf ⊢
              have Hrl := Lib.hid hrl
              obtain ⟨v, hv1, hv2⟩ := Hcell.out _ hbx x hx256
              have hi0 : (0 : Int) ≤ (i : Int) := by omega
              have hx0 : (0 : Int) ≤ (x : Int) := by omega
              have hx1 : (x : Int) < 256 := by omega
              rw [List.length_append] at hle
              clear hrl htk hd
              rcases hv2 with ⟨rfl, _, h1⟩ | ⟨_, bb, cc, rfl, hl2, hsl⟩
              · rw [h1] at hle
                have hdl : d.length < N := by rw [List.length_singleton] at hle; omega
                have hdl' : ((d.length : Nat) : Int) < (N : Int) := by omega
                obtain ⟨⟨z, hz⟩, hf⟩ := hbuf.out.cell d.length hdl
                have hput := Lib.hid (hbuf.out.put x hdl)
                have hbp := hbx.setCell hbg (p := ⟨g, d.length, none⟩) (.int .u8 (x : Int))
                have H1 := Lib.hid h1
                clear hbuf h1 hle
                go_wp2_with fail
                go_roundw
                case rel => exact ⟨i + 1, by omega, by go_num, by rw [Hrl.out, H1.out, List.length_append]; go_num, by rw [Hrl.out, H1.out]; exact hput, hbp⟩
                case measure => simp [intOf]; omega
              · have hcp := fun dc ty => RpBuf.copy (g := g) (n := N) (RpBuf.drew hbuf.out) (rep1 x) hle (by rw [hl2]; exact (hsl.next (drawn_below ⟨1, rfl⟩))) dc ty
                have hdN : d.length + 2 ≤ N := by rw [hl2] at hle; exact hle
                have hd1 : ((d.length : Nat) : Int) ≤ (N : Int) := by omega
                have hd0 : (0 : Int) ≤ ((d.length : Nat) : Int) := by omega
                clear hbuf hsl hle
                have mixed : Tryz.prog.follows .mixedOrders = true := by kernel_rfl
                go_wp2_with fail
                obtain ⟨W4, hr4, hb4, hl4⟩ := hcp (N - d.length) 3
                rw [hl2] at hr4
                have HB4 := Lib.hid hb4
                have HL4 := Lib.hid (hl4 w.heap.size w hbg (below_drewN hbx 1))
                clear hb4 hl4
                go_region_law_o (refine step_copy_runK rfl _ _ 58 58 rfl _ _ (by simp [Act.eval]; omega) (by simp [Act.eval]) hr4 ?_)
                go_wp2_with fail
                go_roundw
                case rel => exact ⟨i + 1, by omega, by go_num, by rw [Hrl.out, List.length_append, hl2]; go_num, by rw [Hrl.out]; exact HB4, HL4.out⟩
                case measure => simp [intOf]; omega
            · have hin : i = s.size := by omega
              have hall : (sb s).take i = sb s := List.take_of_length_le (by rw [sb_len]; omega)
              rw [hall] at hbuf ⊢
              have hNl : (repL (sb s)).length = N := by rw [repL_len, sb_len, Hq.out]; exact HN.out
              have hfull := hbuf.out.full hNl
              have hcv := run_convert_bytes_arg (P := Tryz.prog) wr 58 5 Tryz.underlying58 Tryz.underlying5 g 0 N N ((repL (sb s)).map (fun x : Nat => (x : Int))) (by rw [List.length_map]; exact hNl) (fun j hj => by
                rw [Nat.zero_add, hfull.cell j]
                simp [u8s, u8v, List.getD, hNl, hj]) 9 Tryz.underlying9
              have hcv2 : (convert 58 9 (.slice (some ⟨g, 0, none⟩) N N)).run Tryz.prog wr = .ok (.string (bsOf (repL (sb s)))) wr := hcv
              rw [HR.out] at hcv2
              clear hbuf hfull hcv hall hNl Hcell Hy HA hne HB2
              go_wp2_with fail
              go_ret
              exact R1.mk rfl hbx
--/A
  · go_enter Tryz.func105, Tryz.ntmps105
    have hlen0 : ∃ n : Nat, s.size = n := ⟨_, rfl⟩
    have h24 : s.size < 24 := by omega
    go_wp2_with fail
    go_loopw [5, 6, 10] (fun nv av iv wr => ∃ k : Nat, k ≤ s.size ∧ iv = .int .i64 (k : Nat) ∧ nv = .int .i64 ((s.size : Int) + (cntS ((sb s).take k) : Int)) ∧ av = .bool (decide (0 < cntS ((sb s).take k))) ∧ Below w.heap.size w wr) (fun _ _ iv _ => s.size + 5 - (intOf iv).toNat)
    case atStart => exact ⟨0, by omega, rfl, congrArg _ (by rw [show cntS ((sb s).take 0) = 0 from rfl]; omega), rfl, Below.refl _ _⟩
    case round =>
      obtain ⟨k, hk, rfl, rfl, rfl, hbr⟩ := hrel
      have hkc : cntS ((sb s).take k) ≤ s.size := Nat.le_trans (cntS_le _) (by rw [List.length_take, sb_len]; omega)
      by_cases hlt : (k : Int) < (s.size : Int)
      · have hil : k < s.size := by omega
        have htk := sb_take_succ s k hil
        have hc : cntS ((sb s).take (k + 1)) = cntS ((sb s).take k) + spc s[k].toNat := by rw [htk, cntS_app]; rfl
        obtain ⟨x, hx⟩ : ∃ x, s[k].toNat = x := ⟨_, rfl⟩
        have hx256 : x < 256 := by rw [← hx]; exact UInt8.toNat_lt _
        rw [hx] at hc
        obtain ⟨q, hq⟩ : ∃ q, cntS ((sb s).take k) = q := ⟨_, rfl⟩
        rw [hq] at hc hkc ⊢
        obtain ⟨v, hv1, hv2⟩ := Hcell.out _ hbr x hx256
        have hi0 : (0 : Int) ≤ (k : Int) := by omega
        have hx0 : (0 : Int) ≤ (x : Int) := by omega
        have hx1 : (x : Int) < 256 := by omega
        have Hc := Lib.hid hc
        clear hc htk hq
        rcases hv2 with ⟨rfl, h1, _⟩ | ⟨h1, bb, cc, rfl, _, _⟩
        · have H1 := Lib.hid h1
          clear h1
          go_wp2_with fail
          go_roundw
          case rel => exact ⟨k + 1, by omega, by go_num, by rw [Hc.out, H1.out, Nat.add_zero], by rw [Hc.out, H1.out, Nat.add_zero], hbr⟩
          case measure => simp [intOf]; omega
        · have H1 := Lib.hid h1
          clear h1
          go_wp2_with fail
          go_roundw
          case rel => exact ⟨k + 1, by omega, by go_num, congrArg _ (by rw [Hc.out, H1.out]; omega), by rw [Hc.out, H1.out]; simp, hbr⟩
          case measure => simp [intOf]; omega
      · have hks : k = s.size := by omega
        have hall : (sb s).take k = sb s := List.take_of_length_le (by rw [sb_len]; omega)
        rw [hall]
        clear hall hkc
        --B
        obtain ⟨q, hq⟩ : ∃ q, cntS (sb s) = q := ⟨_, rfl⟩
        have hql : q ≤ s.size := by rw [← sb_len, ← hq]; exact cntS_le _
        rw [hq]
        have Hq := Lib.hid hq
        clear hq
        by_cases h0 : q = 0
        · subst h0
          have E := Lib.hid (show r = s by rw [← HR.out, repL_none _ Hq.out, bsOf_sb])
          go_wp2_with fail
          go_ret
          rw [E.out]
          exact R1.mk rfl hbr
        · have hpos : 0 < q := by omega
          obtain ⟨N, hN⟩ : ∃ N, s.size + q = N := ⟨_, rfl⟩
          have hN' : (s.size : Int) + (q : Int) = (N : Int) := by omega
          have hNb : N ≤ 8589934592 := by omega
          have HN := Lib.hid hN
          obtain ⟨i0, i1, i2, i3, i4⟩ := info_parts infoU8
          obtain ⟨w2, hrun, hown, hgrow⟩ := run_make_full (P := Tryz.prog) wr w.heap.size 58 5 i0 (.int .u8 0) 1 Tryz.underlying58 i1 i2 i3 .i64 .i64 N (by rw [i4]; omega) (by unfold maxLen; omega) hbr.size
          have hb2 : Below wr.heap.size wr w2 := (Below.refl _ _).grown hgrow (Nat.le_refl _) (fun k e => by cases e)
          have hB2 : RpBuf w2 wr.heap.size N [] := by
            rw [madeCells8] at hown
            rcases hown.2 with ⟨e, _⟩ | ⟨g, cap, cur, e, _, hg, _, _, hc, ht⟩
            · cases e
            · injection e with e1 e2 e3
              injection e1 with e1
              injection e1 with e1
              subst e1 e3
              refine ⟨List.replicate N 0, by simp, ?_, rfl⟩
              rw [List.take_of_length_le (by rw [Array.length_toList]; omega)] at ht
              rw [Blk, hg, ← ht]
          obtain ⟨g, hgs⟩ : ∃ g, wr.heap.size = g := ⟨_, rfl⟩
          have hbg : w.heap.size ≤ g := by rw [← hgs]; exact hbr.size
          have hbel2 := hbr.trans (hb2.mono hbr.size)
          rw [hgs] at hrun hB2
          have HB2 := Lib.hid hB2
          clear hown hgrow hb2 hB2 hgs hbr i1 i2 i3 i4 hN
          go_wp2_with fail
          go_loopw [13, 14] (fun jv iv wx => ∃ i : Nat, i ≤ s.size ∧ iv = .int .i64 (i : Nat) ∧ jv = .int .i64 ((repL ((sb s).take i)).length : Nat) ∧ Hid (RpBuf wx g N (repL ((sb s).take i))) ∧ Below w.heap.size w wx) (fun _ iv _ => s.size + 5 - (intOf iv).toNat)
          case atStart => exact ⟨0, by omega, rfl, rfl, HB2, hbel2⟩
          case round =>
            obtain ⟨i, hi, rfl, rfl, hbuf, hbx⟩ := hrel
            by_cases hlt : (i : Int) < (s.size : Int)
            · have hil : i < s.size := by omega
              have htk := sb_take_succ s i hil
              have hrl : repL ((sb s).take (i + 1)) = repL ((sb s).take i) ++ rep1 s[i].toNat := by rw [htk, repL_app]; simp [repL]
              have hle : (repL ((sb s).take (i + 1))).length ≤ N := by
                have e1 : sb s = (sb s).take (i + 1) ++ (sb s).drop (i + 1) := (List.take_append_drop _ _).symm
                have e2 : (repL (sb s)).length = N := by rw [repL_len, sb_len, Hq.out]; exact HN.out
                rw [e1, repL_app, List.length_append] at e2
                omega
              rw [hrl] at hle
              obtain ⟨x, hx⟩ : ∃ x, s[i].toNat = x := ⟨_, rfl⟩
              have hx256 : x < 256 := by rw [← hx]; exact UInt8.toNat_lt _
              rw [hx] at hle hrl
              obtain ⟨d, hd⟩ : ∃ d, repL ((sb s).take i) = d := ⟨_, rfl⟩
              rw [hd] at hle hrl hbuf ⊢
              have Hrl := Lib.hid hrl
              obtain ⟨v, hv1, hv2⟩ := Hcell.out _ hbx x hx256
              have hi0 : (0 : Int) ≤ (i : Int) := by omega
              have hx0 : (0 : Int) ≤ (x : Int) := by omega
              have hx1 : (x : Int) < 256 := by omega
              rw [List.length_append] at hle
              clear hrl htk hd
              rcases hv2 with ⟨rfl, _, h1⟩ | ⟨_, bb, cc, rfl, hl2, hsl⟩
              · rw [h1] at hle
                have hdl : d.length < N := by rw [List.length_singleton] at hle; omega
                have hdl' : ((d.length : Nat) : Int) < (N : Int) := by omega
                obtain ⟨⟨z, hz⟩, hf⟩ := hbuf.out.cell d.length hdl
                have hput := Lib.hid (hbuf.out.put x hdl)
                have hbp := hbx.setCell hbg (p := ⟨g, d.length, none⟩) (.int .u8 (x : Int))
                have H1 := Lib.hid h1
                clear hbuf h1 hle
                go_wp2_with fail
                go_roundw
                case rel => exact ⟨i + 1, by omega, by go_num, by rw [Hrl.out, H1.out, List.length_append]; go_num, by rw [Hrl.out, H1.out]; exact hput, hbp⟩
                case measure => simp [intOf]; omega
              · have hcp := fun dc ty => RpBuf.copy (g := g) (n := N) (RpBuf.drew hbuf.out) (rep1 x) hle (by rw [hl2]; exact (hsl.next (drawn_below ⟨1, rfl⟩))) dc ty
                have hdN : d.length + 2 ≤ N := by rw [hl2] at hle; exact hle
                have hd1 : ((d.length : Nat) : Int) ≤ (N : Int) := by omega
                have hd0 : (0 : Int) ≤ ((d.length : Nat) : Int) := by omega
                clear hbuf hsl hle
                have mixed : Tryz.prog.follows .mixedOrders = true := by kernel_rfl
                go_wp2_with fail
                obtain ⟨W4, hr4, hb4, hl4⟩ := hcp (N - d.length) 3
                rw [hl2] at hr4
                have HB4 := Lib.hid hb4
                have HL4 := Lib.hid (hl4 w.heap.size w hbg (below_drewN hbx 1))
                clear hb4 hl4
                go_region_law_o (refine step_copy_runK rfl _ _ 58 58 rfl _ _ (by simp [Act.eval]; omega) (by simp [Act.eval]) hr4 ?_)
                go_wp2_with fail
                go_roundw
                case rel => exact ⟨i + 1, by omega, by go_num, by rw [Hrl.out, List.length_append, hl2]; go_num, by rw [Hrl.out]; exact HB4, HL4.out⟩
                case measure => simp [intOf]; omega
            · have hin : i = s.size := by omega
              have hall : (sb s).take i = sb s := List.take_of_length_le (by rw [sb_len]; omega)
              rw [hall] at hbuf ⊢
              have hNl : (repL (sb s)).length = N := by rw [repL_len, sb_len, Hq.out]; exact HN.out
              have hfull := hbuf.out.full hNl
              have hcv := run_convert_bytes_arg (P := Tryz.prog) wr 58 5 Tryz.underlying58 Tryz.underlying5 g 0 N N ((repL (sb s)).map (fun x : Nat => (x : Int))) (by rw [List.length_map]; exact hNl) (fun j hj => by
                rw [Nat.zero_add, hfull.cell j]
                simp [u8s, u8v, List.getD, hNl, hj]) 9 Tryz.underlying9
              have hcv2 : (convert 58 9 (.slice (some ⟨g, 0, none⟩) N N)).run Tryz.prog wr = .ok (.string (bsOf (repL (sb s)))) wr := hcv
              rw [HR.out] at hcv2
              clear hbuf hfull hcv hall hNl Hcell Hy HA hne HB2
              go_wp2_with fail
              go_ret
              exact R1.mk rfl hbx
--/B
end Go.Proofs.YtmfndpkhcejffaaGreatDoor
