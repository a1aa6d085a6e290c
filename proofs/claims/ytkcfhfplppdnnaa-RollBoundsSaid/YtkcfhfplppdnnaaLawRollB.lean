/- The walk of the law RollBounds: it returns true. Conditions: the arguments fit their kinds. -/
import Derived.Test.YtkcfhfplppdnnaaRollCheck
namespace Go.Proofs.Ytkcfhfplppdnnaa
open Go.RowKit

theorem told_head {width : Int} {w : Win} {a : List Win} {l : List Smp} (h : Told width (w :: a) l) : ∃ g r, l = g ++ r ∧ Tells width w g ∧ Told width a r := by
  cases h with
  | cons ht h => exact ⟨_, _, rfl, ht, h⟩
theorem told_end {width : Int} {l : List Smp} (h : Told width [] l) : l = [] := by cases h; rfl
theorem at_drop {l g r : List Smp} {i n : Nat} (e : l.drop i = g ++ r) (hn : n < g.length) : i + n < l.length ∧ at_ l (i + n) = at_ g n := by
  have h1 : (l.drop i)[n]? = g[n]? := by rw [e, List.getElem?_append_left hn]
  rw [List.getElem?_drop, List.getElem?_eq_getElem hn] at h1
  have h2 := (List.getElem?_eq_some_iff.1 h1).1
  refine ⟨h2, ?_⟩
  rw [at_eq h2, at_eq hn]
  rw [List.getElem?_eq_getElem h2] at h1
  injection h1

set_option maxRecDepth 1000000 in
set_option maxHeartbeats 8000000 in
theorem rollBounds_true (w : World) (A : Option Addr) (c : Nat) (l : List Smp) (hs : Smps l) (hlc : l.length ≤ c) (hc : c ≤ maxLen) (_ : A = none → c = 0) (h : Has w w.heap.size A (smpCs l)) (hr : l.length ≤ 8796093022207)
    (width : Int) (_ : -9223372036854775808 ≤ width ∧ width ≤ 9223372036854775807) :
    Calls Try.prog 3 #[.slice A l.length c, .int .i64 width] w (R1 (.bool true) (Below w.heap.size w)) := by
  have hlm : l.length ≤ maxLen := by omega
  obtain ⟨⟨a, z⟩, hz⟩ : ∃ p, rollN l width = p := ⟨_, rfl⟩
  have Hz := Lib.hid hz
  by_cases hz0 : z = 0
  · subst hz0
    obtain ⟨hck, hw1, hw2, hfar, he⟩ := rollN_ok (l := l) (width := width) (by rw [hz])
    rw [hz] at he
    injection he with he _
    subst he
    have hlen := (chkS_ok hck).1
    have hal : (rollL l width).length ≤ 1000 := by have := rollL_len l width; omega
    have hok := Lib.hid (rollL_ok hck hw1)
    have htold := Lib.hid (rollL_told (l := l) hw1)
    clear hz hck hfar
    generalize rollL l width = a at hal hok htold Hz
    go_enter Try.func3, Try.ntmps3
    go_wp2_with fail
    refine (rolls_true _).mono ?_
    rintro e w1 ⟨rfl, hb1⟩
    go_wp2_with fail
    refine (roll_any A _ c l rfl hlm width _ (by exact Hz.out) _ (by exact h.next hb1)).mono ?_
    rintro e w2 ⟨v, rfl, A2, c2, rfl, ho2, hb2'⟩
    have hb2 := bnext hb1 hb2'
    have hw := Lib.hid (Has.of_own ho2); clear ho2
    have h2 := Lib.hid (h.next hb2)
    go_wp2_with fail
    go_loopw [7, 26] (fun i k wr => ∃ (j m : Nat), j ≤ a.length ∧ m ≤ l.length ∧ k = .int .i64 (j : Nat) ∧ i = .int .i64 (m : Nat) ∧ Hid (Told width (a.drop j) (l.drop m)) ∧ Below w2.heap.size w2 wr) (fun _ k _ => a.length + 5 - (intOf k).toNat)
    case atStart => exact ⟨0, 0, by omega, by omega, rfl, rfl, Lib.hid (by simpa using htold.out), Below.refl _ _⟩
    case round =>
      obtain ⟨j, m, hj, hm, rfl, rfl, ht, hbr⟩ := hrel
      have hbs := hbr.size
      by_cases hlt : (j : Int) < (a.length : Int)
      · obtain ⟨ad, rfl, hadb, d0, d1, d2, d3, d4, d5, d6⟩ := (hw.out.below hbr).win (show j < a.length by omega)
        have ht1 := ht.out
        rw [drop_at (show j < a.length by omega)] at ht1
        obtain ⟨g, r, hgr, ⟨hg0, hgn, hgs, hgf, hgl⟩, ht2⟩ := told_head ht1
        obtain ⟨x, hx⟩ : ∃ x, at_ a j = x := ⟨_, rfl⟩
        rw [hx] at d0 d1 d2 d3 d4 d5 d6 hgn hgs hgf hgl
        have o2 := (hok.out _ (at_mem (show j < a.length by omega))).2.1
        rw [hx] at o2
        have Hgr := Lib.hid hgr; clear hgr
        have Ht2 := Lib.hid ht2; clear ht2 ht1 hx
        have Hgs := Lib.hid hgs; clear hgs
        have Hgf := Lib.hid hgf; clear hgf
        have Hgl := Lib.hid hgl; clear hgl
        have Hgn := Lib.hid hgn
        have hg1 : (g.length : Int) = x.n := hgn.symm
        clear hgn
        have hgb : g.length ≤ 1000000000 := by omega
        have hglen : m + g.length ≤ l.length := by
          have := congrArg List.length Hgr.out
          rw [List.length_drop, List.length_append] at this
          omega
        have kS : Blk (wr.alloc (.cells #[.int .i64 x.t, .int .i64 x.n, .int .i64 x.s, .int .i64 x.lo, .int .i64 x.hi, .int .i64 x.f, .int .i64 x.l] 29)) wr.heap.size 29 #[.int .i64 x.t, .int .i64 x.n, .int .i64 x.s, .int .i64 x.lo, .int .i64 x.hi, .int .i64 x.f, .int .i64 x.l] := Blk.new _ _ _
        have hbal := hbr.alloc hbs (.cells #[.int .i64 x.t, .int .i64 x.n, .int .i64 x.s, .int .i64 x.lo, .int .i64 x.hi, .int .i64 x.f, .int .i64 x.l] 29)
        have kS := Lib.hid kS
        have Hg1 := Lib.hid hg1; clear hg1
        go_wp2_with fail
        obtain ⟨wo, rfl⟩ : ∃ wo : World, wo = wr := ⟨_, rfl⟩
        clear d0 d1 d2 d3 d4 d5 d6
        go_loopw [7, 10] (fun i n wr => ∃ q : Nat, q ≤ g.length ∧ n = .int .i64 (q : Nat) ∧ i = .int .i64 ((m + q : Nat) : Int) ∧ Drawn (wo.alloc (.cells #[.int .i64 x.t, .int .i64 x.n, .int .i64 x.s, .int .i64 x.lo, .int .i64 x.hi, .int .i64 x.f, .int .i64 x.l] 29)) wr) (fun _ n _ => g.length + 5 - (intOf n).toNat)
        case atStart => exact ⟨0, by omega, rfl, rfl, Drawn.refl _⟩
        case round =>
          obtain ⟨q, hq, rfl, rfl, nd, rfl⟩ := hrel
          have k0 : ((wo.alloc (.cells #[.int .i64 x.t, .int .i64 x.n, .int .i64 x.s, .int .i64 x.lo, .int .i64 x.hi, .int .i64 x.f, .int .i64 x.l] 29)).drewN nd).cell? ⟨wo.heap.size, 1, none⟩ = some (.int .i64 x.n) := (kS.out.drewN nd).cell 1
          by_cases hlt2 : (q : Int) < x.n
          · have hqg : q < g.length := by have := Hg1.out; omega
            obtain ⟨hi, hat⟩ := at_drop Hgr.out hqg
            obtain ⟨s1, s2, s3, s4⟩ := Hgs.out _ (at_mem hqg)
            rw [← hat] at s1 s2 s3 s4
            obtain ⟨p, hp⟩ : ∃ p : Nat, m + q = p := ⟨_, rfl⟩
            have Hp := Lib.hid hp
            rw [hp] at s1 s2 s3 s4 hi hat ⊢
            clear hp
            obtain ⟨ad2, rfl, hadb2, c1⟩ := (h2.out.below hbr).at (smpCs_t hi)
            obtain ⟨ad3, e', _, c2⟩ := (h2.out.below hbr).at (smpCs_v hi)
            injection e' with e'
            subst e'
            have c2 := cell_off c2 (by decide)
            have qb : (ad2.add (p * 2)).block < wo.heap.size := by rw [add_block]; omega
            have st := (hs.at p).1
            unfold in64 at st
            have f1 : decide ((l.length : Int) ≤ (p : Int)) = false := by rw [decide_eq_false_iff_not]; omega
            have f1n : decide (l.length ≤ p) = false := by rw [decide_eq_false_iff_not]; omega
            have f2 : decide ((at_ l p).t < x.t) = false := by rw [decide_eq_false_iff_not]; omega
            have E1 := Lib.hid (show IntKind.i64.wrap ((at_ l p).t - x.t) = (at_ l p).t - x.t from IntWalk.i64_in _ (by omega))
            have f3 : decide (width ≤ (at_ l p).t - x.t) = false := by rw [decide_eq_false_iff_not]; omega
            have f4 : decide ((at_ l p).v < x.lo) = false := by rw [decide_eq_false_iff_not]; omega
            have f5 : decide (x.hi < (at_ l p).v) = false := by rw [decide_eq_false_iff_not]; omega
            have E2 := Lib.hid (show IntKind.i64.wrap (x.n - 1) = x.n - 1 from IntWalk.i64_in _ (by omega))
            have p1 : (0 : Int) ≤ (p : Int) := by omega
            have p2 : (p : Int) < (l.length : Int) := by omega
            have A1 : Hid (q = 0 → (at_ l p).v = x.f) := Lib.hid (fun h0 => by rw [Hgf.out, hat, h0])
            have A2 : Hid ((q : Int) = x.n - 1 → (at_ l p).v = x.l) := Lib.hid (fun h0 => by rw [Hgl.out, hat, show q = g.length - 1 by have := Hg1.out; omega])
            clear hat
            have B1 : ((q : Int) == 0) = false ∨ (((q : Int) == 0) = true ∧ ((at_ l p).v != x.f) = false) := by
              by_cases h0 : q = 0
              · exact .inr ⟨by rw [beq_iff_eq]; omega, by rw [bne_eq_false_iff_eq]; exact A1.out h0⟩
              · exact .inl (by rw [beq_eq_false_iff_ne]; omega)
            have B2 : ((q : Int) == x.n - 1) = false ∨ (((q : Int) == x.n - 1) = true ∧ ((at_ l p).v != x.l) = false) := by
              by_cases h0 : (q : Int) = x.n - 1
              · exact .inr ⟨by rw [beq_iff_eq]; omega, by rw [bne_eq_false_iff_eq]; exact A2.out h0⟩
              · exact .inl (by rw [beq_eq_false_iff_ne]; omega)
            rcases B1 with b1 | ⟨b1, b2⟩ <;> rcases B2 with b3 | ⟨b3, b4⟩
            all_goals
              go_wp2_with fail
              have e1 := E1.out
              have e2 := E2.out
              simp only [List.append]
              go_quiet (fail)
              clear e1 e2 p1 p2
              go_wp2_with fail
              go_roundw
              case rel => exact ⟨q + 1, by omega, by go_num, int_eq (by have := Hp.out; omega), _, rfl⟩
              case measure => simp [intOf]; omega
          · have hqe : q = g.length := by have := Hg1.out; omega
            go_wp2_with fail
            go_roundw
            case rel => exact ⟨j + 1, m + q, by omega, by omega, by go_num, rfl, Lib.hid (by
              have e3 : l.drop (m + q) = r := by
                rw [← List.drop_drop, Hgr.out, hqe]
                simp
              rw [e3]
              exact Ht2.out), below_drewN hbal nd⟩
            case measure => simp [intOf]; omega
      · obtain rfl : j = a.length := by omega
        have he := ht.out
        rw [List.drop_length] at he
        have he2 := told_end he
        have he3 := congrArg List.length he2
        rw [List.length_drop] at he3
        simp at he3
        obtain rfl : m = l.length := by omega
        clear he he2 he3
        go_wp2_with fail
        go_ret
        exact R1.mk rfl (bnext hb2 hbr)
  · have k1 := rollN_bad (l := l) (width := width) (by rw [hz]; exact hz0)
    rw [hz] at k1
    simp only [] at k1
    subst k1
    have f1 : (z != 0) = true := by rw [bne_iff_ne]; exact hz0
    clear hz hz0
    go_enter Try.func3, Try.ntmps3
    go_wp2_with fail
    refine (rolls_true _).mono ?_
    rintro e w1 ⟨rfl, hb1⟩
    go_wp2_with fail
    refine (roll_any A _ c l rfl hlm width _ (by exact Hz.out) _ (by exact h.next hb1)).mono ?_
    rintro e w2 ⟨v, rfl, A2, c2, rfl, ho2, hb2'⟩
    have hb2 := bnext hb1 hb2'
    clear ho2
    go_wp2_with fail
    go_ret
    exact R1.mk rfl hb2
end Go.Proofs.Ytkcfhfplppdnnaa
