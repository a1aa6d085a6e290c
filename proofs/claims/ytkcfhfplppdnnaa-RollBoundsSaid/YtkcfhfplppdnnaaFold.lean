/- What fold of package roll computes. Conditions: numbers fit their kinds; at most a thousand windows. -/
import Derived.Test.YtkcfhfplppdnnaaRoll
import Derived.Test.YtkcfhfplppdnnaaStep
import Derived.Deep.RegionHeld3
import Derived.Deep.RegionLaw
import Derived.Deep.DrawnRows
namespace Go.Proofs.Ytkcfhfplppdnnaa
open Go.RowKit

theorem elWin : Elem Try.prog 24 29 7 56 := Elem.mk' (z := .agg #[.int .i64 0, .int .i64 0, .int .i64 0, .int .i64 0, .int .i64 0, .int .i64 0, .int .i64 0]) Try.underlying24 (by kernel_rfl) rfl (by decide)
def farW (w : Win) : Bool := decide (w.t < -1152921504606846976) || decide (1152921504606846976 < w.t)
def lastN (l : List Win) : Int := (at_ l (l.length - 1)).n
def bigAt (l : List Win) (k : Nat) : Bool := decide (1000000000 < lastN (coal (l.take (k + 1))))
def foldN (l : List Win) (width : Int) : List Win × Int :=
  if width < 1 ∨ 1099511627776 < width then ([], 1) else if l.any farW then ([], 6)
  else if (List.range l.length).any (bigAt (l.map (reT width))) then ([], 2) else (coal (l.map (reT width)), 0)
theorem coal_len (l : List Win) : (coal l).length ≤ l.length := by
  induction l with
  | nil => simp [coal]
  | cons w l ih =>
    rw [coal]
    cases h : coal l with
    | nil => simp [comb]
    | cons x r =>
      rw [h] at ih
      rw [comb]
      split <;> simp at ih ⊢ <;> omega
theorem glue_last (q : List Win) (x w : Win) : glue (q ++ [x]) [w] = if x.t = w.t then q ++ [bothW x w] else q ++ [x] ++ [w] := by
  have e : at_ (q ++ [x]) ((q ++ [x]).length - 1) = x := by
    rw [at_eq (by simp)]
    simp
  split
  · rename_i h
    rw [glue_same (by simp) (by rw [e]; exact h), e]
    simp
  · rename_i h
    rw [glue_new (.inr (by rw [e]; exact h))]
theorem coal_step {l : List Win} {k : Nat} (h : k < l.length) : coal (l.take (k + 1)) = glue (coal (l.take k)) [at_ l k] := by
  rw [take_at h, coal_app, coal_one]
def WinsP (x : List Win × Int) (w : World) (v : Value) (w' : World) : Prop :=
  ∃ A c, v = .tuple #[.slice A x.1.length c, .int .i64 x.2] ∧ w'.ownsRow w.heap.size 29 7 (.slice A x.1.length c) x.1.length (winCs x.1) ∧ Below w.heap.size w w'
theorem at_map {l : List Win} {f : Win → Win} {k : Nat} (h : k < l.length) : at_ (l.map f) k = f (at_ l k) := by
  rw [at_eq (by simpa using h), at_eq h]
  simp
theorem own_last {w : World} {base c : Nat} {O : Option Addr} {q : List Win} {x : Win} (h : w.ownsRow base 29 7 (.slice O (q ++ [x]).length c) (q ++ [x]).length (winCs (q ++ [x]))) :
    ∃ g, O = some ⟨g, 0, none⟩ ∧ base ≤ g ∧ g < w.heap.size ∧ WinAt w ⟨g, q.length * 7, none⟩ x ∧ ∀ j, w.frozen? ⟨g, j, none⟩ = false := by
  rcases h.2 with ⟨_, hn⟩ | ⟨g, cap, cur, hv, hbg, hg, _⟩
  · simp at hn
  · injection hv with hv _ _
    subst hv
    obtain ⟨ad, e, hlt, hw⟩ := (Has.of_own h).win (k := q.length) (by simp)
    injection e with e
    subst e
    have e1 : at_ (q ++ [x]) q.length = x := by rw [at_eq (by simp)]; simp
    have e2 : (⟨g, 0, none⟩ : Addr).add (q.length * 7) = ⟨g, q.length * 7, none⟩ := by
      unfold Addr.add; split <;> simp_all
    rw [e1, e2] at hw
    exact ⟨g, rfl, hbg, hlt, hw, fun j => frozen_of_row w g j cur _ hg⟩

theorem WinAt.next {w w' : World} {a : Addr} {x : Win} (h : WinAt w a x) {B : Nat} (hB : a.block < B) (hb : Below B w w') : WinAt w' a x := by
  obtain ⟨h0, h1, h2, h3, h4, h5, h6⟩ := h
  exact ⟨(hb.cell (p := a) hB).trans h0, (hb.cell (p := ⟨a.block, _, none⟩) hB).trans h1, (hb.cell (p := ⟨a.block, _, none⟩) hB).trans h2, (hb.cell (p := ⟨a.block, _, none⟩) hB).trans h3, (hb.cell (p := ⟨a.block, _, none⟩) hB).trans h4, (hb.cell (p := ⟨a.block, _, none⟩) hB).trans h5, (hb.cell (p := ⟨a.block, _, none⟩) hB).trans h6⟩
theorem slice_eq7 {A : Option Addr} {n m c : Nat} (h : n = m) : Value.slice A n c = .slice A m c := by rw [h]
theorem lastN_snoc (q : List Win) (w : Win) : lastN (q ++ [w]) = w.n := by
  unfold lastN
  rw [at_eq (by simp)]
  simp
theorem big_more {l : List Win} {k : Nat} {q : List Win} {w : Win} (h : ∀ j, j < k → bigAt l j = false) (e : coal (l.take (k + 1)) = q ++ [w]) (hw : w.n ≤ 1000000000) : ∀ j, j < k + 1 → bigAt l j = false := by
  intro j hj
  rcases Nat.lt_or_ge j k with h1 | h1
  · exact h j h1
  · rw [show j = k by omega]
    unfold bigAt
    rw [e, lastN_snoc, decide_eq_false_iff_not]
    omega
theorem both_any' (a b : Win) (ha : 0 ≤ a.n ∧ a.n ≤ 1000000000) (hb : 0 ≤ b.n ∧ b.n ≤ 1000000000) (w : World) :
    Calls Try.prog 60 #[.agg #[.int .i64 a.t, .int .i64 a.n, .int .i64 a.s, .int .i64 a.lo, .int .i64 a.hi, .int .i64 a.f, .int .i64 a.l], .agg #[.int .i64 b.t, .int .i64 b.n, .int .i64 b.s, .int .i64 b.lo, .int .i64 b.hi, .int .i64 b.f, .int .i64 b.l]] w (RV fun v w' => ∃ y : Win, v = .agg #[.int .i64 y.t, .int .i64 y.n, .int .i64 y.s, .int .i64 y.lo, .int .i64 y.hi, .int .i64 y.f, .int .i64 y.l] ∧ Hid (y = bothW a b) ∧ Below w.heap.size w w') :=
  (both_any a b ha hb w).mono fun _ _ ⟨he, hw⟩ => ⟨_, he, _, rfl, Lib.hid rfl, hw⟩

theorem set7_list (q : List Win) (x y : Win) : (((((((winCs (q ++ [x])).set (q.length * 7) (.int .i64 y.t)).set (q.length * 7 + 1) (.int .i64 y.n)).set (q.length * 7 + 2) (.int .i64 y.s)).set (q.length * 7 + 3) (.int .i64 y.lo)).set (q.length * 7 + 4) (.int .i64 y.hi)).set (q.length * 7 + 5) (.int .i64 y.f)).set (q.length * 7 + 6) (.int .i64 y.l) = winCs (q ++ [y]) := by
  have e : ∀ z, winCs (q ++ [z]) = winCs q ++ winC z := fun z => by rw [winCs_app]; simp [winCs]
  have s : ∀ (r : Nat) (t : List Value) (u : Value), (winCs q ++ t).set (q.length * 7 + r) u = winCs q ++ t.set r u := fun r t u => by
    rw [List.set_append_right _ _ (by rw [winCs_len]; omega), winCs_len]
    congr 2
    omega
  have s0 := fun t u => s 0 t u
  simp only [Nat.add_zero] at s0
  rw [e, e, s0, s, s, s, s, s, s]
  rfl
theorem own_set7 {w7 : World} {base n c g : Nat} {q : List Win} {x : Win} (h : w7.ownsRow base 29 7 (.slice (some ⟨g, 0, none⟩) n c) n (winCs (q ++ [x]))) (y : Win) :
    (((((((w7.setCell ⟨g, q.length * 7, none⟩ (.int .i64 y.t)).setCell ⟨g, q.length * 7 + 1, none⟩ (.int .i64 y.n)).setCell ⟨g, q.length * 7 + 2, none⟩ (.int .i64 y.s)).setCell ⟨g, q.length * 7 + 3, none⟩ (.int .i64 y.lo)).setCell ⟨g, q.length * 7 + 4, none⟩ (.int .i64 y.hi)).setCell ⟨g, q.length * 7 + 5, none⟩ (.int .i64 y.f)).setCell ⟨g, q.length * 7 + 6, none⟩ (.int .i64 y.l)).ownsRow base 29 7 (.slice (some ⟨g, 0, none⟩) n c) n (winCs (q ++ [y])) := by
  have := ((((((h.stored (q.length * 7) (.int .i64 y.t)).1.stored (q.length * 7 + 1) (.int .i64 y.n)).1.stored (q.length * 7 + 2) (.int .i64 y.s)).1.stored (q.length * 7 + 3) (.int .i64 y.lo)).1.stored (q.length * 7 + 4) (.int .i64 y.hi)).1.stored (q.length * 7 + 5) (.int .i64 y.f)).1.stored (q.length * 7 + 6) (.int .i64 y.l)
  rw [← set7_list q x y]
  exact this.1
theorem below_set7 {w w7 : World} {B g : Nat} {q : List Win} (h : Below B w w7) (hg : B ≤ g) (y : Win) : Below B w (((((((w7.setCell ⟨g, q.length * 7, none⟩ (.int .i64 y.t)).setCell ⟨g, q.length * 7 + 1, none⟩ (.int .i64 y.n)).setCell ⟨g, q.length * 7 + 2, none⟩ (.int .i64 y.s)).setCell ⟨g, q.length * 7 + 3, none⟩ (.int .i64 y.lo)).setCell ⟨g, q.length * 7 + 4, none⟩ (.int .i64 y.hi)).setCell ⟨g, q.length * 7 + 5, none⟩ (.int .i64 y.f)).setCell ⟨g, q.length * 7 + 6, none⟩ (.int .i64 y.l)) :=
  ((((((h.setCell hg _).setCell hg _).setCell hg _).setCell hg _).setCell hg _).setCell hg _).setCell hg _

theorem own_last' {w : World} {base c g : Nat} {q : List Win} {x : Win} (h : w.ownsRow base 29 7 (.slice (some ⟨g, 0, none⟩) (q ++ [x]).length c) (q ++ [x]).length (winCs (q ++ [x]))) :
    ∃ g', g' = g ∧ base ≤ g ∧ g < w.heap.size ∧ WinAt w ⟨g, q.length * 7, none⟩ x ∧ True := by
  obtain ⟨g', e, h1, h2, h3, _⟩ := own_last h
  injection e with e
  injection e with e
  subst e
  exact ⟨g, rfl, h1, h2, h3, trivial⟩

set_option maxRecDepth 1000000 in
set_option maxHeartbeats 4000000 in
theorem fold_any (A : Option Addr) (c : Nat) (l : List Win) (hl : l.length ≤ 1000) (hn : ∀ x ∈ l, 0 ≤ x.n ∧ x.n ≤ 1000000000) (width : Int) (w : World) (hA : Has w w.heap.size A (winCs l)) :
    Calls Try.prog 45 #[.slice A l.length c, .int .i64 width] w (RV (WinsP (foldN l width) w)) := by
  by_cases hw : width < 1 ∨ 1099511627776 < width
  · have E := Lib.hid (show foldN l width = ([], 1) by unfold foldN; rw [if_pos hw])
    rw [E.out]
    rcases (show width < 1 ∨ (1 ≤ width ∧ 1099511627776 < width) by omega) with h1 | ⟨h1, h2⟩
    all_goals
      clear hw
      go_enter Try.func45, Try.ntmps45
      go_wp2_with fail
      go_ret2
      exact RV.mk ⟨none, 0, rfl, ⟨rfl, .inl ⟨rfl, rfl⟩⟩, Below.refl _ _⟩
  · have hw1 : 1 ≤ width := by omega
    have hw2 : width ≤ 1099511627776 := by omega
    have HW := Lib.hid hw; clear hw
    go_enter Try.func45, Try.ntmps45
    go_wp2_with fail
    go_loopw [20] (fun i wr => ∃ k : Nat, k ≤ l.length ∧ i = .int .i64 (k : Nat) ∧ Hid (∀ j, j < k → farW (at_ l j) = false) ∧ Below w.heap.size w wr) (fun i _ => l.length + 5 - (intOf i).toNat)
    case atStart => exact ⟨0, by omega, rfl, Lib.hid (fun j hj => by omega), Below.refl _ _⟩
    case round =>
      obtain ⟨k, hk, rfl, hfar, hbr⟩ := hrel
      have hbs := hbr.size
      by_cases hlt : (k : Int) < (l.length : Int)
      · obtain ⟨ad, rfl, _, d0, d1, d2, d3, d4, d5, d6⟩ := (hA.below hbr).win (show k < l.length by omega)
        by_cases hf : (at_ l k).t < -1152921504606846976 ∨ 1152921504606846976 < (at_ l k).t
        · have E := Lib.hid (show foldN l width = ([], 6) by
            unfold foldN
            rw [if_neg HW.out, if_pos]
            rw [List.any_eq_true]
            exact ⟨_, at_mem (show k < l.length by omega), by unfold farW; simpa using hf⟩)
          rw [E.out]
          rcases (show (at_ l k).t < -1152921504606846976 ∨ (-1152921504606846976 ≤ (at_ l k).t ∧ 1152921504606846976 < (at_ l k).t) by omega) with h1 | ⟨h1, h2⟩
          all_goals
            clear hf
            go_wp2_with fail
            go_ret2
            exact RV.mk ⟨none, 0, rfl, ⟨rfl, .inl ⟨rfl, rfl⟩⟩, hbr.alloc hbs _⟩
        · have h1 : -1152921504606846976 ≤ (at_ l k).t := by omega
          have h2 : (at_ l k).t ≤ 1152921504606846976 := by omega
          clear hf
          go_wp2_with fail
          go_roundw
          case rel => exact ⟨k + 1, by omega, by go_num, Lib.hid (fun j hj => by rcases Nat.lt_or_ge j k with h3 | h3; exact hfar.out j h3; rw [show j = k by omega]; unfold farW; simp; omega), hbr.alloc hbs _⟩
          case measure => simp [intOf]; omega
      · have hall : Hid (l.any farW = false) := Lib.hid (by
          rw [List.any_eq_false]
          intro x hx
          obtain ⟨j, hj, rfl⟩ := List.getElem_of_mem hx
          have := hfar.out j (by omega)
          rw [at_eq hj] at this
          simp [this])
        go_wp2_with fail
        obtain ⟨wo, rfl⟩ : ∃ wo : World, wo = wr := ⟨_, rfl⟩
        go_loopw [8, 35] (fun v i wq => ∃ (k : Nat) (o' : List Win) (O : Option Addr) (e : Nat), k ≤ l.length ∧ i = .int .i64 (k : Nat) ∧ v = .slice O o'.length e ∧ o'.length ≤ 1000 ∧ Hid (o' = coal ((l.map (reT width)).take k)) ∧ Hid (∀ x ∈ o', 0 ≤ x.n ∧ x.n ≤ 1000000000) ∧ Hid (∀ j, j < k → bigAt (l.map (reT width)) j = false) ∧
          wq.ownsRow w.heap.size 29 7 (.slice O o'.length e) o'.length (winCs o') ∧ Below w.heap.size w wq) (fun _ i _ => l.length + 5 - (intOf i).toNat)
        case atStart => exact ⟨0, [], none, 0, by omega, rfl, rfl, by simp, Lib.hid rfl, Lib.hid (by simp), Lib.hid (fun j hj => by omega), ⟨rfl, .inl ⟨rfl, rfl⟩⟩, hbr⟩
        case round =>
          obtain ⟨k2, o', O, e, hk2, rfl, rfl, ho1, hco, hon, hbig, hown, hbq⟩ := hrel
          have hbs2 := hbq.size
          by_cases hlt2 : (k2 : Int) < (l.length : Int)
          · obtain ⟨ad, rfl, hadb, d0, d1, d2, d3, d4, d5, d6⟩ := (hA.below hbq).win (show k2 < l.length by omega)
            have hnk := hn _ (at_mem (show k2 < l.length by omega))
            have hfk := hall.out
            rw [List.any_eq_false] at hfk
            have hfk2 := hfk _ (at_mem (show k2 < l.length by omega))
            have h1 : -1152921504606846976 ≤ (at_ l k2).t := by simp [farW] at hfk2; omega
            have h2 : (at_ l k2).t ≤ 1152921504606846976 := by simp [farW] at hfk2; omega
            clear hfk hfk2
            have hst := start_in (t := (at_ l k2).t) (w := width) (by omega)
            obtain ⟨st, hst'⟩ : ∃ st, startI (at_ l k2).t width = st := ⟨_, rfl⟩
            rw [hst'] at hst
            have Hst := Lib.hid hst'; clear hst'
            have hstep : Hid (coal ((l.map (reT width)).take (k2 + 1)) = glue o' [⟨st, (at_ l k2).n, (at_ l k2).s, (at_ l k2).lo, (at_ l k2).hi, (at_ l k2).f, (at_ l k2).l⟩]) := Lib.hid (by
              rw [coal_step (by simp; omega), ← hco.out, at_map (by omega), reT, Hst.out])
            rcases List.eq_nil_or_concat o' with rfl | ⟨q, x, rfl⟩
            · have hown := Lib.hid hown
              have p0 : ((([] : List Win).length : Int) - 1) = -1 := by simp
              go_wp2_with fail
              refine (start_any _ _ (by omega) (by omega) _).mono ?_
              rintro e w1 ⟨rfl, rfl⟩
              rw [Hst.out]
              go_wp2_with fail
              go_quiet (fail)
              go_wp2_with (at_builtin; refine wpList_append1 rfl _ _ _ rfl elWin rfl (by exact own_drewN (hown.out.alloc _) _) (by rfl) (by simp) rfl ?_ ?c1 ?c2 ?c3 ?c4; intro A' c' w6 hown6 hgrow hb6)
              case c1 => first | exact ⟨rfl, rfl, rfl, rfl, rfl, rfl, rfl⟩ | (intro u hu; simp at hu; rcases hu with rfl | rfl | rfl | rfl | rfl | rfl | rfl <;> rfl)
              case c2 => omega
              case c3 => unfold maxLen; omega
              case c4 => simp; omega
              have hown7 := Lib.hid hown6; clear hown6
              refine ⟨⟨k2 + 1, [⟨st, (at_ l k2).n, (at_ l k2).s, (at_ l k2).lo, (at_ l k2).hi, (at_ l k2).f, (at_ l k2).l⟩], A', c', by omega, by go_num, rfl, by simp, Lib.hid (by rw [hstep.out]; rfl), Lib.hid (by intro y hy; simp at hy; subst hy; exact hnk), Lib.hid (big_more (q := []) hbig.out hstep.out hnk.2), by exact hown7.out, ?_⟩, by simp [intOf]; omega⟩
              exact (below_drewN (hbq.alloc hbs2 _) nq).trans hb6
            · simp only [List.concat_eq_append] at *
              obtain ⟨g, rfl, hbg, hgl, ⟨x0, x1, x2, x3, x4, x5, x6⟩, hfz⟩ := own_last hown
              have hql : q.length + 1 ≤ 1000 := by simpa using ho1
              have pq : decide ((q.length : Int) < 0) = false := by rw [decide_eq_false_iff_not]; omega
              have pq1 : (0 : Int) ≤ (q.length : Int) := by omega
              have pq2 : (q.length : Int) < (q.length : Int) + 1 := by omega
              have hqc : ((q ++ [x]).length : Int) = (q.length : Int) + 1 := by simp
              by_cases hx : x.t = st
              · have hxn := hon.out x (by simp)
                have hx' : (x.t != st) = false := by rw [bne_eq_false_iff_eq]; exact hx
                have Hx := Lib.hid hx; clear hx
                have Hown := Lib.hid hown; clear hown
                go_wp2_with fail
                refine (start_any _ _ (by omega) (by omega) _).mono ?_
                rintro e w1 ⟨rfl, rfl⟩
                rw [Hst.out]
                go_wp2_with fail
                go_quiet (fail)
                have kS : ∀ nq, Blk ((wr.alloc (.cells #[.int .i64 st, .int .i64 (at_ l k2).n, .int .i64 (at_ l k2).s, .int .i64 (at_ l k2).lo, .int .i64 (at_ l k2).hi, .int .i64 (at_ l k2).f, .int .i64 (at_ l k2).l] 29)).drewN nq) wr.heap.size 29 #[.int .i64 st, .int .i64 (at_ l k2).n, .int .i64 (at_ l k2).s, .int .i64 (at_ l k2).lo, .int .i64 (at_ l k2).hi, .int .i64 (at_ l k2).f, .int .i64 (at_ l k2).l] := fun nq => (Blk.new _ _ _).drewN nq
                have hW0 : WinAt ((wr.alloc (.cells #[.int .i64 st, .int .i64 (at_ l k2).n, .int .i64 (at_ l k2).s, .int .i64 (at_ l k2).lo, .int .i64 (at_ l k2).hi, .int .i64 (at_ l k2).f, .int .i64 (at_ l k2).l] 29)).drewN nq) ⟨g, q.length * 7, none⟩ x := WinAt.next ⟨x0, x1, x2, x3, x4, x5, x6⟩ (B := wr.heap.size) hgl (below_drewN ((Below.refl _ _).alloc (Nat.le_refl _) _) _)
                obtain ⟨y0, y1, y2, y3, y4, y5, y6⟩ := hW0
                have z0 := (kS nq).cell 0
                have z1 := (kS nq).cell 1
                have z2 := (kS nq).cell 2
                have z3 := (kS nq).cell 3
                have z4 := (kS nq).cell 4
                have z5 := (kS nq).cell 5
                have z6 := (kS nq).cell 6
                clear d0 d1 d2 d3 d4 d5 d6 hfz kS h1 h2 hst y0 y1 y2 y3 y4 y5 y6 z0 z1 z2 z3 z4 z5 z6
                have Hn := Lib.hid hn; clear hn
                have Hlt2 := Lib.hid hlt2; clear hlt2
                have HA := Lib.hid hA; clear hA
                go_wp2_with fail
                go_region_law ((go_simp; go_at_call 60; refine (both_any' x ⟨st, (at_ l k2).n, (at_ l k2).s, (at_ l k2).lo, (at_ l k2).hi, (at_ l k2).f, (at_ l k2).l⟩ hxn hnk _).mono ?_; rintro e w7 ⟨v7, rfl, y, rfl, Hy, hb7⟩; have hO7 := Lib.hid (own_next (own_drewN (Hown.out.alloc _) _) hb7); have f0 := hO7.out.frozenAt (q.length * 7); have f1 := hO7.out.frozenAt (q.length * 7 + 1); have f2 := hO7.out.frozenAt (q.length * 7 + 2); have f3 := hO7.out.frozenAt (q.length * 7 + 3); have f4 := hO7.out.frozenAt (q.length * 7 + 4); have f5 := hO7.out.frozenAt (q.length * 7 + 5); have f6 := hO7.out.frozenAt (q.length * 7 + 6); obtain ⟨_, _, _, _, ⟨e0, e1, e2, e3, e4, e5, e6⟩, _⟩ := own_last' hO7.out))
                all_goals
                  have own8 := own_set7 hO7.out y
                  rw [show (q ++ [x]).length = (q ++ [y]).length by simp] at own8
                  have hb8 := below_set7 (q := q) ((below_drewN (hbq.alloc hbs2 _) _).trans (hb7.mono (by simp; omega))) hbg y
                  generalize (((((((w7.setCell ⟨g, q.length * 7, none⟩ (.int .i64 y.t)).setCell ⟨g, q.length * 7 + 1, none⟩ (.int .i64 y.n)).setCell ⟨g, q.length * 7 + 2, none⟩ (.int .i64 y.s)).setCell ⟨g, q.length * 7 + 3, none⟩ (.int .i64 y.lo)).setCell ⟨g, q.length * 7 + 4, none⟩ (.int .i64 y.hi)).setCell ⟨g, q.length * 7 + 5, none⟩ (.int .i64 y.f)).setCell ⟨g, q.length * 7 + 6, none⟩ (.int .i64 y.l)) = w8 at own8 hb8 ⊢
                  clear hO7 hb7
                  obtain ⟨_, _, _, _, ⟨_, e1', _, _, _, _, _⟩, _⟩ := own_last' own8
                  have own8 := Lib.hid own8
                  have hyn : y.n = x.n + (at_ l k2).n := by rw [Hy.out]; rfl
                  have hyn1 : 0 ≤ y.n := by omega
                  have hst2 : Hid (coal ((l.map (reT width)).take (k2 + 1)) = q ++ [y]) := Lib.hid (by rw [hstep.out, glue_last, if_pos Hx.out, ← Hy.out])
                  clear hyn
                  by_cases hb9 : 1000000000 < y.n
                  · have E := Lib.hid (show foldN l width = ([], 2) by
                      unfold foldN
                      rw [if_neg HW.out, if_neg (by rw [hall.out]; simp), if_pos]
                      rw [List.any_eq_true]
                      refine ⟨k2, by rw [List.mem_range]; have := Hlt2.out; omega, ?_⟩
                      unfold bigAt
                      rw [hst2.out, lastN_snoc, decide_eq_true_iff]
                      exact hb9)
                    go_wp2_with fail
                    go_ret2
                    rw [E.out]
                    exact RV.mk ⟨none, 0, rfl, ⟨rfl, .inl ⟨rfl, rfl⟩⟩, hb8⟩
                  · have hb9' : y.n ≤ 1000000000 := by omega
                    go_wp2_with fail
                    have hlt3 := Hlt2.out
                    refine ⟨⟨k2 + 1, q ++ [y], _, e, by omega, by go_num, slice_eq7 (by simp), by simpa using hql, Lib.hid (by rw [hst2.out]), Lib.hid (by
                      intro z hz
                      rcases List.mem_append.1 hz with hz | hz
                      · exact hon.out z (by simp [hz])
                      · simp at hz; subst hz; exact ⟨hyn1, hb9'⟩), Lib.hid (big_more hbig.out hst2.out hb9'), by have := own8.out; simpa using this, hb8⟩, by simp [intOf]; omega⟩
              · have hx' : (x.t != st) = true := by rw [bne_iff_ne]; exact hx
                have Hx := Lib.hid hx; clear hx
                have hown : Hid (wr.ownsRow w.heap.size 29 7 (.slice (some ⟨g, 0, none⟩) (q.length + 1) e) (q.length + 1) (winCs (q ++ [x]))) := Lib.hid (by simpa using hown)
                go_wp2_with fail
                refine (start_any _ _ (by omega) (by omega) _).mono ?_
                rintro e w1 ⟨rfl, rfl⟩
                rw [Hst.out]
                go_wp2_with fail
                go_quiet (fail)
                go_wp2_with (at_builtin; refine wpList_append1 rfl _ _ _ rfl elWin rfl (by exact own_drewN (hown.out.alloc _) _) (by rfl) (by simp) rfl ?_ ?c1 ?c2 ?c3 ?c4; intro A' c' w6 hown6 hgrow hb6)
                case c1 => first | exact ⟨rfl, rfl, rfl, rfl, rfl, rfl, rfl⟩ | (intro u hu; simp at hu; rcases hu with rfl | rfl | rfl | rfl | rfl | rfl | rfl <;> rfl)
                case c2 => omega
                case c3 => unfold maxLen; omega
                case c4 => simp; omega
                have hown7 := Lib.hid hown6; clear hown6
                have hst2 : Hid (coal ((l.map (reT width)).take (k2 + 1)) = (q ++ [x]) ++ [⟨st, (at_ l k2).n, (at_ l k2).s, (at_ l k2).lo, (at_ l k2).hi, (at_ l k2).f, (at_ l k2).l⟩]) := Lib.hid (by rw [hstep.out, glue_last, if_neg Hx.out])
                refine ⟨⟨k2 + 1, (q ++ [x]) ++ [⟨st, (at_ l k2).n, (at_ l k2).s, (at_ l k2).lo, (at_ l k2).hi, (at_ l k2).f, (at_ l k2).l⟩], A', c', by omega, by go_num, slice_eq7 (by simp), by
                    have := coal_len ((l.map (reT width)).take (k2 + 1))
                    rw [hst2.out, List.length_take, List.length_map] at this
                    omega, Lib.hid (by rw [hst2.out]), Lib.hid (by
                    intro y hy
                    rcases List.mem_append.1 hy with hy | hy
                    · exact hon.out y hy
                    · simp at hy; subst hy; exact hnk), Lib.hid (big_more hbig.out hst2.out hnk.2), by have := hown7.out; rw [winCs_app, List.length_append, List.length_append]; exact this, ?_⟩, by simp [intOf]; omega⟩
                exact (below_drewN (hbq.alloc hbs2 _) nq).trans hb6
          · have E := Lib.hid (show foldN l width = (o', 0) by
              unfold foldN
              rw [if_neg HW.out, if_neg (by rw [hall.out]; simp), if_neg, hco.out, List.take_of_length_le (by simp; omega)]
              rw [Bool.not_eq_true, List.any_eq_false]
              intro j hj
              rw [List.mem_range] at hj
              rw [hbig.out j (by omega)]
              simp)
            go_wp2_with fail
            go_ret2
            rw [E.out]
            exact RV.mk ⟨O, e, rfl, hown, hbq⟩
end Go.Proofs.Ytkcfhfplppdnnaa
