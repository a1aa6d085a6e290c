/- The walk of the law RateSteady: it returns true. Conditions: the argument's measures fit their kind. -/
import Derived.Test.YtdoinkflhjnflaaGrown
namespace Go.Proofs.Ytdoinkflhjnflaa
open Go.RowKit

def twoS : List Smp := [⟨1, 5⟩, ⟨3, 8⟩]
theorem twoS_ok : Smps twoS := by
  intro s hs
  simp only [twoS, List.mem_cons, List.not_mem_nil, or_false] at hs
  rcases hs with rfl | rfl <;> exact ⟨⟨by decide, by decide⟩, by decide, by decide⟩

set_option maxRecDepth 1000000 in
set_option maxHeartbeats 400000 in
theorem two_any (w : World) : Calls Try.prog 32 #[] w (RV fun v w' => ∃ A c, v = .slice A 2 c ∧ Has w' w'.heap.size A (smpCs twoS) ∧ Below w.heap.size w w') := by
  go_enter Try.func32, Try.ntmps32
  go_wp2
  go_ret
  exact RV.mk ⟨some ⟨w.heap.size, 0, none⟩, 2, rfl, Has.fresh w #[.int .i64 1, .int .i64 5, .int .i64 3, .int .i64 8] _, (Below.refl _ _).alloc (Nat.le_refl _) _⟩

set_option maxRecDepth 1000000 in
set_option maxHeartbeats 400000 in
theorem rates_true (w : World) : Calls Try.prog 20 #[] w (R1 (.bool true) (Below w.heap.size w)) := by
  have e0 : Hid (grN twoS = (3, 0, 0)) := Lib.hid (by decide +kernel)
  go_enter Try.func20, Try.ntmps20
  go_wp2_with fail
  refine (two_any _).mono ?_
  rintro e w1 ⟨v, rfl, A, c, rfl, h1, hb1⟩
  go_wp2_with fail
  refine (grown_any A c twoS twoS_ok (by decide) _ h1).mono ?_
  rintro e w2 ⟨rfl, hb2⟩
  rw [e0.out, R3i]
  go_wp2_with fail
  go_ret
  exact R1.mk rfl (bnext hb1 hb2)

theorem gr_steady {l : List Smp} (hp : ∀ j, 0 ≤ (at_ l j).v) (hs : Smps l) {k : Nat} (h : (grUp l k).2 = 0) : ((grUp l k).1 : Int) = (at_ l k).v - (at_ l 0).v := by
  induction k with
  | zero => simp [grUp]
  | succ k ih =>
    rw [grUp] at h ⊢
    split at h
    · simp at h
    · rename_i hn
      rw [if_neg hn]
      have h1 := ih h
      have p0 := hp 0
      have p1 := hp k
      have b1 := (hs.at (k + 1)).2
      unfold in64 at b1
      simp only []
      omega

set_option maxRecDepth 1000000 in
set_option maxHeartbeats 2000000 in
theorem rateSteady_true (w : World) (A : Option Addr) (c : Nat) (l : List Smp) (hs : Smps l) (hlc : l.length ≤ c) (hc : c ≤ maxLen) (_ : A = none → c = 0) (h : Has w w.heap.size A (smpCs l)) (hr : l.length ≤ 8796093022207) :
    Calls Try.prog 6 #[.slice A l.length c] w (R1 (.bool true) (Below w.heap.size w)) := by
  have hl : l.length ≤ maxLen := by omega
  have herr : (∃ e : Int, grN l = (0, 0, e) ∧ (e != 0) = true) ∨ (posS l = true ∧ grN l = ((grUp l (l.length - 1)).1, (grUp l (l.length - 1)).2, 0)) := by
    unfold grN
    by_cases hk : chkS l = 0
    · rw [if_neg (by rw [hk]; simp)]
      by_cases hp : posS l = true
      · exact .inr ⟨hp, by rw [if_pos hp]⟩
      · exact .inl ⟨6, by rw [if_neg hp], rfl⟩
    · exact .inl ⟨chkS l, by rw [if_pos hk], by rw [bne_iff_ne]; exact hk⟩
  rcases herr with ⟨e, hG, he⟩ | ⟨hp, hG⟩
  · have HG := Lib.hid hG; clear hG
    go_enter Try.func6, Try.ntmps6
    go_wp2_with fail
    refine (rates_true _).mono ?_
    rintro e w1 ⟨rfl, hb1⟩
    go_wp2_with fail
    refine (grown_any A c l hs hl _ (h.next hb1)).mono ?_
    rintro e w2 ⟨rfl, hb2⟩
    rw [HG.out, R3i]
    go_wp2_with fail
    go_ret
    exact R1.mk rfl (bnext hb1 hb2)
  · have hlt := grUp_lt l (l.length - 1)
    have hst := gr_steady (posS_at hp) hs (k := l.length - 1)
    have b1 := (hs.at (l.length - 1)).2
    have b0 := (hs.at 0).2
    have p1 := posS_at hp (l.length - 1)
    have p0 := posS_at hp 0
    unfold in64 at b1 b0
    rcases hxy : grUp l (l.length - 1) with ⟨x, a⟩
    rw [hxy] at hG hlt hst
    simp only at hG hlt hst
    have HG := Lib.hid hG; clear hG hxy
    have Hst := Lib.hid hst; clear hst
    by_cases h0 : l.length = 0
    · have f0 : ((l.length : Int) == 0) = true := by rw [beq_iff_eq]; omega
      have hx0 : Hid (x = 0 ∧ a = 0) := Lib.hid (by
        have ha : a = 0 := by omega
        have := Hst.out ha
        rw [show l.length - 1 = 0 by omega] at this
        exact ⟨by omega, ha⟩)
      clear h0
      rw [hx0.out.1, hx0.out.2] at HG
      go_enter Try.func6, Try.ntmps6
      go_wp2_with fail
      refine (rates_true _).mono ?_
      rintro e w1 ⟨rfl, hb1⟩
      go_wp2_with fail
      refine (grown_any A c l hs hl _ (h.next hb1)).mono ?_
      rintro e w2 ⟨rfl, hb2⟩
      rw [HG.out, R3i]
      go_wp2_with fail
      go_ret
      exact R1.mk rfl (bnext hb1 hb2)
    · have f0 : ((l.length : Int) == 0) = false := by rw [beq_eq_false_iff_ne]; omega
      have hpos : 0 < l.length := by omega
      clear h0
      by_cases ha : 0 < a
      · have q1 : (0 : Int) < (a : Int) := by omega
        have q2 : (a : Int) < (l.length : Int) := by omega
        clear ha
        go_enter Try.func6, Try.ntmps6
        go_wp2_with fail
        refine (rates_true _).mono ?_
        rintro e w1 ⟨rfl, hb1⟩
        go_wp2_with fail
        refine (grown_any A c l hs hl _ (h.next hb1)).mono ?_
        rintro e w2 ⟨rfl, hb2⟩
        rw [HG.out, R3i]
        go_wp2_with fail
        go_ret
        exact R1.mk (bool_eq (by simp)) (bnext hb1 hb2)
      · obtain rfl : a = 0 := by omega
        have hx := Lib.hid (Hst.out rfl)
        go_enter Try.func6, Try.ntmps6
        go_wp2_with fail
        refine (rates_true _).mono ?_
        rintro e w1 ⟨rfl, hb1⟩
        go_wp2_with fail
        refine (grown_any A c l hs hl _ (h.next hb1)).mono ?_
        rintro e w2 ⟨rfl, hb2⟩
        rw [HG.out, R3i]
        have hb2' := bnext hb1 hb2
        obtain ⟨ad, rfl, _, c1⟩ := (h.below hb2').at (smpCs_v (show l.length - 1 < l.length by omega))
        obtain ⟨ad', e, _, c2⟩ := (h.below hb2').at (smpCs_v hpos)
        injection e with e
        subst e
        have c1 := cell_off c1 (by decide)
        have c2 := cell_off c2 (by decide)
        have c2 : w2.cell? ⟨ad.block, ad.off + 1, none⟩ = some (.int .i64 (at_ l 0).v) := by simpa [Addr.add] using c2
        have e1 : IntKind.i64.wrap ((l.length : Int) - 1) = (l.length : Int) - 1 := IntWalk.i64_in _ (by omega)
        have e2 : ((l.length : Int) - 1).toNat = l.length - 1 := by omega
        have e3 : IntKind.i64.wrap ((at_ l (l.length - 1)).v - (at_ l 0).v) = (at_ l (l.length - 1)).v - (at_ l 0).v := IntWalk.i64_in _ (by omega)
        have hx2 := hx.out
        have e4 : IntKind.u64.wrap ((at_ l (l.length - 1)).v - (at_ l 0).v) = (at_ l (l.length - 1)).v - (at_ l 0).v := IntWalk.u64_in _ (by omega)
        have q1 : (1 : Int) ≤ (l.length : Int) := by omega
        have q2 : (0 : Int) < (l.length : Int) := by omega
        have q3 : (l.length : Int) - 1 < (l.length : Int) := by omega
        clear hx2
        go_wp2_with fail
        go_quiet (fail)
        go_wp2
        go_ret
        exact R1.mk (bool_eq (by rw [beq_iff_eq]; exact hx.out)) (below_drewN hb2' _)
end Go.Proofs.Ytdoinkflhjnflaa
