/- What both and start of package roll compute. Conditions: numbers fit their kinds. -/
import Derived.Test.YtkcfhfplppdnnaaRollLaw
import Derived.Test.YtkcfhfplppdnnaaOwn
namespace Go.Proofs.Ytkcfhfplppdnnaa
open Go.RowKit

def winC (w : Win) : List Value := [.int .i64 w.t, .int .i64 w.n, .int .i64 w.s, .int .i64 w.lo, .int .i64 w.hi, .int .i64 w.f, .int .i64 w.l]
def winCs (l : List Win) : List Value := l.flatMap winC
theorem winCs_len (l : List Win) : (winCs l).length = l.length * 7 := flat_len (f := winC) (C := 7) (fun _ => rfl) l
theorem winCs_app (l k : List Win) : winCs (l ++ k) = winCs l ++ winCs k := by simp [winCs]
theorem winCs_at {l : List Win} {k : Nat} (h : k < l.length) {r : Nat} (hr : r < 7) : (winCs l)[k * 7 + r]? = (winC (at_ l k))[r]? := flat_at (f := winC) (C := 7) (fun _ => rfl) h hr
theorem winCs_one (l : List Win) : ∀ u ∈ winCs l, u.oneCell' = true := by
  intro u hu
  simp only [winCs, List.mem_flatMap, winC] at hu
  obtain ⟨s, _, hu⟩ := hu
  simp at hu
  rcases hu with rfl | rfl | rfl | rfl | rfl | rfl | rfl <;> rfl
/-- the seven cells of a window -/
def WinAt (w : World) (a : Addr) (x : Win) : Prop :=
  w.cell? a = some (.int .i64 x.t) ∧ w.cell? ⟨a.block, a.off + 1, none⟩ = some (.int .i64 x.n) ∧ w.cell? ⟨a.block, a.off + 2, none⟩ = some (.int .i64 x.s) ∧ w.cell? ⟨a.block, a.off + 3, none⟩ = some (.int .i64 x.lo) ∧
  w.cell? ⟨a.block, a.off + 4, none⟩ = some (.int .i64 x.hi) ∧ w.cell? ⟨a.block, a.off + 5, none⟩ = some (.int .i64 x.f) ∧ w.cell? ⟨a.block, a.off + 6, none⟩ = some (.int .i64 x.l)
theorem Has.win {w : World} {B : Nat} {A : Option Addr} {l : List Win} (h : Has w B A (winCs l)) {k : Nat} (hk : k < l.length) :
    ∃ ad : Addr, A = some ad ∧ ad.block < B ∧ WinAt w (ad.add (k * 7)) (at_ l k) := by
  obtain ⟨ad, rfl, hb, h0⟩ := h.at (u := .int .i64 (at_ l k).t) (winCs_at hk (r := 0) (by decide))
  have more : ∀ r u, 0 < r → r < 7 → (winC (at_ l k))[r]? = some u → w.cell? ⟨(ad.add (k * 7)).block, (ad.add (k * 7)).off + r, none⟩ = some u := by
    intro r u hr0 hr hu
    obtain ⟨ad', e, _, h1⟩ := h.at (u := u) ((winCs_at hk hr).trans hu)
    injection e with e
    subst e
    exact cell_off h1 hr0
  exact ⟨ad, rfl, hb, h0, more 1 _ (by decide) (by decide) rfl, more 2 _ (by decide) (by decide) rfl, more 3 _ (by decide) (by decide) rfl, more 4 _ (by decide) (by decide) rfl, more 5 _ (by decide) (by decide) rfl, more 6 _ (by decide) (by decide) rfl⟩

theorem tmod_start {t w : Int} (hw : 0 < w) : (0 ≤ t.tmod w → t - t.tmod w = startI t w) ∧ (t.tmod w < 0 → t - (t.tmod w + w) = startI t w) ∧ -w < t.tmod w ∧ t.tmod w < w := by
  have h1 := Int.emod_nonneg t (show w ≠ 0 by omega)
  have h2 := Int.emod_lt_of_pos t hw
  have e := Int.tmod_eq_emod (a := t) (b := w)
  have e3 : (w.natAbs : Int) = w := by omega
  unfold startI
  split at e
  · refine ⟨fun _ => by omega, fun _ => by omega, by omega, by omega⟩
  · rename_i hn
    have hz : t % w ≠ 0 := fun hz => hn (.inr (Int.dvd_of_emod_eq_zero hz))
    rw [e3] at e
    refine ⟨fun _ => by omega, fun _ => by omega, by omega, by omega⟩

set_option maxRecDepth 1000000 in
set_option maxHeartbeats 400000 in
theorem start_any (t width : Int) (ht : -2305843009213693952 ≤ t ∧ t ≤ 2305843009213693952) (hw : 1 ≤ width ∧ width ≤ 1099511627776) (w : World) :
    Calls Try.prog 61 #[.int .i64 t, .int .i64 width] w (R1 (.int .i64 (startI t width)) (fun w' => w' = w)) := by
  obtain ⟨s1, s2, s3, s4⟩ := tmod_start (t := t) (w := width) (by omega)
  have hw0 : (width == 0) = false := by rw [beq_eq_false_iff_ne]; omega
  obtain ⟨r, hr⟩ : ∃ r, t.tmod width = r := ⟨_, rfl⟩
  rw [hr] at s1 s2 s3 s4
  have S1 := Lib.hid s1; clear s1
  have S2 := Lib.hid s2; clear s2
  have hr' : IntKind.i64.wrap (t.tmod width) = r := by rw [hr]; exact IntWalk.i64_in _ (by omega)
  by_cases h : r < 0
  · go_enter Try.func61, Try.ntmps61
    go_wp2
    go_ret
    exact R1.mk (int_eq (S2.out h)) rfl
  · go_enter Try.func61, Try.ntmps61
    go_wp2
    go_ret
    exact R1.mk (int_eq (S1.out (by omega))) rfl

def winV (w : Win) : Value := .agg #[.int .i64 w.t, .int .i64 w.n, .int .i64 w.s, .int .i64 w.lo, .int .i64 w.hi, .int .i64 w.f, .int .i64 w.l]
set_option maxRecDepth 1000000 in
set_option maxHeartbeats 1000000 in
theorem both_any (a b : Win) (ha : 0 ≤ a.n ∧ a.n ≤ 1000000000) (hb : 0 ≤ b.n ∧ b.n ≤ 1000000000) (w : World) :
    Calls Try.prog 60 #[.agg #[.int .i64 a.t, .int .i64 a.n, .int .i64 a.s, .int .i64 a.lo, .int .i64 a.hi, .int .i64 a.f, .int .i64 a.l], .agg #[.int .i64 b.t, .int .i64 b.n, .int .i64 b.s, .int .i64 b.lo, .int .i64 b.hi, .int .i64 b.f, .int .i64 b.l]] w (R1 (winV (bothW a b)) (Below w.heap.size w)) := by
  go_enter Try.func60, Try.ntmps60
  go_wp2
  all_goals
    refine bodyPost_ret (v := winV (bothW a b)) (by simp [results, Try.results60, go_sem, winV, bothW]; omega) rfl (R1.mk rfl ?_)
    exact (((Below.refl _ _).alloc (Nat.le_refl _) _).alloc (by simp) _).alloc (by simp; omega) _
end Go.Proofs.Ytkcfhfplppdnnaa
