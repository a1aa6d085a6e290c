/- What slices.Clone and slices.Reverse make of a row of edges. Conditions: the row is the call's own, where it is reversed. -/
import Derived.Test.YtokilodekbjpnaaSpread
import Derived.Deep.RegionHeldLaw
namespace Go.Proofs.Ytokilodekbjpnaa
open Go.RowKit

theorem elEd : Elem Try.prog 23 44 2 16 := Elem.mk' (z := .agg #[.int .i64 0, .int .i64 0]) Try.underlying23 (by kernel_rfl) rfl (by decide)
theorem edCs_len (l : List Edg) : (edCs l).length = l.length * 2 := flat_len (f := edC) (C := 2) (fun _ => rfl) l
theorem edCs_one (l : List Edg) : ∀ u ∈ edCs l, u.oneCell' = true := by
  intro u hu
  simp only [edCs, List.mem_flatMap] at hu
  obtain ⟨b, _, hb⟩ := hu
  simp [edC] at hb
  rcases hb with rfl | rfl <;> rfl
theorem edCs_app (l m : List Edg) : edCs (l ++ m) = edCs l ++ edCs m := by simp [edCs]
theorem edCs_set (l : List Edg) (k : Nat) (e : Edg) : ((edCs l).set (k * 2) (.int .i64 e.f)).set (k * 2 + 1) (.int .i64 e.t) = edCs (l.set k e) := by
  induction l generalizing k with
  | nil => rfl
  | cons x l ih =>
    cases k with
    | zero => rfl
    | succ k =>
      rw [List.set_cons_succ]
      show ((Value.int .i64 x.f :: Value.int .i64 x.t :: edCs l).set ((k + 1) * 2) _).set ((k + 1) * 2 + 1) _ = Value.int .i64 x.f :: Value.int .i64 x.t :: edCs (l.set k e)
      rw [← ih, show (k + 1) * 2 = k * 2 + 1 + 1 from by omega]
      rfl
set_option maxRecDepth 1000000 in
set_option maxHeartbeats 400000 in
theorem cloneEd_any (A : Option Addr) (n c : Nat) (xs : List Value) (hl : xs.length = n * 2) (h1 : ∀ u ∈ xs, u.oneCell' = true) (hA : A = none → n = 0 ∧ c = 0) (hmax : n * 16 ≤ 140737488355328) (w : World) (h : Has w w.heap.size A xs) :
    Calls Try.prog 20 #[.slice A n c] w (RV fun v w' => ∃ A' c', v = .slice A' n c' ∧ w'.ownsRow w.heap.size 44 2 (.slice A' n c') n xs ∧ Below w.heap.size w w') := by
  have hq := fun (w : World) (a : Option Addr) (n c n' c' : Nat) => Lib.run_eql_slice_nil (P := Try.prog) w 23 44 a n c n' c' Try.underlying23
  cases A with
  | none =>
    obtain ⟨rfl, rfl⟩ := hA rfl
    go_enter Try.func20, Try.ntmps20
    go_wp2
    go_ret
    exact RV.mk ⟨none, 0, rfl, ⟨hl, .inl ⟨rfl, rfl⟩⟩, Below.refl _ _⟩
  | some ad =>
    go_enter Try.func20, Try.ntmps20
    go_wp2_with (at_builtin; refine wpList_spread rfl _ _ _ rfl elEd rfl (World.ownsRow_made (base := w.heap.size) w #[] 0 (Nat.le_refl _) (Nat.zero_le _) rfl) rfl ((h.keep fun p hp => World.cell?_alloc_lt w _ p hp)) ?_ ?c1 ?c2 ?c3 ?c4 ?c5; intro A' c' w1 hown hgrow hbel)
    case c1 => exact hl
    case c2 => exact h1
    case c3 => omega
    case c4 => unfold maxLen; omega
    case c5 => simp
    go_ret
    rw [Nat.zero_add, List.nil_append] at hown
    exact RV.mk ⟨A', c', rfl, hown, ((Below.refl _ _).alloc (Nat.le_refl _) _).trans hbel⟩

/-- the places below i and their mirrors have been swapped -/
def Mir (l O : List Edg) (i : Nat) : Prop := O.length = l.length ∧ ∀ q, q < l.length → at_ O q = if q < i ∨ l.length ≤ q + i then at_ l (l.length - 1 - q) else at_ l q
theorem Mir.start (l : List Edg) : Mir l l 0 := ⟨rfl, fun q hq => by rw [if_neg (by omega)]⟩
theorem Mir.step {l O : List Edg} {i j : Nat} (h : Mir l O i) (hij : i < j) (hj : j + i + 1 = l.length) : Mir l ((O.set i (at_ l j)).set j (at_ l i)) (i + 1) := by
  refine ⟨by rw [List.length_set, List.length_set]; exact h.1, fun q hq => ?_⟩
  rw [at_set, at_set, List.length_set, h.1]
  by_cases h1 : j = q
  · subst h1
    rw [if_pos ⟨rfl, hq⟩, if_pos (by omega), show l.length - 1 - j = i from by omega]
  · rw [if_neg (fun g => h1 g.1)]
    by_cases h2 : i = q
    · subst h2
      rw [if_pos ⟨rfl, hq⟩, if_pos (by omega), show l.length - 1 - i = j from by omega]
    · rw [if_neg (fun g => h2 g.1), h.2 q hq]
      by_cases h3 : q < i ∨ l.length ≤ q + i
      · rw [if_pos h3, if_pos (by omega)]
      · rw [if_neg h3, if_neg (by omega)]
theorem Mir.get {l O : List Edg} {i j : Nat} (h : Mir l O i) (hij : i < j) (hj : j + i + 1 = l.length) : at_ O i = at_ l i ∧ at_ O j = at_ l j :=
  ⟨by rw [h.2 i (by omega), if_neg (by omega)], by rw [h.2 j (by omega), if_neg (by omega)]⟩
theorem Mir.done {l O : List Edg} {i : Nat} (h : Mir l O i) (hi : l.length ≤ 2 * i + 1) : O = l.reverse := by
  apply List.ext_getElem
  · rw [h.1, List.length_reverse]
  · intro q h1 h2
    have hq : q < l.length := by rw [← h.1]; exact h1
    have := h.2 q hq
    rw [at_eq h1] at this
    rw [this, List.getElem_reverse]
    by_cases h3 : q < i ∨ l.length ≤ q + i
    · rw [if_pos h3, at_eq (by omega)]
    · rw [if_neg h3, at_eq hq]
      congr 1
      omega

set_option maxRecDepth 1000000 in
set_option maxHeartbeats 8000000 in
theorem revEd_any {base n c : Nat} {A : Option Addr} (l : List Edg) (hn : l.length = n) (w : World) (hbase : base ≤ w.heap.size) (hown : w.ownsRow base 44 2 (.slice A n c) n (edCs l)) :
    Calls Try.prog 21 #[.slice A n c] w (R1 (.tuple #[]) (fun w' => w'.ownsRow base 44 2 (.slice A n c) n (edCs l.reverse) ∧ w.grownBy w' (Value.slice A n c).ownBlock)) := by
  have hnm : n ≤ 9223372036854775807 := by have := own_len hown; unfold maxLen at this; omega
  have Hn := Lib.hid hn
  have e0 : IntKind.i64.wrap ((n : Int) - 1) = (n : Int) - 1 := IntWalk.i64_in _ (by omega)
  clear hn
  go_enter Try.func21, Try.ntmps21
  go_wp2_with fail
  go_loopw [2, 3] (fun a b wr => ∃ (i : Nat) (O : List Edg), i ≤ n ∧ a = .int .i64 (i : Nat) ∧ b = .int .i64 ((n : Int) - 1 - i) ∧ Hid (Mir l O i) ∧ wr.ownsRow base 44 2 (.slice A n c) n (edCs O) ∧ w.grownBy wr (Value.slice A n c).ownBlock) (fun a _ _ => n - (intOf a).toNat)
  case atStart => exact ⟨0, l, by omega, rfl, int_eq (by omega), Lib.hid (Mir.start l), hown, World.grownBy.refl w _⟩
  case round =>
    obtain ⟨i, O, hi, rfl, rfl, hm, ho, hg⟩ := hrel
    by_cases hlt : (i : Int) < (n : Int) - 1 - (i : Int)
    · obtain ⟨j, hj⟩ : ∃ j : Nat, j + i + 1 = n := ⟨n - 1 - i, by omega⟩
      have ej : (n : Int) - 1 - (i : Int) = (j : Int) := by omega
      rw [ej] at hlt ⊢
      have hij : i < j := by omega
      have Hj := Lib.hid hj
      have Hst := Lib.hid (hm.out.step hij (by rw [Hn.out]; exact hj))
      obtain ⟨g1, g2⟩ := hm.out.get hij (by rw [Hn.out]; exact hj)
      obtain ⟨g, cap, ev, hgb, hgs⟩ := ho.form (by omega)
      injection ev with e1 e2 e3
      subst e1 e3
      have hOl := Lib.hid (show O.length = n by rw [hm.out.1, Hn.out])
      have hi2 : i < n := by omega
      have hj2 : j < n := by omega
      have a0 := (ho.cellAt (i * 2) (by omega)).trans (edCs_0 (by rw [hOl.out]; exact hi2))
      have a1 := (ho.cellAt (i * 2 + 1) (by omega)).trans (edCs_1 (by rw [hOl.out]; exact hi2))
      have b0 := (ho.cellAt (j * 2) (by omega)).trans (edCs_0 (by rw [hOl.out]; exact hj2))
      have b1 := (ho.cellAt (j * 2 + 1) (by omega)).trans (edCs_1 (by rw [hOl.out]; exact hj2))
      rw [g1] at a0 a1
      rw [g2] at b0 b1
      obtain ⟨x, hx⟩ : ∃ x, at_ l i = x := ⟨_, rfl⟩
      obtain ⟨y, hy⟩ : ∃ y, at_ l j = y := ⟨_, rfl⟩
      rw [hx] at a0 a1 Hst
      rw [hy] at b0 b1 Hst
      clear g1 g2 hx hy ej hj
      have f0 := ho.frozenAt (i * 2)
      have f1 := ho.frozenAt (i * 2 + 1)
      have f2 := ho.frozenAt (j * 2)
      have f3 := ho.frozenAt (j * 2 + 1)
      have ei : IntKind.i64.wrap ((i : Int) + 1) = (i : Int) + 1 := IntWalk.i64_in _ (by omega)
      have ejw : IntKind.i64.wrap ((j : Int) - 1) = (j : Int) - 1 := IntWalk.i64_in _ (by omega)
      have r1 : (i : Int) < (n : Int) := by omega
      have r2 : (j : Int) < (n : Int) := by omega
      obtain ⟨s1, q1⟩ := ho.stored (i * 2) (.int .i64 y.f)
      obtain ⟨s2, q2⟩ := s1.stored (i * 2 + 1) (.int .i64 y.t)
      obtain ⟨s3, q3⟩ := s2.stored (j * 2) (.int .i64 x.f)
      obtain ⟨s4, q4⟩ := s3.stored (j * 2 + 1) (.int .i64 x.t)
      rw [edCs_set, edCs_set] at s4
      go_wp2_with fail
      go_region
      have S4 := Lib.hid s4
      have Q4 := Lib.hid (World.grownBy.trans hg (World.grownBy.trans (World.grownBy.trans (World.grownBy.trans q1 q2) q3) q4))
      clear s1 s2 s3 s4 q1 q2 q3 q4 a0 a1 b0 b1 f0 f1 f2 f3 ho hg
      go_wp2_with fail
      go_roundw
      case rel => exact ⟨i + 1, (O.set i y).set j x, by omega, by go_num, int_eq (by have := Hj.out; clear ei ejw; omega), Hst, S4.out, ⟨Q4.out.os, Q4.out.tape, Q4.out.output, Q4.out.size, Q4.out.block⟩⟩
      case measure => simp [intOf]; omega
    · go_wp2_with fail
      have hO := hm.out.done (by rw [Hn.out]; omega)
      exact bodyPost_end (v := .tuple #[]) (results_none rfl _ _ _) rfl (R1.mk rfl ⟨by rw [← hO]; exact ho, hg⟩)
end Go.Proofs.Ytokilodekbjpnaa
