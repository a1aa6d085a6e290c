/- What times and long of the laws tell of a row of strings. Conditions: rows lie in their cells. -/
import Derived.Test.YtnppgocedokioaaHvE
namespace Go.Proofs.Ytnppgocedokioaa
open Go.RowKit

theorem timesH_le (l : List ByteArray) (key : ByteArray) : ∀ k : Nat, 0 ≤ timesH l key k ∧ timesH l key k ≤ (k : Int)
  | 0 => ⟨Int.le_refl _, Int.le_refl _⟩
  | k + 1 => by
    have := timesH_le l key k
    rw [timesH]
    split <;> omega
set_option maxRecDepth 1000000 in
set_option maxHeartbeats 2000000 in
theorem timesH_any (A : Option Addr) (n c : Nat) (l : List ByteArray) (key : ByteArray) (hn : l.length = n) (hl : n ≤ 17592186044416) (w : World) (h : Has w w.heap.size A (strCs l)) :
    Calls Try.prog 13 #[.slice A n c, .string key] w (R1 (.int .i64 (timesH l key n)) (fun w' => w' = w)) := by
  have Hn := Lib.hid hn; clear hn
  go_enter Try.func13, Try.ntmps13
  go_wp2_with fail
  go_loopw [5, 10] (fun t i wr => ∃ k : Nat, k ≤ n ∧ i = .int .i64 (k : Nat) ∧ t = .int .i64 (timesH l key k) ∧ wr = w) (fun _ i _ => n - (intOf i).toNat)
  case atStart => exact ⟨0, by omega, rfl, rfl, rfl⟩
  case round =>
    obtain ⟨k, hk, rfl, rfl, rfl⟩ := hrel
    by_cases hlt : (k : Int) < (n : Int)
    · obtain ⟨ad, rfl, _, c1⟩ := h.at (strCs_at' (show k < l.length by rw [Hn.out]; omega))
      have hs : timesH l key (k + 1) = timesH l key k + if at_ l k = key then 1 else 0 := rfl
      have hb := timesH_le l key k
      obtain ⟨x, hx⟩ : ∃ x, at_ l k = x := ⟨_, rfl⟩
      obtain ⟨t, ht⟩ : ∃ t, timesH l key k = t := ⟨_, rfl⟩
      rw [hx, ht] at hs
      rw [hx] at c1
      rw [ht] at hb ⊢
      clear hx ht
      have ew : IntKind.i64.wrap (t + 1) = t + 1 := IntWalk.i64_in _ (by omega)
      by_cases hxk : x = key
      · subst hxk
        rw [if_pos rfl] at hs
        have HS := Lib.hid hs
        clear hs
        go_wp2_with fail
        go_roundw
        case rel => exact ⟨k + 1, by omega, by go_num, int_eq (by rw [HS.out]), by trivial⟩
        case measure => simp [intOf]; omega
      · rw [if_neg hxk] at hs
        have HS := Lib.hid hs
        have hne : ¬ x.toList = key.toList := fun h => hxk (toList_eq' h)
        have hne2 : (x.toList == key.toList) = false := by rw [beq_eq_false_iff_ne]; exact hne
        clear hs hxk
        go_wp2_with fail
        go_roundw
        case rel => exact ⟨k + 1, by omega, by go_num, int_eq (by rw [HS.out, Int.add_zero]), by trivial⟩
        case measure => simp [intOf]; omega
    · have hkl : k = n := by omega
      subst hkl
      go_wp2_with fail
      go_ret
      exact R1.mk rfl rfl
def longB (l : List ByteArray) : Bool := l.any fun s => decide (40 < s.size)
set_option maxRecDepth 1000000 in
theorem long1_any (s : ByteArray) (w : World) : Calls Try.prog 36 #[.string s] w (R1 (.bool (decide (40 < s.size))) (fun w' => w' = w)) := by
  have e := Lib.hid (show decide ((40 : Int) < (s.size : Int)) = decide (40 < s.size) from decide_eq_decide.2 (by omega))
  go_enter Try.func36, Try.ntmps36
  go_wp2_with fail
  go_ret
  exact R1.mk (bool_eq (by first | exact e.out | rfl | (simp; done))) rfl
/-- the first place where a text is too long -/
def IdxL40 (l : List ByteArray) (v : Value) : Prop := ∃ r : Int, v = .int .i64 r ∧ ((r = -1 ∧ longB l = false) ∨ (0 ≤ r ∧ longB l = true))
set_option maxRecDepth 1000000 in
set_option maxHeartbeats 2000000 in
theorem idx40_any (A : Option Addr) (n c : Nat) (l : List ByteArray) (hn : l.length = n) (hl : n ≤ 17592186044416) (w : World) (h : Has w w.heap.size A (strCs l)) :
    Calls Try.prog 50 #[.slice A n c, .func (.func 36) #[] #[]] w (RV fun v w' => IdxL40 l v ∧ w' = w) := by
  have Hn := Lib.hid hn; clear hn
  go_enter Try.func50, Try.ntmps50
  go_wp2_with fail
  go_loopw [8] (fun i wr => ∃ j : Nat, j ≤ n ∧ i = .int .i64 (j : Nat) ∧ Hid (∀ q, q < j → ¬ 40 < (at_ l q).size) ∧ wr = w) (fun i _ => n - (intOf i).toNat)
  case atStart => exact ⟨0, by omega, rfl, Lib.hid (fun q hq => by omega), rfl⟩
  case round =>
    obtain ⟨j, hj, rfl, hno, rfl⟩ := hrel
    by_cases hlt : (j : Int) < (n : Int)
    · have l1 := Lib.hid (show j < l.length by rw [Hn.out]; omega)
      obtain ⟨ad, rfl, had, c0⟩ := h.at (strCs_at' l1.out)
      by_cases hg : 40 < (at_ l j).size
      · have hfin := Lib.hid (show IdxL40 l (.int .i64 (j : Nat)) from ⟨_, rfl, .inr ⟨by omega, List.any_eq_true.2 ⟨_, at_mem l1.out, decide_eq_true hg⟩⟩⟩)
        obtain ⟨p, hp⟩ : ∃ p, at_ l j = p := ⟨_, rfl⟩
        rw [hp] at c0 hg
        have hd := decide_eq_true hg
        clear hp hg
        go_wp2_with fail
        refine (long1_any _ _).mono ?_
        rw [hd]
        rintro e w1 ⟨rfl, hw⟩
        rw [hw]
        go_wp2_with fail
        go_ret
        exact RV.mk ⟨hfin.out, rfl⟩
      · have Hg := Lib.hid hg
        obtain ⟨p, hp⟩ : ∃ p, at_ l j = p := ⟨_, rfl⟩
        rw [hp] at c0 hg
        have hd := decide_eq_false hg
        clear hp hg
        go_wp2_with fail
        refine (long1_any _ _).mono ?_
        rw [hd]
        rintro e w1 ⟨rfl, hw⟩
        rw [hw]
        go_wp2_with fail
        go_roundw
        case rel =>
          refine ⟨j + 1, by omega, by go_num, Lib.hid (fun q hq => ?_), (by first | rfl | trivial)⟩
          rcases Nat.lt_or_ge q j with h1 | h1
          · exact hno.out q h1
          · rw [show q = j by omega]; exact Hg.out
        case measure => simp [intOf]; omega
    · have hfin := Lib.hid (show IdxL40 l (.int .i64 (-1)) from ⟨_, rfl, .inl ⟨rfl, by
        unfold longB
        rw [List.any_eq_false]
        intro x hx
        obtain ⟨q, hq, rfl⟩ := List.getElem_of_mem hx
        have := hno.out q (by rw [Hn.out] at hq; omega)
        rw [at_eq hq] at this
        simpa using this⟩⟩)
      go_wp2_with fail
      go_ret
      exact RV.mk ⟨hfin.out, rfl⟩
set_option maxRecDepth 1000000 in
set_option maxHeartbeats 2000000 in
theorem long_any (A : Option Addr) (n c : Nat) (l : List ByteArray) (hn : l.length = n) (hl : n ≤ 17592186044416) (w : World) (h : Has w w.heap.size A (strCs l)) :
    Calls Try.prog 11 #[.slice A n c] w (R1 (.bool (longB l)) (fun w' => w' = w)) := by
  have step : ∀ w : World, Has w w.heap.size A (strCs l) → Calls Try.prog 35 #[.slice A n c, .func (.func 36) #[] #[]] w (R1 (.bool (longB l)) (fun w' => w' = w)) := by
    intro w h
    have H := Lib.hid (idx40_any A n c l hn hl w h)
    obtain ⟨b, hb⟩ : ∃ b, longB l = b := ⟨_, rfl⟩
    rw [hb]
    have Hb := Lib.hid hb
    clear hb hn
    go_enter Try.func35, Try.ntmps35
    go_wp2_with fail
    refine H.out.mono ?_
    rintro e w1 ⟨v, rfl, ⟨x, rfl, hx⟩, hw⟩
    rw [hw]
    rcases hx with ⟨rfl, ha⟩ | ⟨h0, ha⟩
    · rw [Hb.out] at ha
      subst ha
      go_wp2_with fail
      go_ret
      exact R1.mk rfl rfl
    · rw [Hb.out] at ha
      subst ha
      go_wp2_with fail
      go_ret
      exact R1.mk (bool_eq (by first | (simp; done) | (simp; omega))) rfl
  have Step := Lib.hid (step w h); clear step hn
  go_enter Try.func11, Try.ntmps11
  go_wp2_with fail
  refine Step.out.mono ?_
  rintro e w1 ⟨rfl, hw⟩
  rw [hw]
  go_wp2_with fail
  go_ret
  exact R1.mk rfl rfl
theorem long_one (vb vc : Nat) (key : ByteArray) (w : World) (hb : Blk w vb 9 #[.string key]) :
    Calls Try.prog 11 #[.slice (some ⟨vb, 0, none⟩) 1 vc] w (R1 (.bool (decide (40 < key.size))) (fun w' => w' = w)) := by
  have e : longB [key] = decide (40 < key.size) := by unfold longB; simp
  rw [← e]
  refine long_any _ 1 vc [key] rfl (by omega) w (fun _ => ⟨_, rfl, hb.lt, fun j u hu => ?_⟩)
  cases j with
  | zero => injection hu with hu; subst hu; exact hb.cell 0
  | succ j => simp [strCs, strC] at hu
end Go.Proofs.Ytnppgocedokioaa
