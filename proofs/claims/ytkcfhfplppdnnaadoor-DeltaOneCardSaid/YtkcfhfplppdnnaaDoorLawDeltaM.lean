/- The walk of the law DeltaMoved: it returns true. Conditions: the arguments fit their kinds; the table of widths lies in its cells. -/
import Derived.Test.YtkcfhfplppdnnaaDoorPackD
namespace Go.Proofs.YtkcfhfplppdnnaaDoor
open Go.RowKit

theorem moved_sub (a b by_ : Int) : wrap64 (wrap64 (a + by_) - wrap64 (b + by_)) = wrap64 (a - b) := by unfold wrap64; omega
theorem packR_moved (by_ last step : Int) (l : List Int) : packR (wrap64 (last + by_)) step (l.map fun t => wrap64 (t + by_)) = packR last step l := by
  induction l generalizing last step with
  | nil => rfl
  | cons t l ih => rw [List.map_cons, packR, packR, chgOf, chgOf, moved_sub, ih]
theorem packT_moved (by_ : Int) (l : List Int) : (packT (l.map fun t => wrap64 (t + by_))).length = (packT l).length := by
  unfold packT
  rw [List.length_append, List.length_append, List.length_map]
  cases l with
  | nil => rfl
  | cons t l => rw [List.map_cons, packF, packF, List.length_append, List.length_append, packR_moved, toB_len, toB_len, toB_len]
theorem packN_moved (by_ : Int) (l : List Int) : (packN (l.map fun t => wrap64 (t + by_))).2 = (packN l).2 ∧ (packN (l.map fun t => wrap64 (t + by_))).1.2 = (packN l).1.2 ∧ ((packN l).2 = 0 ∨ (packN l).1.2 = 0) := by
  unfold packN
  rw [List.length_map]
  split
  · exact ⟨rfl, rfl, .inr rfl⟩
  · exact ⟨rfl, by show ((packT _).length : Int) = _; rw [packT_moved], .inl rfl⟩

theorem elI64 : Elem Tryd.prog 22 2 1 8 := Elem.mk' (z := .int .i64 0) Tryd.underlying22 (by kernel_rfl) rfl (by decide)
theorem i64s_app1 (l : List Int) (x : Int) : i64s (l ++ [x]) = i64s l ++ (#[.int .i64 x] : Array Value).toList := by simp [i64s, i64v]
theorem take_map_step {l : List Int} (f : Int → Int) {k : Nat} (h : k < l.length) : (l.take (k + 1)).map f = (l.take k).map f ++ [f (at_ l k)] := by
  rw [List.take_add_one, List.getElem?_eq_getElem h, at_eq h, List.map_append]
  rfl

theorem dpack_any' (A : Option Addr) (n c : Nat) (l : List Int) (r : (List Nat × Int) × Int) (hr : packN l = r) (hn : l.length = n) (hl : l.length ≤ maxLen) (hi : I64s l) (w : World) (h : Has w w.heap.size A (i64s l)) (ht : TabAt w) (hw0 : 0 < w.heap.size) :
    Calls Tryd.prog 14 #[.slice A n c] w (RV (BitsP r w)) := by
  subst hr hn
  exact dpack_any A c l hl hi w h ht hw0

set_option maxRecDepth 1000000 in
set_option maxHeartbeats 1000000 in
theorem deltas_true (w : World) (ht : TabAt w) (hw0 : 0 < w.heap.size) : Calls Tryd.prog 13 #[] w (R1 (.bool true) (Below w.heap.size w)) := by
  have e : Hid (packN [] = ((packB (toB 0 16), 16), 0)) := Lib.hid rfl
  go_enter Tryd.func13, Tryd.ntmps13
  go_wp2_with fail
  refine (dpack_any' none 0 0 [] _ e.out rfl (by decide) (by intro x hx; simp at hx) _ (by intro hx; simp [i64s] at hx) ht hw0).mono ?_
  rintro e w1 ⟨v, rfl, A, c, rfl, hown, hb⟩
  clear hown
  go_wp2_with fail
  go_ret
  exact R1.mk rfl (hb.alloc hb.size _)

set_option maxRecDepth 1000000 in
set_option maxHeartbeats 4000000 in
theorem deltaMoved_true (w : World) (A : Option Addr) (c : Nat) (l : List Int) (hi : I64s l) (hlc : l.length ≤ c) (hc : c ≤ maxLen) (_ : A = none → c = 0) (h : Has w w.heap.size A (i64s l)) (hr : l.length ≤ 17592186043904)
    (b : Int) (hb : -9223372036854775808 ≤ b ∧ b ≤ 9223372036854775807) (ht : TabAt w) (hw0 : 0 < w.heap.size) :
    Calls Tryd.prog 3 #[.slice A l.length c, .int .i64 b] w (R1 (.bool true) (Below w.heap.size w)) := by
  obtain ⟨h1, h2, h3⟩ := packN_moved b l
  obtain ⟨⟨⟨x, N⟩, z⟩, hx⟩ : ∃ r, packN l = r := ⟨_, rfl⟩
  obtain ⟨⟨⟨y, M⟩, z2⟩, hy⟩ : ∃ r, packN (l.map fun t => wrap64 (t + b)) = r := ⟨_, rfl⟩
  rw [hx, hy] at h1 h2
  rw [hx] at h3
  simp only [] at h1 h2 h3
  subst h1 h2
  have Hx := Lib.hid hx; clear hx
  have Hy := Lib.hid hy; clear hy
  have HI := Lib.hid hi; clear hi
  have hIm : I64s (l.map fun t => wrap64 (t + b)) := by
    intro x hx
    simp only [List.mem_map] at hx
    obtain ⟨t, _, rfl⟩ := hx
    unfold wrap64; omega
  have hIm := Lib.hid hIm
  have hlm : l.length ≤ maxLen := by unfold maxLen; omega
  go_enter Tryd.func3, Tryd.ntmps3
  go_wp2_with fail
  refine (deltas_true _ ht hw0).mono ?_
  rintro e w1 ⟨rfl, hb1⟩
  have HT1 := Lib.hid (ht.below hw0 hb1); clear ht
  go_wp2_with fail
  go_loopw [5, 16] (fun v i wr => ∃ (k : Nat) (O : Option Addr) (e : Nat), k ≤ l.length ∧ i = .int .i64 (k : Nat) ∧ v = .slice O k e ∧ wr.ownsRow w1.heap.size 2 1 (.slice O k e) k (i64s ((l.take k).map fun t => wrap64 (t + b))) ∧ Below w1.heap.size w1 wr) (fun _ i _ => l.length + 5 - (intOf i).toNat)
  case atStart => exact ⟨0, none, 0, by omega, rfl, rfl, ⟨rfl, .inl ⟨rfl, rfl⟩⟩, Below.refl _ _⟩
  case round =>
    obtain ⟨k, O, e, hk, rfl, rfl, hown, hbr⟩ := hrel
    have hbs := hbr.size
    by_cases hlt : (k : Int) < (l.length : Int)
    · obtain ⟨ad, rfl, _, c0⟩ := ((h.next hb1).below hbr).at (i64s_at (show k < l.length by omega))
      have hst := Lib.hid (take_map_step (fun t => wrap64 (t + b)) (show k < l.length by omega))
      obtain ⟨t, ht⟩ : ∃ t, at_ l k = t := ⟨_, rfl⟩
      rw [ht] at c0 hst
      clear ht
      go_wp2_with (at_builtin; refine wpList_append1 rfl _ _ _ rfl elI64 rfl hown rfl rfl rfl ?_ ?k1 ?k2 ?k3 ?k4; intro A2 e2 w3 hown3 hgrow hb3)
      case k1 => first | rfl | (intro u hu; simp at hu; subst hu; rfl)
      case k2 => omega
      case k3 => unfold maxLen; omega
      case k4 => omega
      have hown3 := Lib.hid hown3
      go_roundw
      case rel => exact ⟨k + 1, A2, e2, by omega, by go_num, rfl, by rw [hst.out, i64s_app1]; exact hown3.out, hbr.trans hb3⟩
      case measure => simp [intOf]; omega
    · obtain rfl : k = l.length := by omega
      rw [List.take_length] at hown
      have hr1 := Lib.hid ((h.next hb1).next hbr)
      have hm := Lib.hid (Has.of_own hown); clear hown
      have HT2 := Lib.hid (HT1.out.below (Nat.lt_of_lt_of_le hw0 hb1.size) hbr)
      have hwr0 : 0 < wr.heap.size := Nat.lt_of_lt_of_le (Nat.lt_of_lt_of_le hw0 hb1.size) hbs
      have hb2 := bnext hb1 hbr
      go_wp2_with fail
      refine (dpack_any' A _ c l _ Hx.out rfl hlm HI.out _ (by exact hr1.out) (by exact HT2.out) hwr0).mono ?_
      rintro e w4 ⟨v, rfl, A4, c4, rfl, ho4, hb4⟩
      clear ho4
      have hm4 := Lib.hid (Has.allocA (hm.out.next hb4) (.cells #[.slice A4 x.length c4, .int .i64 M] 26))
      have hb5 : Below w.heap.size w (w4.alloc (.cells #[.slice A4 x.length c4, .int .i64 M] 26)) := (bnext hb2 hb4).alloc (Nat.le_trans hb2.size hb4.size) _
      have hk5 : Blk (w4.alloc (.cells #[.slice A4 x.length c4, .int .i64 M] 26)) w4.heap.size 26 #[.slice A4 x.length c4, .int .i64 M] := Blk.new _ _ _
      have HT5 := Lib.hid (HT2.out.below hwr0 (hb4.alloc hb4.size (.cells #[.slice A4 x.length c4, .int .i64 M] 26)))
      go_wp2_with fail
      refine (dpack_any' O _ e (l.map fun t => wrap64 (t + b)) _ Hy.out (by simp) (by rw [List.length_map]; exact hlm) hIm.out _ (by exact hm4.out) (by exact HT5.out) (by simp)).mono ?_
      rintro e w6 ⟨v, rfl, A6, c6, rfl, ho6, hb6⟩
      clear ho6
      have hk6 := hk5.next hb6
      have x1 : w6.cell? ⟨w4.heap.size, 1, none⟩ = some (.int .i64 M) := hk6.cell 1
      have x2 : (w6.alloc (.cells #[.slice A6 y.length c6, .int .i64 M] 26)).cell? ⟨w4.heap.size, 1, none⟩ = some (.int .i64 M) := (hk6.alloc _).cell 1
      have hb7 := bnext hb5 hb6
      rcases h3 with h3 | h3
      · subst h3
        go_wp2_with fail
        go_ret
        exact R1.mk rfl (hb7.alloc hb7.size _)
      · subst h3
        by_cases hz : z2 = 0
        · subst hz
          go_wp2_with fail
          go_ret
          exact R1.mk rfl (hb7.alloc hb7.size _)
        · have hz' : (z2 == 0) = false := by rw [beq_eq_false_iff_ne]; exact hz
          go_wp2_with fail
          go_ret
          exact R1.mk rfl (hb7.alloc hb7.size _)
end Go.Proofs.YtkcfhfplppdnnaaDoor
