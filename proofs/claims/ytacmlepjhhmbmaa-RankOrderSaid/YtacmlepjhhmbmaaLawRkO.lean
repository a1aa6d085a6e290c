/- The walk of the law RankOrder: it returns true. Conditions: the arguments fit their kinds. -/
import Derived.Test.YtacmlepjhhmbmaaQry
import Derived.Test.YtacmlepjhhmbmaaGood
namespace Go.Proofs.Ytacmlepjhhmbmaa
open Go.RowKit

theorem RkBox.y {w : World} {g : Nat} {K : Int} {A : Option Addr} {c : Nat} {T : List Int} {B : Option Addr} {e : Nat} {L : List (List Int)} {vs : List Value} {N S : Int} (h : RkBox w g K A c T B e L vs N S) :
    w.cell? ⟨g, 0, none⟩ = some (.int .i64 K) ∧ w.cell? ⟨g, 1, none⟩ = some (.slice A T.length c) ∧ w.cell? ⟨g, 2, none⟩ = some (.slice B L.length e) ∧ w.cell? ⟨g, 3, none⟩ = some (.int .i64 N) ∧ w.cell? ⟨g, 4, none⟩ = some (.int .i64 S) :=
  ⟨h.k.cell 0, h.k.cell 1, h.k.cell 2, h.k.cell 3, h.k.cell 4⟩
theorem good2_any (E F : Int) (he : in64 E) (hf : in64 F) (w : World) (w0 : World) (hw : w = w0.alloc (.cells #[.int .i64 E, .int .i64 F] 27)) :
    Calls Try.prog 16 #[.slice (some ⟨w0.heap.size, 0, none⟩) 2 2] w (R1 (.bool (decide (E = 0) && decide (F = 0))) (Below w.heap.size w)) := by
  subst hw
  refine (good_any _ 2 _ [E, F] rfl (by simp) _ (Has.fresh w0 #[.int .i64 E, .int .i64 F] _)).mono ?_
  rintro e w1 ⟨rfl, hd⟩
  refine ⟨?_, drawn_below hd⟩
  simp [List.all]
  constructor <;> rfl

set_option maxRecDepth 1000000 in
set_option maxHeartbeats 16000000 in
theorem rankOrder_true (w : World) (K : Int) (A : Option Addr) (c : Nat) (T : List Int) (B : Option Addr) (e : Nat) (L : List (List Int)) (vs : List Value) (N S : Int) (hK : in64 K) (hT : IntAt w (.slice A T.length c) T) (hLe : L.length ≤ e) (hem : e ≤ maxLen)
    (hB : Has w w.heap.size B vs) (hL : IntsAt w vs L) (hLl : L.length ≤ 5864062014634) (_ : in64 N) (_ : in64 S) (r : Int) (_ : -9223372036854775808 ≤ r ∧ r ≤ 9223372036854775807) (q : Int) (_ : -9223372036854775808 ≤ q ∧ q ≤ 9223372036854775807) :
    Calls Try.prog 5 #[.agg #[.int .i64 K, .slice A T.length c, .slice B L.length e, .int .i64 N, .int .i64 S], .int .i64 r, .int .i64 q] w (R1 (.bool true) (Below w.heap.size w)) := by
  have hb1 : Below w.heap.size w (w.alloc (.cells #[.int .i64 K, .slice A T.length c, .slice B L.length e, .int .i64 N, .int .i64 S] 35)) := (Below.refl _ _).alloc (Nat.le_refl _) _
  have hk1 : Blk (w.alloc (.cells #[.int .i64 K, .slice A T.length c, .slice B L.length e, .int .i64 N, .int .i64 S] 35)) w.heap.size 35 #[.int .i64 K, .slice A T.length c, .slice B L.length e, .int .i64 N, .int .i64 S] := Blk.new _ _ _
  have hx1 : RkBox (w.alloc (.cells #[.int .i64 K, .slice A T.length c, .slice B L.length e, .int .i64 N, .int .i64 S] 35)) w.heap.size K A c T B e L vs N S := ⟨hk1, hT.next hb1, hB.next hb1, hL.next hb1⟩
  have HQ := Lib.hid (fun (r : Int) (w' : World) (h : RkBox w' w.heap.size K A c T B e L vs N S) => query_any K hK A c T B e L vs N S r hLe hem w' h.t h.b h.l hLl)
  have HW := Lib.hid (fun (x : Int) (w' : World) (h : RkBox w' w.heap.size K A c T B e L vs N S) => Weight_any K hK A c T B e L vs N S x hLe hem w' h.t h.b h.l hLl)
  go_enter Try.func5, Try.ntmps5
  go_wp2_with fail
  refine (ranks_true _).mono ?_
  rintro e' w2 ⟨rfl, hb2⟩
  have hb12 := bnext hb1 hb2
  have hx2 := hx1.next hb2
  obtain ⟨y0, y1, y2, y3, y4⟩ := hx2.y
  clear hk1 hx1
  go_wp2_with fail
  refine (HQ.out r _ hx2).mono ?_
  rintro e' w3 ⟨v, rfl, ⟨a, E, rfl, hqa⟩, hb3⟩
  have hb13 := bnext hb12 hb3
  have hx3 := hx2.next hb3
  clear y0 y1 y2 y3 y4
  obtain ⟨y0, y1, y2, y3, y4⟩ := hx3.y
  have hE : in64 E := by rcases hqa with ⟨rfl, _⟩ | ⟨_, h1, h2, _⟩; exact ⟨by decide, by decide⟩; exact ⟨h1, h2⟩
  have Hqa := Lib.hid hqa
  clear hqa
  simp only [W2]
  go_wp2_with fail
  refine (HQ.out q _ hx3).mono ?_
  rintro e' w4 ⟨v, rfl, ⟨b, F, rfl, hqb⟩, hb4⟩
  have hb14 := bnext hb13 hb4
  have hx4 := hx3.next hb4
  clear y0 y1 y2 y3 y4
  obtain ⟨y0, y1, y2, y3, y4⟩ := hx4.y
  have hF : in64 F := by rcases hqb with ⟨rfl, _⟩ | ⟨_, h1, h2, _⟩; exact ⟨by decide, by decide⟩; exact ⟨h1, h2⟩
  have Hqb := Lib.hid hqb
  clear hqb
  simp only [W2]
  have hb5' : Below w4.heap.size w4 (w4.alloc (.cells #[Value.int .i64 E, .int .i64 F] 27)) := (Below.refl _ _).alloc (Nat.le_refl _) _
  have hx5 := hx4.next hb5'
  have hb15 := bnext hb14 hb5'
  have HG := Lib.hid (good2_any E F hE hF (w4.alloc (.cells #[Value.int .i64 E, .int .i64 F] 27)) w4 rfl)
  go_wp2_with fail
  refine HG.out.mono ?_
  rintro e' w6 ⟨rfl, hb6⟩
  have hb16 := bnext hb15 hb6
  have hx6 := hx5.next hb6
  clear y0 y1 y2 y3 y4
  obtain ⟨y0, y1, y2, y3, y4⟩ := hx6.y
  by_cases hE0 : E = 0
  · by_cases hF0 : F = 0
    · subst hE0 hF0
      have ha : chkK K T L N S = 0 ∧ 1 ≤ r ∧ r ≤ N ∧ a ∈ allR T L ∧ AtRank T L r a := by rcases Hqa.out with ⟨_, h⟩ | ⟨h, _⟩; exact h; exact absurd rfl h
      have hb : chkK K T L N S = 0 ∧ 1 ≤ q ∧ q ≤ N ∧ b ∈ allR T L ∧ AtRank T L q b := by rcases Hqb.out with ⟨_, h⟩ | ⟨h, _⟩; exact h; exact absurd rfl h
      have HA := Lib.hid ha
      have HB := Lib.hid hb
      have hN1 : 1 ≤ N := by omega
      clear ha hb
      go_wp2_with fail
      refine (HQ.out N _ hx6).mono ?_
      rintro e' w7 ⟨v, rfl, ⟨z, G, rfl, hqc⟩, hb7⟩
      have hb17 := bnext hb16 hb7
      have hx7 := hx6.next hb7
      have hc : G = 0 ∧ z ∈ allR T L ∧ AtRank T L N z := by
        rcases hqc with ⟨h0, _, _, _, h⟩ | ⟨_, _, _, _, h⟩
        · exact ⟨h0, h⟩
        · exact absurd ⟨HA.out.1, hN1, Int.le_refl N⟩ h
      obtain ⟨rfl, hz⟩ := hc
      have hlaw := rank_order HA.out.1 ⟨HA.out.2.2.2.1, HA.out.2.2.2.2⟩ ⟨HB.out.2.2.2.1, HB.out.2.2.2.2⟩ hz HA.out.2.2.1
      obtain ⟨l1, l2, l3⟩ := hlaw
      have eW : weightN K T L N S z = (N, 0) := by unfold weightN; rw [if_pos HA.out.1, l1]
      have HWz := HW.out z _ hx7
      rw [eW] at HWz
      have HWz := Lib.hid HWz
      clear y0 y1 y2 y3 y4 eW l1 hz hqc
      obtain ⟨y0, y1, y2, y3, y4⟩ := hx7.y
      simp only [W2]
      go_wp2_with fail
      refine HWz.out.mono ?_
      rintro e' w8 ⟨rfl, hb8⟩
      have hb18 := bnext hb17 hb8
      have hx8 := hx7.next hb8
      clear y0 y1 y2 y3 y4
      obtain ⟨y0, y1, y2, y3, y4⟩ := hx8.y
      simp only [W2]
      by_cases hrq : q < r
      · go_wp2_with fail
        go_ret
        exact R1.mk (by simp) hb18
      · have l2 := l2 (by omega)
        go_wp2_with fail
        go_ret
        exact R1.mk (by simp) hb18
    · subst hE0
      have d1 : decide (F = 0) = false := decide_eq_false hF0
      go_wp2_with fail
      go_ret
      exact R1.mk (by simp) hb16
  · have d1 : decide (E = 0) = false := decide_eq_false hE0
    have ha0 : a = 0 := by rcases Hqa.out with ⟨h, _⟩ | ⟨_, _, _, h, _⟩; exact absurd h hE0; exact h
    subst ha0
    go_wp2_with fail
    go_ret
    exact R1.mk (by simp) hb16
end Go.Proofs.Ytacmlepjhhmbmaa
