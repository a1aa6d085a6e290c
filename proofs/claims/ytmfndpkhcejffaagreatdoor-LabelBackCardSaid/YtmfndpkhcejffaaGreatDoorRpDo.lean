/- label's replacer: made, and built once. Conditions: the replacer's cells. -/
import Derived.Test.YtmfndpkhcejffaaGreatDoorRpBld
namespace Go.Proofs.YtmfndpkhcejffaaGreatDoor
open Go.RowKit

/-- label's pairs, in the order of the call -/
def rpPairs : List ByteArray := [⟨#[92]⟩, ⟨#[92, 92]⟩, ⟨#[34]⟩, ⟨#[92, 34]⟩, ⟨#[10]⟩, ⟨#[92, 110]⟩]
theorem strCs_len1 (l : List ByteArray) : (strCs l).length = l.length := by
  have := flat_len (f := strC) (C := 1) (fun _ => rfl) l
  rw [Nat.mul_one] at this
  exact this
theorem strCs_oneL (l : List ByteArray) : ∀ u ∈ strCs l, u.oneCell' = true := by
  intro u hu
  unfold strCs at hu
  obtain ⟨x, _, h⟩ := List.mem_flatMap.1 hu
  simp [strC] at h
  subst h; rfl
/-- what NewReplacer makes -/
def NewRP (w : World) (v : Value) (w' : World) : Prop :=
  ∃ g o c, v = .pointer (some ⟨g, 0, none⟩) ∧ w.heap.size ≤ g ∧ w.heap.size ≤ o ∧ o ≠ g ∧ Blk w' g 92 #[.int .u32 0, .int .i32 0, .int .u32 0, .nilIface, .slice (some ⟨o, 0, none⟩) 6 c] ∧ w'.ownsRow w.heap.size 9 1 (.slice (some ⟨o, 0, none⟩) 6 c) 6 (strCs rpPairs) ∧ Below w.heap.size w w'
set_option maxRecDepth 1000000 in
set_option maxHeartbeats 4000000 in
theorem newReplacer_any (A : Option Addr) (c : Nat) (w : World) (h : Has w w.heap.size A (strCs rpPairs)) :
    Calls Tryz.prog 27 #[.slice A 6 c] w (RV (NewRP w)) := by
  go_enter Tryz.func27, Tryz.ntmps27
  go_wp2_with (at_builtin; refine wpList_spread rfl _ _ _ rfl elStrL rfl (World.ownsRow_nil w w.heap.size 9 1) rfl h ?_ ?c1 ?c2 ?c3 ?c4 ?c5; intro A' c' w1 hown hgrow hbel)
  case c1 => rfl
  case c2 => exact strCs_oneL _
  case c3 => decide
  case c4 => decide
  case c5 => exact Nat.le_refl _
  obtain ⟨o, cap, ev, ho1, ho2⟩ := hown.form (by decide)
  injection ev with e1 _ e3
  subst e1 e3
  go_ret
  refine RV.mk ⟨w1.heap.size, o, c', rfl, hbel.size, ho1, by omega, Blk.new _ _ _, ?_, hbel.trans ((one_allocP w1 _).mono hbel.size)⟩
  exact own_next hown (one_allocP w1 _)

/-- the replacer when it is built -/
def RpAt (w : World) (g h : Nat) (W : World) : Prop :=
  ∃ A c a b d, W.cell? ⟨g, 3, none⟩ = some (.iface 119 (.pointer (some ⟨h, 0, none⟩))) ∧ Blk W h 118 (cells4 (.slice A 3 c) a b d) ∧ Has W W.heap.size A (strCs (trL 3)) ∧ SlB W a [92, 110] ∧ SlB W b [92, 34] ∧ SlB W d [92, 92] ∧ Below w.heap.size w W
/-- between the lock's ends -/
def RpMid (w : World) (g h : Nat) (u v : Value) (W : World) : Prop :=
  Blk W g 92 #[u, v, .int .u32 0, .iface 119 (.pointer (some ⟨h, 0, none⟩)), .slice none 0 0] ∧ ∃ A c a b d, Blk W h 118 (cells4 (.slice A 3 c) a b d) ∧ W.ownsRow w.heap.size 9 1 (.slice A 3 c) 3 (strCs (trL 3)) ∧ SlB W a [92, 110] ∧ SlB W b [92, 34] ∧ SlB W d [92, 92] ∧ Below w.heap.size w W
theorem RpMid.set {w W : World} {g h : Nat} {u v : Value} (hm : RpMid w g h u v W) (hg : w.heap.size ≤ g) (hgh : g ≠ h) (i : Nat) (x : Value) {u' v' : Value} (he : (#[u, v, .int .u32 0, .iface 119 (.pointer (some ⟨h, 0, none⟩)), .slice none 0 0] : Array Value).setIfInBounds i x = #[u', v', .int .u32 0, .iface 119 (.pointer (some ⟨h, 0, none⟩)), .slice none 0 0]) :
    RpMid w g h u' v' (W.setCell ⟨g, i, none⟩ x) := by
  obtain ⟨hB, A, c, a, b, d, h1, h2, h3, h4, h5, h6⟩ := hm
  refine ⟨by rw [← he]; exact hB.set i x, A, c, a, b, d, (Below.heap_setCell _ ⟨g, i, none⟩ _ h (fun e => hgh e.symm)).trans h1, ownsRow_setCell_other h2 (a := ⟨g, i, none⟩) (fun hh => blk_neL hB h2 (by decide) hh.symm) _, h3.set hB (by decide) _ _, h4.set hB (by decide) _ _, h5.set hB (by decide) _ _, h6.setCell hg _⟩
theorem RpMid.drew {w W : World} {g h : Nat} {u v : Value} (hm : RpMid w g h u v W) : RpMid w g h u v W.drew := by
  obtain ⟨hB, A, c, a, b, d, h1, h2, h3, h4, h5, h6⟩ := hm
  exact ⟨hB, A, c, a, b, d, h1, own_drewN h2 1, h3, h4, h5, below_drewN h6 1⟩

set_option maxRecDepth 1000000 in
set_option maxHeartbeats 4000000 in
theorem rbuildOnce_any (g o c : Nat) (w0 w : World) (hb0 : Below w0.heap.size w0 w) (hg : w0.heap.size ≤ g) (ho : w0.heap.size ≤ o) (hB : Blk w g 92 #[.int .u32 0, .int .i32 1, .int .u32 0, .nilIface, .slice (some ⟨o, 0, none⟩) 6 c])
    (hown : w.ownsRow w0.heap.size 9 1 (.slice (some ⟨o, 0, none⟩) 6 c) 6 (strCs rpPairs)) :
    Calls Tryz.prog 38 #[.pointer (some ⟨g, 0, none⟩)] w fun e w' => e = .returned (.tuple #[]) ∧ RpMid w0 g (w.heap.size + 1) (.int .u32 0) (.int .i32 1) w' := by
  have hk : ∀ j u, (strCs rpPairs)[j]? = some u → w.cell? ⟨o, j, none⟩ = some u := fun j u hj => by
    rw [hown.cellAt j (by have := (List.getElem?_eq_some_iff.1 hj).1; exact this)]
    exact hj
  have HBu := Lib.hid (rbuild_any g o c w (hB.cell 4) (hk 0 _ rfl) (hk 1 _ rfl) (hk 2 _ rfl) (hk 3 _ rfl) (hk 4 _ rfl) (hk 5 _ rfl))
  have HB := Lib.hid hB
  have hgl := hB.lt
  clear hk hown hB
  go_enter Tryz.func38, Tryz.ntmps38
  go_wp2_with fail
  refine HBu.out.mono ?_
  rintro e w1 ⟨rfl, A, c', a, b, d, hB1, hown1, hbel1, _, _, q2, _, q4, _, q6⟩
  have hg1 := HB.out.below hbel1 hgl
  have y3 : w1.cell? ⟨g, 3, none⟩ = some .nilIface := hg1.cell 3
  have y4 : w1.cell? ⟨g, 4, none⟩ = some (.slice (some ⟨o, 0, none⟩) 6 c) := hg1.cell 4
  have z3 : w1.frozen? ⟨g, 3, none⟩ = false := hg1.frozen 3
  have z4 : w1.frozen? ⟨g, 4, none⟩ = false := hg1.frozen 4
  have hne : g ≠ w.heap.size + 1 := by omega
  have hs0 := hb0.size
  have hF := Lib.hid (show RpMid w0 g (w.heap.size + 1) (.int .u32 0) (.int .i32 1) ((w1.setCell ⟨g, 3, none⟩ (.iface 119 (.pointer (some ⟨w.heap.size + 1, 0, none⟩)))).setCell ⟨g, 4, none⟩ (.slice none 0 0)) from by
    have hB2 := hg1.set 3 (.iface 119 (.pointer (some ⟨w.heap.size + 1, 0, none⟩)))
    have hB3 := hB2.set 4 (.slice none 0 0)
    refine ⟨hB3, A, c', a, b, d, ?_, ?_, ?_, ?_, ?_, ?_⟩
    · exact (Below.heap_setCell _ ⟨g, 4, none⟩ _ _ (fun e => hne e.symm)).trans ((Below.heap_setCell _ ⟨g, 3, none⟩ _ _ (fun e => hne e.symm)).trans hB1)
    · have ho2 := ownsRow_setCell_other hown1 (a := ⟨g, 3, none⟩) (fun hh => blk_neL hg1 hown1 (by decide) hh.symm) (.iface 119 (.pointer (some ⟨w.heap.size + 1, 0, none⟩)))
      exact own_less (ownsRow_setCell_other ho2 (a := ⟨g, 4, none⟩) (fun hh => blk_neL hB2 ho2 (by decide) hh.symm) _) hs0
    · exact ((q2 (by decide)).set hg1 (by decide) _ _).set hB2 (by decide) _ _
    · exact ((q4 (by decide)).set hg1 (by decide) _ _).set hB2 (by decide) _ _
    · exact ((q6 (by decide)).set hg1 (by decide) _ _).set hB2 (by decide) _ _
    · exact ((hb0.trans (hbel1.mono hs0)).setCell hg _).setCell hg _)
  clear hB1 hown1 hbel1 q2 q4 q6 hg1
  go_wp2_with fail
  go_end0
  exact ⟨rfl, hF.out⟩
end Go.Proofs.YtmfndpkhcejffaaGreatDoor
