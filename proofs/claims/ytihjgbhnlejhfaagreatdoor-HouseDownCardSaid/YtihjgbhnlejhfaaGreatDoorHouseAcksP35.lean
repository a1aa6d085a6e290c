/- Texts of the proof of HouseAcks, joined (by merge.py). Conditions: each theorem's own hypotheses. -/
import Derived.Test.YtihjgbhnlejhfaaGreatDoorHouseAcksP15
import Derived.Test.YtihjgbhnlejhfaaGreatDoorHouseAcksP28
import Derived.Test.YtihjgbhnlejhfaaGreatDoorCards
import Derived.Test.YtihjgbhnlejhfaaGreatDoorTie
import Derived.Deep.DeepHandedRow
import Derived.Lib.LaidTab
namespace Go.Proofs.YtihjgbhnlejhfaaGreatDoor
open Go.ChangeShapes Go.WideShapes Go.ChangeAt Go.RowKit Go.Deep

theorem gSg : Tryz.prog.globalNamed "gaugehouse/label.signs" = some 0 := by kernel_rfl
theorem gSgType : (Tryz.prog.globals[0]?).map (·.type) = some 158 := by kernel_rfl
theorem cSg : Tryz.prog.cellsOf 158 = 5 := by kernel_rfl
theorem cStr : Tryz.prog.cellsOf 9 = 1 := by kernel_rfl
section
variable {H : Type} {enc : TypeId × Value → H} {P : Program} {w : World} {base : Nat} {sp : Nat → Bool} {held : Bool}
theorem row1S {e : TypeId} (hs : P.underlying e = some .string) {n : Nat} {c0 : Value} {y : DataW H × List MemPlace} {l : List UInt8} (h : DataW.trod enc P w base sp held n e [c0] = some y) (hy : y.1 = .lit (.string l)) : c0 = .string ⟨l.toArray⟩ := by
  obtain ⟨s, e1, e2, _⟩ := DataW.trod_string hs h
  rw [e2] at hy
  simp only [DataW.lit.injEq, Lit.string.injEq] at hy
  injection e1 with e1
  rw [e1, ← hy]
end
theorem signs_at {rest : List (String × DataW Unit)} {W : World} (h : laidMet Tryz.prog (("gaugehouse/label.signs", Rows.laid_gaugehouse_label_signs) :: rest) W) : SgAt W := by
  obtain ⟨ps, ⟨g', t', cs, fuel, p, q, hg', ht', hvar, hd, _, _⟩, _⟩ := h
  obtain rfl := Option.some.inj (gSg.symm.trans hg')
  obtain rfl := Option.some.inj (gSgType.symm.trans ht')
  obtain ⟨xs, m1, _, hx1, hlen, hn5, hel⟩ := DataW.trod_array Tryz.underlying158 hd
  rw [cSg] at hlen
  rw [cStr] at hel
  obtain ⟨L⟩ := cs
  simp at hlen hel
  match L, hlen, xs, hn5 with
  | [c0, c1, c2, c3, c4], _, [y0, y1, y2, y3, y4], _ =>
    simp only [Rows.laid_gaugehouse_label_signs, List.map_cons, List.map_nil, Prod.mk.injEq, DataW.agg.injEq, List.cons.injEq, and_true] at hx1
    obtain ⟨⟨z0, z1, z2, z3, z4⟩, _⟩ := hx1
    have t0 := hel 0 (by decide)
    have t1 := hel 1 (by decide)
    have t2 := hel 2 (by decide)
    have t3 := hel 3 (by decide)
    have t4 := hel 4 (by decide)
    simp at t0 t1 t2 t3 t4
    have hu := Tryz.underlying9
    obtain rfl := row1S hu t0 z0.symm
    obtain rfl := row1S hu t1 z1.symm
    obtain rfl := row1S hu t2 z2.symm
    obtain rfl := row1S hu t3 z3.symm
    obtain rfl := row1S hu t4 z4.symm
    have hc := World.var?_cell gSg hvar
    refine ⟨World.block_lt_of_cell? W ⟨0, 0, none⟩ (hc 0), fun k hk => ?_⟩
    rcases (show k = 0 ∨ k = 1 ∨ k = 2 ∨ k = 3 ∨ k = 4 by omega) with rfl | rfl | rfl | rfl | rfl
    · exact hc 0
    · exact hc 1
    · exact hc 2
    · exact hc 3
    · exact hc 4
end Go.Proofs.YtihjgbhnlejhfaaGreatDoor
