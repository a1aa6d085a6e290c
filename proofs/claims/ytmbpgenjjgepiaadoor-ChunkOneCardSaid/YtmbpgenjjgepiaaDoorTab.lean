/- What the row's list gives of the table of widths: its cells. Conditions: the row's own. -/
import Derived.Test.YtmbpgenjjgepiaaDoorPackD
import Derived.Test.YtmbpgenjjgepiaaDoorOpen
import Derived.Test.YtmbpgenjjgepiaaDoorCards
import Derived.Test.YtmbpgenjjgepiaaDoorTie
import Derived.Deep.DeepHandedRow
import Derived.Lib.LaidTab
namespace Go.Proofs.YtmbpgenjjgepiaaDoor
open Go.ChangeShapes Go.WideShapes Go.ChangeAt Go.RowKit Go.Deep

theorem gWid : Tryd.prog.globalNamed "gaugehouse/delta.widths" = some 0 := by kernel_rfl
theorem gWidType : (Tryd.prog.globals[0]?).map (·.type) = some 62 := by kernel_rfl
theorem cWid : Tryd.prog.cellsOf 62 = 15 := by kernel_rfl
theorem cRow : Tryd.prog.cellsOf 61 = 3 := by kernel_rfl

section
variable {H : Type} {enc : TypeId × Value → H} {P : Program} {w : World} {base : Nat} {sp : Nat → Bool} {held : Bool}
theorem row3 {e : TypeId} {f0 f1 f2 : Field} (hs : P.underlying e = some (.struct #[f0, f1, f2])) (h0 : P.underlying f0.type = some (.int .u64)) (h1 : P.underlying f1.type = some (.int .i64)) (h2 : P.underlying f2.type = some (.int .i64)) (hone : oneCellFields P #[f0, f1, f2] = true)
    {n : Nat} {c0 c1 c2 : Value} {y : DataW H × List MemPlace} {a b c : Int} (h : DataW.trod enc P w base sp held n e [c0, c1, c2] = some y) (hy : y.1 = .agg [.lit (.int .u64 a), .lit (.int .i64 b), .lit (.int .i64 c)]) :
    c0 = .int .u64 a ∧ c1 = .int .i64 b ∧ c2 = .int .i64 c := by
  obtain ⟨xs, m, _, rfl, _, hxl, hf⟩ := DataW.trod_struct hs h
  obtain ⟨o0, k0⟩ := hone_of hone 0 f0 rfl
  obtain ⟨o1, k1⟩ := hone_of hone 1 f1 rfl
  obtain ⟨o2, k2⟩ := hone_of hone 2 f2 rfl
  match xs, hxl with
  | [y0, y1, y2], _ =>
    have t0 := hf 0 f0 rfl
    have t1 := hf 1 f1 rfl
    have t2 := hf 2 f2 rfl
    rw [o0, k0] at t0
    rw [o1, k1] at t1
    rw [o2, k2] at t2
    obtain ⟨a', e1, d1, _⟩ := DataW.trod_int h0 (x := y0) t0
    obtain ⟨b', e2, d2, _⟩ := DataW.trod_int h1 (x := y1) t1
    obtain ⟨c', e3, d3, _⟩ := DataW.trod_int h2 (x := y2) t2
    subst d1 d2 d3
    simp at e1 e2 e3 hy
    obtain ⟨ha, hb, hc⟩ := hy
    exact ⟨by rw [e1, ha], by rw [e2, hb], by rw [e3, hc]⟩
end

theorem tab_at {rest : List (String × DataW Unit)} {W : World} (h : laidMet Tryd.prog (("gaugehouse/delta.widths", Rows.laid_gaugehouse_delta_widths) :: rest) W) : TabAt W := by
  obtain ⟨ps, ⟨g', t', cs, fuel, p, q, hg', ht', hvar, hd, _, _⟩, _⟩ := h
  obtain rfl := Option.some.inj (gWid.symm.trans hg')
  obtain rfl := Option.some.inj (gWidType.symm.trans ht')
  obtain ⟨xs, m1, _, hx1, hlen, hn5, hel⟩ := DataW.trod_array Tryd.underlying62 hd
  rw [cWid] at hlen
  rw [cRow] at hel
  obtain ⟨L⟩ := cs
  simp at hlen hel
  match L, hlen, xs, hn5 with
  | [c0, c1, c2, c3, c4, c5, c6, c7, c8, c9, c10, c11, c12, c13, c14], _, [y0, y1, y2, y3, y4], _ =>
    simp only [Rows.laid_gaugehouse_delta_widths, List.map_cons, List.map_nil, Prod.mk.injEq, DataW.agg.injEq, List.cons.injEq, and_true] at hx1
    obtain ⟨⟨z0, z1, z2, z3, z4⟩, _⟩ := hx1
    have t0 := hel 0 (by decide)
    have t1 := hel 1 (by decide)
    have t2 := hel 2 (by decide)
    have t3 := hel 3 (by decide)
    have t4 := hel 4 (by decide)
    simp at t0 t1 t2 t3 t4
    have hu := Tryd.underlying61
    obtain ⟨rfl, rfl, rfl⟩ := row3 hu Tryd.underlying41 Tryd.underlying3 Tryd.underlying3 (by kernel_rfl) t0 z0.symm
    obtain ⟨rfl, rfl, rfl⟩ := row3 hu Tryd.underlying41 Tryd.underlying3 Tryd.underlying3 (by kernel_rfl) t1 z1.symm
    obtain ⟨rfl, rfl, rfl⟩ := row3 hu Tryd.underlying41 Tryd.underlying3 Tryd.underlying3 (by kernel_rfl) t2 z2.symm
    obtain ⟨rfl, rfl, rfl⟩ := row3 hu Tryd.underlying41 Tryd.underlying3 Tryd.underlying3 (by kernel_rfl) t3 z3.symm
    obtain ⟨rfl, rfl, rfl⟩ := row3 hu Tryd.underlying41 Tryd.underlying3 Tryd.underlying3 (by kernel_rfl) t4 z4.symm
    have hc := World.var?_cell gWid hvar
    unfold TabAt
    refine ⟨hc 0, hc 1, hc 2, hc 3, hc 4, hc 5, hc 6, hc 7, hc 8, hc 9, hc 10, hc 11, hc 12, hc 13, hc 14⟩
end Go.Proofs.YtmbpgenjjgepiaaDoor
