/- Texts of the proof of ExprOne, joined (by merge.py). Conditions: each theorem's own hypotheses. -/
import Derived.Test.YtnicbhmeigpjkaaGreatDoorExprOneP28
import Derived.Test.YtnicbhmeigpjkaaGreatDoorExprOneP29
import Derived.Test.YtnicbhmeigpjkaaGreatDoorExprOneP31
import Derived.Test.YtnicbhmeigpjkaaGreatDoorExprOneP32
namespace Go.Proofs.YtnicbhmeigpjkaaGreatDoor
open Go.ChangeShapes Go.WideShapes Go.ChangeAt Go.RowKit Go.Deep

theorem gWd : Tryz.prog.globalNamed "gaugehouse/expr.words" = some 0 := by kernel_rfl
theorem gWdType : (Tryz.prog.globals[0]?).map (·.type) = some 110 := by kernel_rfl
theorem cWd : Tryz.prog.cellsOf 110 = 9 := by kernel_rfl
theorem words_at {rest : List (String × DataW Unit)} {W : World} (h : laidMet Tryz.prog (("gaugehouse/expr.words", Rows.laid_gaugehouse_expr_words) :: rest) W) : WdAt W := by
  obtain ⟨ps, ⟨g', t', cs, fuel, p, q, hg', ht', hvar, hd, _, _⟩, _⟩ := h
  obtain rfl := Option.some.inj (gWd.symm.trans hg')
  obtain rfl := Option.some.inj (gWdType.symm.trans ht')
  obtain ⟨xs, m1, _, hx1, hlen, hn5, hel⟩ := DataW.trod_array Tryz.underlying110 hd
  rw [cWd] at hlen
  rw [cStr] at hel
  obtain ⟨L⟩ := cs
  simp at hlen hel
  match L, hlen, xs, hn5 with
  | [c0, c1, c2, c3, c4, c5, c6, c7, c8], _, [y0, y1, y2, y3, y4, y5, y6, y7, y8], _ =>
    simp only [Rows.laid_gaugehouse_expr_words, List.map_cons, List.map_nil, Prod.mk.injEq, DataW.agg.injEq, List.cons.injEq, and_true] at hx1
    obtain ⟨⟨z0, z1, z2, z3, z4, z5, z6, z7, z8⟩, _⟩ := hx1
    have t0 := hel 0 (by decide)
    have t1 := hel 1 (by decide)
    have t2 := hel 2 (by decide)
    have t3 := hel 3 (by decide)
    have t4 := hel 4 (by decide)
    have t5 := hel 5 (by decide)
    have t6 := hel 6 (by decide)
    have t7 := hel 7 (by decide)
    have t8 := hel 8 (by decide)
    simp at t0 t1 t2 t3 t4 t5 t6 t7 t8
    have hu := Tryz.underlying9
    obtain rfl := row1S hu t0 z0.symm
    obtain rfl := row1S hu t1 z1.symm
    obtain rfl := row1S hu t2 z2.symm
    obtain rfl := row1S hu t3 z3.symm
    obtain rfl := row1S hu t4 z4.symm
    obtain rfl := row1S hu t5 z5.symm
    obtain rfl := row1S hu t6 z6.symm
    obtain rfl := row1S hu t7 z7.symm
    obtain rfl := row1S hu t8 z8.symm
    have hc := World.var?_cell gWd hvar
    refine ⟨World.block_lt_of_cell? W ⟨0, 0, none⟩ (hc 0), fun k hk => ?_⟩
    rcases (show k = 0 ∨ k = 1 ∨ k = 2 ∨ k = 3 ∨ k = 4 ∨ k = 5 ∨ k = 6 ∨ k = 7 ∨ k = 8 by omega) with rfl | rfl | rfl | rfl | rfl | rfl | rfl | rfl | rfl
    · exact hc 0
    · exact hc 1
    · exact hc 2
    · exact hc 3
    · exact hc 4
    · exact hc 5
    · exact hc 6
    · exact hc 7
    · exact hc 8
theorem gPwType : (Tryz.prog.globals[3]?).map (·.type) = some 208 := by kernel_rfl
theorem powList : (Rows.laid_internal_strconv_uint64pow10 : DataW Unit) = Lib.tabData .u64 Lib.pow10Tab := by kernel_rfl
theorem pow_at {rest : List (String × DataW Unit)} {W : World} (h : laidMet Tryz.prog (("internal/strconv.uint64pow10", Rows.laid_internal_strconv_uint64pow10) :: rest) W) : PwAt W := by
  rw [powList] at h
  exact Lib.tabIs_of_head gPw gPwType Tryz.underlying208 Tryz.underlying172 (by kernel_rfl) (by kernel_rfl) h
section
variable {H : Type} {enc : TypeId × Value → H} {P : Program} {w : World} {base : Nat} {sp : Nat → Bool} {held : Bool}
theorem trod_ifaceX {t : TypeId} {ms : Array (String × TypeId)} {fuel : Nat} {cs : List Value} {x : DataW H × List MemPlace} (ht : P.underlying t = some (.interface ms)) (h : DataW.trod enc P w base sp held fuel t cs = some x) : cs = [.nilIface] ∨ ∃ u v, cs = [.iface u v] := by
  cases fuel with
  | zero => simp [DataW.trod] at h
  | succ n =>
    unfold DataW.trod at h
    rw [ht] at h
    split at h <;> simp_all
end
theorem err_cell {P : Program} {name : String} {d : DataW Unit} {rest : List (String × DataW Unit)} {W : World} {g : Nat} {t : TypeId} {ms : Array (String × TypeId)} (hg : P.globalNamed name = some g) (hty : (P.globals[g]?).map (·.type) = some t) (hu : P.underlying t = some (.interface ms)) (h : laidMet P ((name, d) :: rest) W) :
    ∃ e, W.cell? ⟨g, 0, none⟩ = some e ∧ (e = .nilIface ∨ ∃ u p, e = .iface u p) := by
  obtain ⟨ps, ⟨g', t', cs, fuel, p, q, hg', ht', hvar, hd, _, _⟩, _⟩ := h
  obtain rfl := Option.some.inj (hg.symm.trans hg')
  obtain rfl := Option.some.inj (hty.symm.trans ht')
  have hc := World.var?_cell hg hvar 0
  obtain ⟨L⟩ := cs
  rcases trod_ifaceX hu hd with e | ⟨u, v, e⟩
  · simp only [] at e
    subst e
    exact ⟨_, hc, .inl rfl⟩
  · simp only [] at e
    subst e
    exact ⟨_, hc, .inr ⟨u, v, rfl⟩⟩
theorem errs_at {rest : List (String × DataW Unit)} {W : World} (h : laidMet Tryz.prog (("strconv.ErrRange", Rows.laid_strconv_ErrRange) :: ("strconv.ErrSyntax", Rows.laid_strconv_ErrSyntax) :: rest) W) : ErAt W :=
  ⟨err_cell (t := 142) (by kernel_rfl) (by kernel_rfl) Tryz.underlying142 (laid_tail h), err_cell (t := 142) (by kernel_rfl) (by kernel_rfl) Tryz.underlying142 h⟩
end Go.Proofs.YtnicbhmeigpjkaaGreatDoor
