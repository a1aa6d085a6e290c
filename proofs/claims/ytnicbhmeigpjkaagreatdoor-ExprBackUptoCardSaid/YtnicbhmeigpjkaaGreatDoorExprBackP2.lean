/- Texts of the proof of ExprBack, joined (by merge.py). Conditions: each theorem's own hypotheses. -/
import Derived.Test.YtnicbhmeigpjkaaGreatDoorExprBackP0
import Derived.Test.YtnicbhmeigpjkaaGreatDoorExprOneP17
import Derived.Test.YtnicbhmeigpjkaaGreatDoorExprOneP9
namespace Go.Proofs.YtnicbhmeigpjkaaGreatDoor
open Go.RowKit Go.ChangeShapes Go.WideShapes Go.Deep

theorem cntL_app (a b : List ExE) : ExE.cntL (a ++ b) = ExE.cntL a + ExE.cntL b := by
  induction a with
  | nil => simp only [List.nil_append, ExE.cntL, Nat.zero_add]
  | cons y a ih => simp only [List.cons_append, ExE.cntL, ih, Nat.add_assoc]
theorem cnt_bulk {H : Type} : ∀ {l : List ExE} {ds : List (DataW H)}, l.length = ds.length → (∀ i (h : i < l.length) (h' : i < ds.length), l[i].cnt ≤ Rows.uptoBulk ds[i]) → ExE.cntL l ≤ Rows.uptoBulkAll ds
  | [], _, _, _ => by simp only [ExE.cntL]; exact Nat.zero_le _
  | y :: l, [], h, _ => by cases h
  | y :: l, d :: ds, h, hi => by
    simp only [ExE.cntL, Rows.uptoBulkAll]
    have h0 : y.cnt ≤ Rows.uptoBulk d := hi 0 (by simp) (by simp)
    have := cnt_bulk (l := l) (ds := ds) (by simpa using h) (fun i h1 h2 => by have := hi (i + 1) (by simp; exact h1) (by simp; exact h2); simpa using this)
    omega
section
variable {H : Type} {enc : TypeId × Value → H} {P : Program} {w : World} {base : Nat} {spare : Nat → Bool} {held : Bool}
/-- a slice whose elements are opened at less fuel, each beside what was read of it -/
theorem open_cellsF {t e : TypeId} {E : Type} [Inhabited E] (f : E → List Value) (ok : E → DataW H → Prop) {C : Nat} (ht : P.underlying t = some (.slice e)) (hC : P.cellsOf e = C) (hpos : 0 < C) (hf : ∀ x, (f x).length = C)
    {fuel : Nat} (hE : ∀ n cs x, n < fuel → cs.length = C → DataW.trod enc P w base spare held n e cs = some x → Rows.uptoBulk x.1 ≤ 1048576 → ∃ el, cs = f el ∧ ok el x.1)
    {cs : List Value} {x : DataW H × List MemPlace} (h : DataW.trod enc P w base spare held fuel t cs = some x) (hk : Rows.uptoBulk x.1 ≤ 1048576) :
    ∃ (A : Option Addr) (c : Nat) (l : List E) (ds : List (DataW H)), cs = [.slice A l.length c] ∧ l.length = ds.length ∧ (∀ i (h : i < l.length) (h' : i < ds.length), ok l[i] ds[i]) ∧ l.length ≤ c ∧ c ≤ maxLen ∧ (A = none → c = 0) ∧ Has w w.heap.size A (l.flatMap f) ∧ Rows.uptoBulkAll ds < Rows.uptoBulk x.1 := by
  subst hC
  rcases DataW.trod_slice ht h with ⟨hcs, hx⟩ | ⟨a, len, cap, elems, rest, n, hfu, hcs, hx, hb, hl, hm, hlen, hel, _, _⟩
  · exact ⟨none, 0, [], [], hcs, rfl, (fun i h => by cases h), Nat.le_refl _, Nat.zero_le _, fun _ => rfl, Has.nil _ _ _, by rw [hx]; simp [Rows.uptoBulkAll, Rows.uptoBulk]⟩
  · have hbk : Rows.uptoBulkAll (elems.map (·.1)) < Rows.uptoBulk x.1 := by rw [hx]; simp only [Rows.uptoBulk]; omega
    have each : ∀ i : Fin len, ∃ el, ok el (elems[i.val]'(by have := i.isLt; omega)).1 ∧ ∀ r, r < P.cellsOf e → w.cell? ((a.add (i.val * P.cellsOf e)).add r) = (f el)[r]? := by
      intro ⟨i, hi⟩
      have h1 := hel i hi
      rw [List.getElem?_eq_getElem (by omega)] at h1
      obtain ⟨cs', h2, h3⟩ := Option.bind_eq_some_iff.1 h1
      obtain ⟨_, h4, h5⟩ := World.cells?_some h2
      have h6 : Rows.uptoBulk (elems[i]'(by omega)).1 ≤ Rows.uptoBulkAll (elems.map (·.1)) := bulk_part (List.mem_map.2 ⟨_, List.getElem_mem _, rfl⟩)
      obtain ⟨el, rfl, hok⟩ := hE n cs' _ (by omega) h4 h3 (by omega)
      exact ⟨el, hok, h5⟩
    obtain ⟨g, hg⟩ := Classical.axiomOfChoice each
    have hgl : (List.ofFn g).length = len := by simp
    refine ⟨some a, cap, List.ofFn g, elems.map (·.1), by rw [hcs, hgl], by rw [hgl, List.length_map, hlen], ?_, by omega, hm, (fun h => by cases h), ?_, hbk⟩
    · intro i h h'
      rw [List.getElem_ofFn, List.getElem_map]
      exact (hg ⟨i, by rw [hgl] at h; exact h⟩).1
    · have hcell : ∀ j u, ((List.ofFn g).flatMap f)[j]? = some u → w.cell? (a.add j) = some u := by
        intro j u hu
        have hj : j < ((List.ofFn g).flatMap f).length := (List.getElem?_eq_some_iff.1 hu).1
        rw [flat_len hf, hgl] at hj
        have hq : j / P.cellsOf e < len := Nat.div_lt_of_lt_mul (by rw [Nat.mul_comm]; exact hj)
        have hjj : j / P.cellsOf e * P.cellsOf e + j % P.cellsOf e = j := by rw [Nat.mul_comm]; exact Nat.div_add_mod _ _
        have hr := Nat.mod_lt j hpos
        have h6 := (hg ⟨_, hq⟩).2 _ hr
        rw [← hjj, flat_get hf _ _ _ hr, List.getElem?_ofFn, dif_pos hq] at hu
        rw [add_add_, hjj] at h6
        rw [h6]
        exact hu
      intro hne
      refine ⟨a, rfl, ?_, hcell⟩
      obtain ⟨u, hu⟩ : ∃ u, ((List.ofFn g).flatMap f)[0]? = some u := by
        cases hxx : (List.ofFn g).flatMap f with
        | nil => exact absurd hxx hne
        | cons u r => exact ⟨u, rfl⟩
      have := World.block_lt_of_cell? _ _ (hcell 0 u hu)
      rwa [add_block] at this
theorem list6 {α : Type} {l : List α} (h : l.length = 6) : ∃ a b c d e f, l = [a, b, c, d, e, f] := by
  match l, h with
  | [a, b, c, d, e, f], _ => exact ⟨a, b, c, d, e, f, rfl⟩
variable {t lm tm ls ts lx : TypeId} {f0 f1 f2 f3 f4 f5 m0 m1 m2 : Field} (hs : P.underlying t = some (.struct #[f0, f1, f2, f3, f4, f5]))
    (i0 : P.underlying f0.type = some (.int .i64)) (i1 : P.underlying f1.type = some (.int .i64)) (i2 : P.underlying f2.type = some (.int .i64)) (i3 : P.underlying f3.type = some (.slice tm)) (i4 : P.underlying f4.type = some (.slice ts)) (i5 : P.underlying f5.type = some (.slice t))
    (hm : P.underlying tm = some (.struct #[m0, m1, m2])) (j0 : P.underlying m0.type = some (.int .i64)) (j1 : P.underlying m1.type = some .string) (j2 : P.underlying m2.type = some .string) (hone : oneCellFields P #[m0, m1, m2] = true) (hts : P.underlying ts = some .string)
    (o : (f0.offset, f1.offset, f2.offset, f3.offset, f4.offset, f5.offset) = (0, 1, 2, 3, 4, 5)) (c : (P.cellsOf f0.type, P.cellsOf f1.type, P.cellsOf f2.type, P.cellsOf f3.type, P.cellsOf f4.type, P.cellsOf f5.type) = (1, 1, 1, 1, 1, 1)) (c2 : (P.cellsOf t, P.cellsOf tm, P.cellsOf ts) = (6, 3, 1))
include hs i0 i1 i2 i3 i4 i5 hm j0 j1 j2 hone hts o c c2
theorem elem_expr : ∀ fuel cs x, cs.length = 6 → DataW.trod enc P w base spare held fuel t cs = some x → Rows.uptoBulk x.1 ≤ 1048576 → ∃ e : ExE, cs = exC e ∧ e.G w ∧ e.cnt + 4 ≤ Rows.uptoBulk x.1 := by
  intro fuel
  induction fuel using Nat.strongRecOn with
  | ind fuel ih =>
  intro cs x hl h hk
  obtain ⟨o0, o1, o2, o3, o4, o5⟩ : f0.offset = 0 ∧ f1.offset = 1 ∧ f2.offset = 2 ∧ f3.offset = 3 ∧ f4.offset = 4 ∧ f5.offset = 5 := by simpa using o
  obtain ⟨d0, d1, d2, d3, d4, d5⟩ : P.cellsOf f0.type = 1 ∧ P.cellsOf f1.type = 1 ∧ P.cellsOf f2.type = 1 ∧ P.cellsOf f3.type = 1 ∧ P.cellsOf f4.type = 1 ∧ P.cellsOf f5.type = 1 := by simpa using c
  obtain ⟨ct, cm, cts⟩ : P.cellsOf t = 6 ∧ P.cellsOf tm = 3 ∧ P.cellsOf ts = 1 := by simpa using c2
  obtain ⟨v0, v1, v2, v3, v4, v5, rfl⟩ := list6 hl
  obtain ⟨xs, m, hfu, hx1, _, hxl, hff⟩ := DataW.trod_struct hs h
  match xs, hxl with
  | [y0, y1, y2, y3, y4, y5], _ =>
    have t0 := hff 0 f0 rfl
    have t1 := hff 1 f1 rfl
    have t2 := hff 2 f2 rfl
    have t3 := hff 3 f3 rfl
    have t4 := hff 4 f4 rfl
    have t5 := hff 5 f5 rfl
    rw [o0, d0] at t0
    rw [o1, d1] at t1
    rw [o2, d2] at t2
    rw [o3, d3] at t3
    rw [o4, d4] at t4
    rw [o5, d5] at t5
    have t0 : DataW.trod enc P w base spare held m f0.type [v0] = some y0 := t0
    have t1 : DataW.trod enc P w base spare held m f1.type [v1] = some y1 := t1
    have t2 : DataW.trod enc P w base spare held m f2.type [v2] = some y2 := t2
    have t3 : DataW.trod enc P w base spare held m f3.type [v3] = some y3 := t3
    have t4 : DataW.trod enc P w base spare held m f4.type [v4] = some y4 := t4
    have t5 : DataW.trod enc P w base spare held m f5.type [v5] = some y5 := t5
    have hbx : Rows.uptoBulk x.1 = Rows.uptoBulk y0.1 + (Rows.uptoBulk y1.1 + (Rows.uptoBulk y2.1 + (Rows.uptoBulk y3.1 + (Rows.uptoBulk y4.1 + (Rows.uptoBulk y5.1 + 0))))) + 1 := by
      rw [hx1]
      simp only [List.map_cons, List.map_nil, Rows.uptoBulk, Rows.uptoBulkAll]
    obtain ⟨K, e0, _, w0⟩ := DataW.trod_int i0 t0
    obtain ⟨N, e1, _, w1⟩ := DataW.trod_int i1 t1
    obtain ⟨V, e2, _, w2⟩ := DataW.trod_int i2 t2
    obtain ⟨MA, mc, ml, mds, e3, a0, a1, a2, a3, a4, a5, _⟩ := open_cellsF (H := H) mtC (fun x _ => MtOk x) i3 cm (by omega) (fun _ => rfl) (fun n cs x _ hl h _ => elem_mt hm j0 j1 j2 hone n cs x hl h) t3 (by omega)
    obtain ⟨BA, bc, bl, bds, e4, b0, b1, b2, b3, b4, b5, b6⟩ := open_cellsF (H := H) strC (fun s _ => s.size ≤ maxLen) i4 cts (by omega) (fun _ => rfl) (fun n cs x _ hl h _ => elem_str hts n cs x hl h) t4 (by omega)
    obtain ⟨XA, xc, xl, xds, e5, x0, x1, x2, x3, x4, x5, x6⟩ := open_cellsF (H := H) exC (fun e d => e.G w ∧ e.cnt + 4 ≤ Rows.uptoBulk d) i5 ct (by omega) (fun _ => rfl) (fun n cs x hn hl h hk => ih n (by omega) cs x hl h hk) t5 (by omega)
    injection e0 with e0
    injection e1 with e1
    injection e2 with e2
    injection e3 with e3
    injection e4 with e4
    injection e5 with e5
    have hlen := bulk_length bds
    refine ⟨.mk K N V MA mc ml BA bc bl XA xc xl, by rw [e0, e1, e2, e3, e4, e5]; rfl, .mk ⟨bounds_i64 w0, bounds_i64 w1, bounds_i64 w2, ?_, a2, a3, a4, a5, ?_, b2, b3, b4, b5, (show bl.length ≤ 1048576 by omega), x2, x3, x4, x5⟩ ?_, ?_⟩
    · intro q hq
      obtain ⟨i, hi, rfl⟩ := List.getElem_of_mem hq
      have hi' : i < ml.length := hi
      exact a1 i hi' (by omega)
    · intro q hq
      obtain ⟨i, hi, rfl⟩ := List.getElem_of_mem hq
      have hi' : i < bl.length := hi
      exact b1 i hi' (by omega)
    · intro q hq
      obtain ⟨i, hi, rfl⟩ := List.getElem_of_mem hq
      have hi' : i < xl.length := hi
      exact (x1 i hi' (by omega)).1
    · rw [ExE.cnt_eq]
      have := cnt_bulk x0 (fun i h1 h2 => by have := (x1 i h1 h2).2; omega)
      have z0 := bulk_one y0.1
      have z1 := bulk_one y1.1
      have z2 := bulk_one y2.1
      show 1 + ExE.cntL xl + 4 ≤ _
      omega
/-- api.Expr, by value -/
theorem open_expr {r : Reach} {b0 : Nat} {v : Value} {d : DataW H} {p : List MemPlace} (hval : Value.okWide P w r b0 t v) (h : DataW.Trod enc P w base spare held t v d p) (hk : Rows.uptoBulk d ≤ 1048576) :
    ∃ e : ExE, v = .agg #[.int .i64 e.kind, .int .i64 e.n, .int .i64 e.w, .slice e.ma e.m.length e.mc, .slice e.ba e.b.length e.bc, .slice e.xa e.x.length e.xc] ∧ e.G w ∧ e.cnt + 4 ≤ 1048576 := by
  obtain ⟨cs, rfl, hsz⟩ := okWide_struct hs hval
  obtain ⟨fuel, hf⟩ := h
  obtain ⟨l⟩ := cs
  obtain ⟨ct, _, _⟩ : P.cellsOf t = 6 ∧ P.cellsOf tm = 3 ∧ P.cellsOf ts = 1 := by simpa using c2
  obtain ⟨e, h2, h3, h4⟩ := elem_expr hs i0 i1 i2 i3 i4 i5 hm j0 j1 j2 hone hts o c c2 fuel _ _ (by exact hsz.trans ct) hf hk
  have h2 : l = exC e := h2
  subst h2
  exact ⟨e, rfl, h3, by have : Rows.uptoBulk d ≤ 1048576 := hk; exact Nat.le_trans h4 this⟩
end
end Go.Proofs.YtnicbhmeigpjkaaGreatDoor
