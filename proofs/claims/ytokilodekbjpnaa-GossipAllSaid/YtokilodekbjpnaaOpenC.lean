/- Claims that come in, opened. Conditions: none beyond each theorem's own hypotheses. -/
import Derived.Test.YtokilodekbjpnaaSameD
namespace Go.Proofs.Ytokilodekbjpnaa
open Go.RowKit Go.ChangeShapes Go.WideShapes Go.Deep

def U64in (l : List Nat) : Prop := ∀ x ∈ l, x < 18446744073709551616
def ClE.good (w : World) (e : ClE) : Prop := e.t.ok w ∧ in64 e.v ∧ in64 e.s ∧ U64in e.t.l ∧ e.nm.size ≤ maxLen
theorem flat_u64 (l : List Nat) : l.flatMap (fun n : Nat => [Value.int .u64 n]) = u64s l := by
  induction l with
  | nil => rfl
  | cons b l ih => rw [List.flatMap_cons, ih]; rfl
section
variable {H : Type} {enc : TypeId × Value → H} {P : Program} {w : World} {base : Nat} {spare : Nat → Bool} {held : Bool}
theorem elem_u64 {e : TypeId} (he : P.underlying e = some (.int .u64)) : ∀ n cs x, cs.length = 1 → DataW.trod enc P w base spare held n e cs = some x → ∃ el : Nat, cs = [Value.int .u64 (el : Int)] ∧ el < 18446744073709551616 := by
  intro n cs x _ h
  obtain ⟨m, rfl, _, hw⟩ := DataW.trod_int he h
  have hb := bounds_u64 hw
  obtain ⟨q, rfl⟩ := Int.eq_ofNat_of_zero_le hb.1
  exact ⟨q, rfl, by omega⟩
theorem elem_row {t e : TypeId} (ht : P.underlying t = some (.slice e)) (he : P.underlying e = some (.int .u64)) (hC : P.cellsOf e = 1) {n : Nat} {cs : List Value} {x : DataW H × List MemPlace} (h : DataW.trod enc P w base spare held n t cs = some x) :
    ∃ r : Row, cs = [.slice r.A r.l.length r.c] ∧ r.ok w ∧ U64in r.l := by
  obtain ⟨A, c, l, h1, h2, h3, h4, h5, h6, _⟩ := open_cells (fun n : Nat => [Value.int .u64 n]) _ ht hC (by omega) (fun _ => rfl) (elem_u64 he) h
  exact ⟨⟨A, c, l⟩, h1, ⟨h3, h4, h5, by rw [← flat_u64]; exact h6⟩, h2⟩
theorem list4 {α : Type} {l : List α} (h : l.length = 4) : ∃ a b c d, l = [a, b, c, d] := by
  match l, h with
  | [a, b, c, d], _ => exact ⟨a, b, c, d, rfl⟩
theorem elem_claim {t eu : TypeId} {f0 f1 f2 g0 g1 : Field} (hs : P.underlying t = some (.struct #[f0, f1, f2])) (h0 : P.underlying f0.type = some (.int .i64)) (h1 : P.underlying f1.type = some (.int .i64)) (hn : P.underlying f2.type = some (.struct #[g0, g1]))
    (i0 : P.underlying g0.type = some .string) (i1 : P.underlying g1.type = some (.slice eu)) (hu : P.underlying eu = some (.int .u64))
    (o : (f0.offset, f1.offset, f2.offset, g0.offset, g1.offset) = (0, 1, 2, 0, 1)) (c : (P.cellsOf f0.type, P.cellsOf f1.type, P.cellsOf f2.type, P.cellsOf g0.type, P.cellsOf g1.type, P.cellsOf eu) = (1, 1, 2, 1, 1, 1)) :
    ∀ n cs x, cs.length = 4 → DataW.trod enc P w base spare held n t cs = some x → ∃ el : ClE, cs = clC el ∧ el.good w := by
  intro n cs x hl h
  obtain ⟨o0, o1, o2, p0, p1⟩ : f0.offset = 0 ∧ f1.offset = 1 ∧ f2.offset = 2 ∧ g0.offset = 0 ∧ g1.offset = 1 := by simpa using o
  obtain ⟨c0, c1, c2, d0, d1, d2⟩ : P.cellsOf f0.type = 1 ∧ P.cellsOf f1.type = 1 ∧ P.cellsOf f2.type = 2 ∧ P.cellsOf g0.type = 1 ∧ P.cellsOf g1.type = 1 ∧ P.cellsOf eu = 1 := by simpa using c
  obtain ⟨v0, v1, v2, v3, rfl⟩ := list4 hl
  obtain ⟨xs, m, _, _, _, hxl, hff⟩ := DataW.trod_struct hs h
  match xs, hxl with
  | [y0, y1, y2], _ =>
    have t0 := hff 0 f0 rfl
    have t1 := hff 1 f1 rfl
    have t2 := hff 2 f2 rfl
    rw [o0, c0] at t0
    rw [o1, c1] at t1
    rw [o2, c2] at t2
    have t0 : DataW.trod enc P w base spare held m f0.type [v0] = some y0 := t0
    have t1 : DataW.trod enc P w base spare held m f1.type [v1] = some y1 := t1
    have t2 : DataW.trod enc P w base spare held m f2.type [v2, v3] = some y2 := t2
    obtain ⟨zs, q, _, _, _, hzl, hgg⟩ := DataW.trod_struct hn t2
    match zs, hzl with
    | [z0, z1], _ =>
      have u0 := hgg 0 g0 rfl
      have u1 := hgg 1 g1 rfl
      rw [p0, d0] at u0
      rw [p1, d1] at u1
      have u0 : DataW.trod enc P w base spare held q g0.type [v2] = some z0 := u0
      have u1 : DataW.trod enc P w base spare held q g1.type [v3] = some z1 := u1
      obtain ⟨V, e0, _, w0⟩ := DataW.trod_int h0 t0
      obtain ⟨S, e1, _, w1⟩ := DataW.trod_int h1 t1
      obtain ⟨s, e2, _, w2⟩ := DataW.trod_string i0 u0
      obtain ⟨r, e3, w3, w4⟩ := elem_row i1 hu d2 u1
      injection e0 with e0
      injection e1 with e1
      injection e2 with e2
      injection e3 with e3
      subst e0 e1 e2 e3
      exact ⟨⟨V, S, s, r⟩, rfl, w3, bounds_i64 w0, bounds_i64 w1, w4, w2⟩
theorem open_claim {t eu : TypeId} {f0 f1 f2 g0 g1 : Field} (hs : P.underlying t = some (.struct #[f0, f1, f2])) (h0 : P.underlying f0.type = some (.int .i64)) (h1 : P.underlying f1.type = some (.int .i64)) (hn : P.underlying f2.type = some (.struct #[g0, g1]))
    (i0 : P.underlying g0.type = some .string) (i1 : P.underlying g1.type = some (.slice eu)) (hu : P.underlying eu = some (.int .u64))
    (o : (f0.offset, f1.offset, f2.offset, g0.offset, g1.offset) = (0, 1, 2, 0, 1)) (c : (P.cellsOf f0.type, P.cellsOf f1.type, P.cellsOf f2.type, P.cellsOf g0.type, P.cellsOf g1.type, P.cellsOf eu) = (1, 1, 2, 1, 1, 1)) (hC : P.cellsOf t = 4)
    {r : Reach} {b0 : Nat} {v : Value} {d : DataW H} {p : List MemPlace} (hval : Value.okWide P w r b0 t v) (h : DataW.Trod enc P w base spare held t v d p) :
    ∃ (V S : Int) (a : ByteArray) (x : Row), v = .agg #[.int .i64 V, .int .i64 S, .string a, .slice x.A x.l.length x.c] ∧ (⟨V, S, a, x⟩ : ClE).good w := by
  obtain ⟨cs, rfl, hsz⟩ := okWide_struct hs hval
  obtain ⟨fuel, hf⟩ := h
  obtain ⟨l⟩ := cs
  obtain ⟨e, h2, h3⟩ := elem_claim hs h0 h1 hn i0 i1 hu o c fuel _ _ (by exact hsz.trans hC) hf
  have h2 : l = clC e := h2
  subst h2
  exact ⟨e.v, e.s, e.nm, e.t, rfl, h3⟩
theorem open_claims {lt t eu : TypeId} {f0 f1 f2 g0 g1 : Field} (ht : P.underlying lt = some (.slice t)) (hs : P.underlying t = some (.struct #[f0, f1, f2])) (h0 : P.underlying f0.type = some (.int .i64)) (h1 : P.underlying f1.type = some (.int .i64)) (hn : P.underlying f2.type = some (.struct #[g0, g1]))
    (i0 : P.underlying g0.type = some .string) (i1 : P.underlying g1.type = some (.slice eu)) (hu : P.underlying eu = some (.int .u64))
    (o : (f0.offset, f1.offset, f2.offset, g0.offset, g1.offset) = (0, 1, 2, 0, 1)) (c : (P.cellsOf f0.type, P.cellsOf f1.type, P.cellsOf f2.type, P.cellsOf g0.type, P.cellsOf g1.type, P.cellsOf eu) = (1, 1, 2, 1, 1, 1)) (hC : P.cellsOf t = 4) (hB : P.bytesOf t = 56)
    {r : Reach} {b0 : Nat} {v : Value} {d : DataW H} {p : List MemPlace} (hval : Value.okWide P w r b0 lt v) (h : DataW.Trod enc P w base spare held lt v d p) (hsz : ∀ n ∈ d.weights P lt, n ≤ reachBytes) :
    ∃ (A : Option Addr) (k : Nat) (l : List ClE), v = .slice A l.length k ∧ (∀ e ∈ l, e.good w) ∧ l.length ≤ k ∧ k ≤ maxLen ∧ (A = none → k = 0) ∧ Has w w.heap.size A (clCs l) ∧ l.length * 56 ≤ 140737488351232 :=
  open_list clC (fun e => e.good w) ht hC hB (by omega) (fun _ => rfl) (elem_claim hs h0 h1 hn i0 i1 hu o c) hval h hsz
end
end Go.Proofs.Ytokilodekbjpnaa
