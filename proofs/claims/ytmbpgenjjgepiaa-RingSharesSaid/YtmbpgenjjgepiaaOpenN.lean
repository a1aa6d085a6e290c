/- Nodes that come in, opened. Conditions: none beyond each theorem's own hypotheses. -/
import Derived.Test.YtmbpgenjjgepiaaRgChk
namespace Go.Proofs.Ytmbpgenjjgepiaa
open Go.RowKit Go.ChangeShapes Go.WideShapes Go.Deep

theorem flat_u64N (l : List Nat) : l.flatMap (fun n : Nat => [Value.int .u64 n]) = u64s l := by
  induction l with
  | nil => rfl
  | cons b l ih => rw [List.flatMap_cons, ih]; rfl
section
variable {H : Type} {enc : TypeId × Value → H} {P : Program} {w : World} {base : Nat} {spare : Nat → Bool} {held : Bool}
theorem elem_u64N {e : TypeId} (he : P.underlying e = some (.int .u64)) : ∀ n cs x, cs.length = 1 → DataW.trod enc P w base spare held n e cs = some x → ∃ el : Nat, cs = [Value.int .u64 (el : Int)] ∧ el < 18446744073709551616 := by
  intro n cs x _ h
  obtain ⟨m, rfl, _, hw⟩ := DataW.trod_int he h
  have hb := bounds_u64 hw
  obtain ⟨q, rfl⟩ := Int.eq_ofNat_of_zero_le hb.1
  exact ⟨q, rfl, by omega⟩
theorem elem_rowN {t e : TypeId} (ht : P.underlying t = some (.slice e)) (he : P.underlying e = some (.int .u64)) (hC : P.cellsOf e = 1) {n : Nat} {cs : List Value} {x : DataW H × List MemPlace} (h : DataW.trod enc P w base spare held n t cs = some x) :
    ∃ r : Row, cs = [.slice r.A r.l.length r.c] ∧ r.ok w ∧ ∀ x ∈ r.l, x < 18446744073709551616 := by
  obtain ⟨A, c, l, h1, h2, h3, h4, h5, h6, _⟩ := open_cells (fun n : Nat => [Value.int .u64 n]) _ ht hC (by omega) (fun _ => rfl) (elem_u64N he) h
  exact ⟨⟨A, c, l⟩, h1, ⟨h3, h4, h5, by rw [← flat_u64N]; exact h6⟩, h2⟩
theorem list2N {α : Type} {l : List α} (h : l.length = 2) : ∃ a b, l = [a, b] := by
  match l, h with
  | [a, b], _ => exact ⟨a, b, rfl⟩
theorem elem_node {t eu : TypeId} {g0 g1 : Field} (hn : P.underlying t = some (.struct #[g0, g1])) (i0 : P.underlying g0.type = some .string) (i1 : P.underlying g1.type = some (.slice eu)) (hu : P.underlying eu = some (.int .u64))
    (o : (g0.offset, g1.offset) = (0, 1)) (c : (P.cellsOf g0.type, P.cellsOf g1.type, P.cellsOf eu) = (1, 1, 1)) :
    ∀ n cs x, cs.length = 2 → DataW.trod enc P w base spare held n t cs = some x → ∃ el : NodE, cs = nodC el ∧ NodOk w el := by
  intro n cs x hl h
  obtain ⟨p0, p1⟩ : g0.offset = 0 ∧ g1.offset = 1 := by simpa using o
  obtain ⟨d0, d1, d2⟩ : P.cellsOf g0.type = 1 ∧ P.cellsOf g1.type = 1 ∧ P.cellsOf eu = 1 := by simpa using c
  obtain ⟨v2, v3, rfl⟩ := list2N hl
  obtain ⟨zs, q, _, _, _, hzl, hgg⟩ := DataW.trod_struct hn h
  match zs, hzl with
  | [z0, z1], _ =>
    have u0 := hgg 0 g0 rfl
    have u1 := hgg 1 g1 rfl
    rw [p0, d0] at u0
    rw [p1, d1] at u1
    have u0 : DataW.trod enc P w base spare held q g0.type [v2] = some z0 := u0
    have u1 : DataW.trod enc P w base spare held q g1.type [v3] = some z1 := u1
    obtain ⟨s, e2, _, w2⟩ := DataW.trod_string i0 u0
    obtain ⟨r, e3, w3, w4⟩ := elem_rowN i1 hu d2 u1
    injection e2 with e2
    injection e3 with e3
    subst e2 e3
    exact ⟨⟨s, r⟩, rfl, w3, w2, w4⟩
theorem open_node {t eu : TypeId} {g0 g1 : Field} (hn : P.underlying t = some (.struct #[g0, g1])) (i0 : P.underlying g0.type = some .string) (i1 : P.underlying g1.type = some (.slice eu)) (hu : P.underlying eu = some (.int .u64))
    (o : (g0.offset, g1.offset) = (0, 1)) (c : (P.cellsOf g0.type, P.cellsOf g1.type, P.cellsOf eu) = (1, 1, 1)) (hC : P.cellsOf t = 2)
    {r : Reach} {b0 : Nat} {v : Value} {d : DataW H} {p : List MemPlace} (hval : Value.okWide P w r b0 t v) (h : DataW.Trod enc P w base spare held t v d p) :
    ∃ (a : ByteArray) (x : Row), v = .agg #[.string a, .slice x.A x.l.length x.c] ∧ NodOk w ⟨a, x⟩ := by
  obtain ⟨cs, rfl, hsz⟩ := okWide_struct hn hval
  obtain ⟨fuel, hf⟩ := h
  obtain ⟨l⟩ := cs
  obtain ⟨e, h2, h3⟩ := elem_node hn i0 i1 hu o c fuel _ _ (by exact hsz.trans hC) hf
  have h2 : l = nodC e := h2
  subst h2
  exact ⟨e.nm, e.t, rfl, h3⟩
theorem open_nodes {lt t eu : TypeId} {g0 g1 : Field} (ht : P.underlying lt = some (.slice t)) (hn : P.underlying t = some (.struct #[g0, g1])) (i0 : P.underlying g0.type = some .string) (i1 : P.underlying g1.type = some (.slice eu)) (hu : P.underlying eu = some (.int .u64))
    (o : (g0.offset, g1.offset) = (0, 1)) (c : (P.cellsOf g0.type, P.cellsOf g1.type, P.cellsOf eu) = (1, 1, 1)) (hC : P.cellsOf t = 2) (hB : P.bytesOf t = 40)
    {r : Reach} {b0 : Nat} {v : Value} {d : DataW H} {p : List MemPlace} (hval : Value.okWide P w r b0 lt v) (h : DataW.Trod enc P w base spare held lt v d p) (hsz : ∀ n ∈ d.weights P lt, n ≤ reachBytes) :
    ∃ (A : Option Addr) (k : Nat) (l : List NodE), v = .slice A l.length k ∧ (∀ e ∈ l, NodOk w e) ∧ l.length ≤ k ∧ k ≤ maxLen ∧ (A = none → k = 0) ∧ Has w w.heap.size A (nodCs l) ∧ l.length * 40 ≤ 140737488351232 :=
  open_list nodC (fun e => NodOk w e) ht hC hB (by omega) (fun _ => rfl) (elem_node hn i0 i1 hu o c) hval h hsz
end
end Go.Proofs.Ytmbpgenjjgepiaa
