/- Sketches and strings that come in, opened. Conditions: none beyond each theorem's own hypotheses. -/
import Derived.Test.YtmfndpkhcejffaaGreatDoorRowsI
namespace Go.Proofs.YtmfndpkhcejffaaGreatDoor
open Go.RowKit Go.ChangeShapes Go.WideShapes Go.Deep

def strC (s : ByteArray) : List Value := [.string s]
def strCs (l : List ByteArray) : List Value := l.flatMap strC
section
variable {H : Type} {enc : TypeId × Value → H} {P : Program} {w : World} {base : Nat} {spare : Nat → Bool} {held : Bool}
theorem open_string {r : Reach} {b0 : Nat} {t : TypeId} {v : Value} {d : DataW H} {ps : List MemPlace} (ht : P.underlying t = some .string) (hval : Value.okWide P w r b0 t v) (hd : DataW.Trod enc P w base spare held t v d ps) :
    ∃ s, v = .string s ∧ s.size ≤ maxLen := by
  obtain ⟨s, rfl⟩ := okWide_string ht hval
  obtain ⟨fuel, hf⟩ := hd
  obtain ⟨s', h, _, hw⟩ := DataW.trod_string ht hf
  simp [Value.cells] at h
  subst h
  exact ⟨s, rfl, hw⟩
theorem elem_str {e : TypeId} (he : P.underlying e = some .string) : ∀ n cs x, cs.length = 1 → DataW.trod enc P w base spare held n e cs = some x → ∃ el : ByteArray, cs = strC el ∧ el.size ≤ maxLen := by
  intro n cs x _ h
  obtain ⟨s, h1, _, h3⟩ := DataW.trod_string he h
  exact ⟨s, h1, h3⟩
theorem open_strs {t e : TypeId} (ht : P.underlying t = some (.slice e)) (he : P.underlying e = some .string) (hC : P.cellsOf e = 1) (hB : P.bytesOf e = 16)
    {r : Reach} {b0 : Nat} {v : Value} {d : DataW H} {p : List MemPlace} (hval : Value.okWide P w r b0 t v) (h : DataW.Trod enc P w base spare held t v d p) (hsz : ∀ n ∈ d.weights P t, n ≤ reachBytes) :
    ∃ (A : Option Addr) (c : Nat) (l : List ByteArray), v = .slice A l.length c ∧ (∀ s ∈ l, s.size ≤ maxLen) ∧ l.length ≤ c ∧ c ≤ maxLen ∧ (A = none → c = 0) ∧ Has w w.heap.size A (strCs l) ∧ l.length * 16 ≤ 140737488351232 :=
  open_list strC (fun s => s.size ≤ maxLen) ht hC hB (by omega) (fun _ => rfl) (elem_str he) hval h hsz
theorem array4 {α : Type} {cs : Array α} (h : cs.size = 4) : ∃ a b c d, cs = #[a, b, c, d] := by
  obtain ⟨l⟩ := cs
  match l, h with
  | [a, b, c, d], _ => exact ⟨a, b, c, d, rfl⟩
/-- api.Sketch, by value -/
theorem open_sketch {t ei : TypeId} {f0 f1 f2 f3 : Field} (hs : P.underlying t = some (.struct #[f0, f1, f2, f3])) (h0 : P.underlying f0.type = some (.int .i64)) (h1 : P.underlying f1.type = some (.int .i64)) (h2 : P.underlying f2.type = some (.slice ei)) (hi : P.underlying ei = some (.int .i64)) (h3 : P.underlying f3.type = some (.int .i64))
    (hone : oneCellFields P #[f0, f1, f2, f3] = true) (hC4 : P.cellsOf t = 4) (hCi : P.cellsOf ei = 1)
    {r : Reach} {b0 : Nat} {v : Value} {d : DataW H} {p : List MemPlace} (hval : Value.okWide P w r b0 t v) (h : DataW.Trod enc P w base spare held t v d p) :
    ∃ (D W : Int) (A : Option Addr) (c : Nat) (C : List Int) (N : Int),
      v = .agg #[.int .i64 D, .int .i64 W, .slice A C.length c, .int .i64 N] ∧ IntAt w (.slice A C.length c) C := by
  obtain ⟨cs, rfl, hsz4⟩ := okWide_struct hs hval
  obtain ⟨v0, v1, v2, v3, rfl⟩ := array4 (hsz4.trans hC4)
  obtain ⟨fuel, hf⟩ := h
  obtain ⟨xs, m, _, _, _, hxl, hff⟩ := DataW.trod_struct hs hf
  obtain ⟨o0, k0⟩ := hone_of hone 0 f0 rfl
  obtain ⟨o1, k1⟩ := hone_of hone 1 f1 rfl
  obtain ⟨o2, k2⟩ := hone_of hone 2 f2 rfl
  obtain ⟨o3, k3⟩ := hone_of hone 3 f3 rfl
  match xs, hxl with
  | [y0, y1, y2, y3], _ =>
    have t0 := hff 0 f0 rfl
    have t1 := hff 1 f1 rfl
    have t2 := hff 2 f2 rfl
    have t3 := hff 3 f3 rfl
    rw [o0, k0] at t0
    rw [o1, k1] at t1
    rw [o2, k2] at t2
    rw [o3, k3] at t3
    have t0 : DataW.trod enc P w base spare held m f0.type [v0] = some y0 := t0
    have t1 : DataW.trod enc P w base spare held m f1.type [v1] = some y1 := t1
    have t2 : DataW.trod enc P w base spare held m f2.type [v2] = some y2 := t2
    have t3 : DataW.trod enc P w base spare held m f3.type [v3] = some y3 := t3
    obtain ⟨D, e0, _, _⟩ := DataW.trod_int h0 t0
    obtain ⟨W, e1, _, _⟩ := DataW.trod_int h1 t1
    obtain ⟨N, e3, _, _⟩ := DataW.trod_int h3 t3
    obtain ⟨A, c, C, e2, q2, q3, q4, q5, q6, _⟩ := open_cells (fun n : Int => [Value.int .i64 n]) _ h2 hCi (by omega) (fun _ => rfl) (elem_i64 hi) t2
    rw [flat_i64] at q6
    injection e0 with e0
    injection e1 with e1
    injection e2 with e2
    injection e3 with e3
    subst e0 e1 e2 e3
    exact ⟨D, W, A, c, C, N, rfl, A, c, rfl, q3, q4, q5, q6, q2⟩
end
end Go.Proofs.YtmfndpkhcejffaaGreatDoor
