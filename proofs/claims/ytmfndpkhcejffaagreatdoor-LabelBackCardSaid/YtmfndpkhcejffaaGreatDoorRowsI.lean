/- Rows of rows of int64, and ranks that come in. Conditions: none beyond each theorem's own hypotheses. -/
import Derived.Test.YtmfndpkhcejffaaGreatDoorOpen
import Derived.Test.YtmfndpkhcejffaaGreatDoorI64s
namespace Go.Proofs.YtmfndpkhcejffaaGreatDoor
open Go.RowKit Go.ChangeShapes Go.WideShapes Go.Deep

def I64in (l : List Int) : Prop := ∀ x ∈ l, -9223372036854775808 ≤ x ∧ x ≤ 9223372036854775807
/-- a row of int64 in its cells -/
def IntAt (w : World) (v : Value) (r : List Int) : Prop := ∃ A c, v = .slice A r.length c ∧ r.length ≤ c ∧ c ≤ maxLen ∧ (A = none → c = 0) ∧ Has w w.heap.size A (i64s r) ∧ I64in r
inductive IntsAt (w : World) : List Value → List (List Int) → Prop
  | nil : IntsAt w [] []
  | cons {v : Value} {r : List Int} {vs : List Value} {rs : List (List Int)} : IntAt w v r → IntsAt w vs rs → IntsAt w (v :: vs) (r :: rs)
theorem IntAt.next {w w' : World} {v : Value} {r : List Int} (h : IntAt w v r) (hb : Below w.heap.size w w') : IntAt w' v r := by
  obtain ⟨A, c, e, h1, h2, h3, h4, h5⟩ := h
  exact ⟨A, c, e, h1, h2, h3, h4.next hb, h5⟩
theorem IntsAt.next {w w' : World} {vs : List Value} {rs : List (List Int)} (h : IntsAt w vs rs) (hb : Below w.heap.size w w') : IntsAt w' vs rs := by
  induction h with
  | nil => exact .nil
  | cons h1 _ ih => exact .cons (h1.next hb) ih
theorem IntsAt.get {w : World} {vs : List Value} {rs : List (List Int)} (h : IntsAt w vs rs) : ∀ {k : Nat}, k < rs.length → ∃ v, vs[k]? = some v ∧ IntAt w v (at_ rs k) := by
  induction h with
  | nil => intro k hk; simp at hk
  | @cons v r vs rs h1 _ ih =>
    intro k hk
    cases k with
    | zero => exact ⟨v, rfl, h1⟩
    | succ k =>
      obtain ⟨u, e, h2⟩ := ih (k := k) (by simpa using hk)
      exact ⟨u, by simpa using e, by rw [at_eq (by simpa using hk)] at h2; rw [at_eq hk]; exact h2⟩

abbrev IntE := Option Addr × Nat × List Int
def intV (x : IntE) : Value := .slice x.1 x.2.2.length x.2.1
def intOk (w : World) (x : IntE) : Prop := x.2.2.length ≤ x.2.1 ∧ x.2.1 ≤ maxLen ∧ (x.1 = none → x.2.1 = 0) ∧ Has w w.heap.size x.1 (i64s x.2.2) ∧ I64in x.2.2
theorem ints_of {w : World} : ∀ {L : List IntE}, (∀ y ∈ L, intOk w y) → IntsAt w (L.map intV) (L.map (·.2.2))
  | [], _ => .nil
  | x :: L, h => by
    obtain ⟨h2, h3, h4, h5, h6⟩ := h x (by simp)
    exact .cons ⟨x.1, x.2.1, rfl, h2, h3, h4, h5, h6⟩ (ints_of (L := L) (fun y hy => h y (by simp [hy])))
theorem flat_ints (L : List IntE) : L.flatMap (fun x => [intV x]) = L.map intV := by
  induction L with
  | nil => rfl
  | cons x L ih => rw [List.flatMap_cons, ih]; rfl
theorem flat_i64 (l : List Int) : l.flatMap (fun n : Int => [Value.int .i64 n]) = i64s l := by
  induction l with
  | nil => rfl
  | cons b l ih => rw [List.flatMap_cons, ih]; rfl
theorem array5 {α : Type} {cs : Array α} (h : cs.size = 5) : ∃ a b c d e, cs = #[a, b, c, d, e] := by
  obtain ⟨l⟩ := cs
  match l, h with
  | [a, b, c, d, e], _ => exact ⟨a, b, c, d, e, rfl⟩
section
variable {H : Type} {enc : TypeId × Value → H} {P : Program} {w : World} {base : Nat} {spare : Nat → Bool} {held : Bool}
theorem elem_i64 {e : TypeId} (he : P.underlying e = some (.int .i64)) : ∀ n cs x, cs.length = 1 → DataW.trod enc P w base spare held n e cs = some x → ∃ el : Int, cs = [Value.int .i64 el] ∧ (-9223372036854775808 ≤ el ∧ el ≤ 9223372036854775807) := by
  intro n cs x _ h
  obtain ⟨m, rfl, _, hw⟩ := DataW.trod_int he h
  exact ⟨m, rfl, bounds_i64 hw⟩
theorem elem_ints {t e : TypeId} (ht : P.underlying t = some (.slice e)) (he : P.underlying e = some (.int .i64)) (hC : P.cellsOf e = 1) :
    ∀ n cs x, cs.length = 1 → DataW.trod enc P w base spare held n t cs = some x → ∃ el : IntE, cs = [intV el] ∧ intOk w el := by
  intro n cs x _ h
  obtain ⟨A, c, l, h1, h2, h3, h4, h5, h6, _⟩ := open_cells (fun n : Int => [Value.int .i64 n]) _ ht hC (by omega) (fun _ => rfl) (elem_i64 he) h
  exact ⟨(A, c, l), h1, h3, h4, h5, by rw [← flat_i64]; exact h6, h2⟩
/-- api.Rank, by value -/
theorem open_rank {t ei er : TypeId} {f0 f1 f2 f3 f4 : Field} (hs : P.underlying t = some (.struct #[f0, f1, f2, f3, f4])) (h0 : P.underlying f0.type = some (.int .i64)) (h1 : P.underlying f1.type = some (.slice ei)) (hi : P.underlying ei = some (.int .i64))
    (h2 : P.underlying f2.type = some (.slice er)) (hr : P.underlying er = some (.slice ei)) (h3 : P.underlying f3.type = some (.int .i64)) (h4 : P.underlying f4.type = some (.int .i64))
    (hone : oneCellFields P #[f0, f1, f2, f3, f4] = true) (hC5 : P.cellsOf t = 5) (hCi : P.cellsOf ei = 1) (hBi : P.bytesOf ei = 8) (hCr : P.cellsOf er = 1) (hBr : P.bytesOf er = 24)
    {r : Reach} {b0 : Nat} {v : Value} {d : DataW H} {p : List MemPlace} (hval : Value.okWide P w r b0 t v) (h : DataW.Trod enc P w base spare held t v d p) (hsz : ∀ n ∈ d.weights P t, n ≤ reachBytes) :
    ∃ (K : Int) (A : Option Addr) (c : Nat) (T : List Int) (B : Option Addr) (e : Nat) (L : List (List Int)) (vs : List Value) (N S : Int),
      v = .agg #[.int .i64 K, .slice A T.length c, .slice B L.length e, .int .i64 N, .int .i64 S] ∧ in64 K ∧ IntAt w (.slice A T.length c) T ∧ L.length ≤ e ∧ e ≤ maxLen ∧ Has w w.heap.size B vs ∧ IntsAt w vs L ∧ L.length ≤ 5864062014634 ∧ in64 N ∧ in64 S := by
  obtain ⟨cs, rfl, hsz5⟩ := okWide_struct hs hval
  obtain ⟨v0, v1, v2, v3, v4, rfl⟩ := array5 (hsz5.trans hC5)
  obtain ⟨fuel, hf⟩ := h
  obtain ⟨xs, m, _, hx, _, hxl, hff⟩ := DataW.trod_struct hs hf
  obtain ⟨o0, k0⟩ := hone_of hone 0 f0 rfl
  obtain ⟨o1, k1⟩ := hone_of hone 1 f1 rfl
  obtain ⟨o2, k2⟩ := hone_of hone 2 f2 rfl
  obtain ⟨o3, k3⟩ := hone_of hone 3 f3 rfl
  obtain ⟨o4, k4⟩ := hone_of hone 4 f4 rfl
  match xs, hxl with
  | [y0, y1, y2, y3, y4], _ =>
    have t0 := hff 0 f0 rfl
    have t1 := hff 1 f1 rfl
    have t2 := hff 2 f2 rfl
    have t3 := hff 3 f3 rfl
    have t4 := hff 4 f4 rfl
    rw [o0, k0] at t0
    rw [o1, k1] at t1
    rw [o2, k2] at t2
    rw [o3, k3] at t3
    rw [o4, k4] at t4
    have t0 : DataW.trod enc P w base spare held m f0.type [v0] = some y0 := t0
    have t1 : DataW.trod enc P w base spare held m f1.type [v1] = some y1 := t1
    have t2 : DataW.trod enc P w base spare held m f2.type [v2] = some y2 := t2
    have t3 : DataW.trod enc P w base spare held m f3.type [v3] = some y3 := t3
    have t4 : DataW.trod enc P w base spare held m f4.type [v4] = some y4 := t4
    injection hx with hd hp
    subst hd hp
    obtain ⟨K, e0, _, w0⟩ := DataW.trod_int h0 t0
    obtain ⟨N, e3, _, w3⟩ := DataW.trod_int h3 t3
    obtain ⟨S, e4, _, w4⟩ := DataW.trod_int h4 t4
    obtain ⟨A, c, T, e1, q2, q3, q4, q5, q6, q7⟩ := open_cellsW (fun n : Int => [Value.int .i64 n]) _ h1 hCi hBi (by omega) (fun _ => rfl) (elem_i64 hi) t1 (fun n hn => hsz n (by simp [DataW.weights, hs, DataW.weightsEach, hn]))
    obtain ⟨B, e, L, e2, r2, r3, r4, r5, r6, r7⟩ := open_cellsW (fun x => [intV x]) (intOk w) h2 hCr hBr (by omega) (fun _ => rfl) (elem_ints hr hi hCi) t2 (fun n hn => hsz n (by simp [DataW.weights, hs, DataW.weightsEach, hn]))
    have i1 := ints_of r2
    rw [flat_ints] at r6
    rw [flat_i64] at q6
    injection e0 with e0
    injection e1 with e1
    injection e2 with e2
    injection e3 with e3
    injection e4 with e4
    subst e0 e1 e2 e3 e4
    exact ⟨K, A, c, T, B, e, L.map (·.2.2), L.map intV, N, S, by rw [List.length_map], bounds_i64 w0, ⟨A, c, rfl, q3, q4, q5, q6, q2⟩, by rw [List.length_map]; exact r3, r4, r6, i1, by rw [List.length_map]; omega, bounds_i64 w3, bounds_i64 w4⟩
end
end Go.Proofs.YtmfndpkhcejffaaGreatDoor
