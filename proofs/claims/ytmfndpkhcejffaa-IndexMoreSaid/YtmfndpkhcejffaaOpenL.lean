/- Labels and matches that come in, opened. Conditions: none beyond each theorem's own hypotheses. -/
import Derived.Test.YtmfndpkhcejffaaLbChk
namespace Go.Proofs.Ytmfndpkhcejffaa
open Go.RowKit Go.ChangeShapes Go.WideShapes Go.Deep

/-- a row of labels, by value -/
structure LbsE where
  A : Option Addr
  c : Nat
  l : List Lab
instance : Inhabited LbsE := ⟨⟨none, 0, []⟩⟩
def LbsE.ok (w : World) (x : LbsE) : Prop := (∀ e ∈ x.l, LabOk e) ∧ x.l.length ≤ x.c ∧ x.c ≤ maxLen ∧ (x.A = none → x.c = 0) ∧ Has w w.heap.size x.A (labCs x.l)
theorem LbsE.ok.next {w w' : World} {x : LbsE} (h : x.ok w) (hb : Below w.heap.size w w') : x.ok w' := ⟨h.1, h.2.1, h.2.2.1, h.2.2.2.1, h.2.2.2.2.next hb⟩
def lbsC (x : LbsE) : List Value := [.slice x.A x.l.length x.c]
def lbsCs (l : List LbsE) : List Value := l.flatMap lbsC
theorem lbsCs_at {l : List LbsE} {k : Nat} (h : k < l.length) : (lbsCs l)[k]? = some (.slice (at_ l k).A (at_ l k).l.length (at_ l k).c) := by
  have := flat_at (f := lbsC) (C := 1) (fun _ => rfl) h (r := 0) (by decide)
  rw [Nat.mul_one, Nat.add_zero] at this
  exact this
section
variable {H : Type} {enc : TypeId × Value → H} {P : Program} {w : World} {base : Nat} {spare : Nat → Bool} {held : Bool}
theorem open_stringL {r : Reach} {b0 : Nat} {t : TypeId} {v : Value} {d : DataW H} {ps : List MemPlace} (ht : P.underlying t = some .string) (hval : Value.okWide P w r b0 t v) (hd : DataW.Trod enc P w base spare held t v d ps) :
    ∃ s, v = .string s ∧ s.size ≤ maxLen := by
  obtain ⟨s, rfl⟩ := okWide_string ht hval
  obtain ⟨fuel, hf⟩ := hd
  obtain ⟨s', h, _, hw⟩ := DataW.trod_string ht hf
  simp [Value.cells] at h
  subst h
  exact ⟨s, rfl, hw⟩
theorem elem_lab {t : TypeId} {f0 f1 : Field} (hs : P.underlying t = some (.struct #[f0, f1])) (h0 : P.underlying f0.type = some .string) (h1 : P.underlying f1.type = some .string) (hone : oneCellFields P #[f0, f1] = true) :
    ∀ n cs x, cs.length = 2 → DataW.trod enc P w base spare held n t cs = some x → ∃ el : Lab, cs = labC el ∧ LabOk el := by
  intro n cs x hl h
  obtain ⟨xs, m, _, _, _, hxl, hff⟩ := DataW.trod_struct hs h
  obtain ⟨o0, k0⟩ := hone_of hone 0 f0 rfl
  obtain ⟨o1, k1⟩ := hone_of hone 1 f1 rfl
  match cs, hl with
  | [v0, v1], _ =>
    match xs, hxl with
    | [y0, y1], _ =>
      have t0 := hff 0 f0 rfl
      have t1 := hff 1 f1 rfl
      rw [o0, k0] at t0
      rw [o1, k1] at t1
      have t0 : DataW.trod enc P w base spare held m f0.type [v0] = some y0 := t0
      have t1 : DataW.trod enc P w base spare held m f1.type [v1] = some y1 := t1
      obtain ⟨a0, e0, _, w0⟩ := DataW.trod_string h0 t0
      obtain ⟨a1, e1, _, w1⟩ := DataW.trod_string h1 t1
      injection e0 with e0
      injection e1 with e1
      subst e0 e1
      exact ⟨⟨a0, a1⟩, rfl, w0, w1⟩
theorem elem_mt {t : TypeId} {f0 f1 f2 : Field} (hs : P.underlying t = some (.struct #[f0, f1, f2])) (h0 : P.underlying f0.type = some (.int .i64)) (h1 : P.underlying f1.type = some .string) (h2 : P.underlying f2.type = some .string) (hone : oneCellFields P #[f0, f1, f2] = true) :
    ∀ n cs x, cs.length = 3 → DataW.trod enc P w base spare held n t cs = some x → ∃ el : Mt, cs = mtC el ∧ MtOk el := by
  intro n cs x hl h
  obtain ⟨xs, m, _, _, _, hxl, hff⟩ := DataW.trod_struct hs h
  obtain ⟨o0, k0⟩ := hone_of hone 0 f0 rfl
  obtain ⟨o1, k1⟩ := hone_of hone 1 f1 rfl
  obtain ⟨o2, k2⟩ := hone_of hone 2 f2 rfl
  match cs, hl with
  | [v0, v1, v2], _ =>
    match xs, hxl with
    | [y0, y1, y2], _ =>
      have t0 := hff 0 f0 rfl
      have t1 := hff 1 f1 rfl
      have t2 := hff 2 f2 rfl
      rw [o0, k0] at t0
      rw [o1, k1] at t1
      rw [o2, k2] at t2
      have t0 : DataW.trod enc P w base spare held m f0.type [v0] = some y0 := t0
      have t1 : DataW.trod enc P w base spare held m f1.type [v1] = some y1 := t1
      have t2 : DataW.trod enc P w base spare held m f2.type [v2] = some y2 := t2
      obtain ⟨a0, e0, _, w0⟩ := DataW.trod_int h0 t0
      obtain ⟨a1, e1, _, w1⟩ := DataW.trod_string h1 t1
      obtain ⟨a2, e2, _, w2⟩ := DataW.trod_string h2 t2
      injection e0 with e0
      injection e1 with e1
      injection e2 with e2
      subst e0 e1 e2
      have hb := bounds_i64 w0
      exact ⟨⟨a0, a1, a2⟩, rfl, (show in64 a0 from ⟨by omega, by omega⟩), w1, w2⟩
/-- []api.Label -/
theorem open_labs {lt t : TypeId} {f0 f1 : Field} (ht : P.underlying lt = some (.slice t)) (hs : P.underlying t = some (.struct #[f0, f1])) (h0 : P.underlying f0.type = some .string) (h1 : P.underlying f1.type = some .string) (hone : oneCellFields P #[f0, f1] = true) (hC : P.cellsOf t = 2) (hB : P.bytesOf t = 32)
    {r : Reach} {b0 : Nat} {v : Value} {d : DataW H} {p : List MemPlace} (hval : Value.okWide P w r b0 lt v) (h : DataW.Trod enc P w base spare held lt v d p) (hsz : ∀ n ∈ d.weights P lt, n ≤ reachBytes) :
    ∃ (A : Option Addr) (c : Nat) (l : List Lab), v = .slice A l.length c ∧ (∀ e ∈ l, LabOk e) ∧ l.length ≤ c ∧ c ≤ maxLen ∧ (A = none → c = 0) ∧ Has w w.heap.size A (labCs l) ∧ l.length * 32 ≤ 140737488351232 :=
  open_list labC LabOk ht hC hB (by omega) (fun _ => rfl) (elem_lab hs h0 h1 hone) hval h hsz
/-- []api.Match -/
theorem open_mts {lt t : TypeId} {f0 f1 f2 : Field} (ht : P.underlying lt = some (.slice t)) (hs : P.underlying t = some (.struct #[f0, f1, f2])) (h0 : P.underlying f0.type = some (.int .i64)) (h1 : P.underlying f1.type = some .string) (h2 : P.underlying f2.type = some .string) (hone : oneCellFields P #[f0, f1, f2] = true) (hC : P.cellsOf t = 3) (hB : P.bytesOf t = 40)
    {r : Reach} {b0 : Nat} {v : Value} {d : DataW H} {p : List MemPlace} (hval : Value.okWide P w r b0 lt v) (h : DataW.Trod enc P w base spare held lt v d p) (hsz : ∀ n ∈ d.weights P lt, n ≤ reachBytes) :
    ∃ (A : Option Addr) (c : Nat) (l : List Mt), v = .slice A l.length c ∧ (∀ e ∈ l, MtOk e) ∧ l.length ≤ c ∧ c ≤ maxLen ∧ (A = none → c = 0) ∧ Has w w.heap.size A (mtCs l) ∧ l.length * 40 ≤ 140737488351232 :=
  open_list mtC MtOk ht hC hB (by omega) (fun _ => rfl) (elem_mt hs h0 h1 h2 hone) hval h hsz
/-- api.Match, by value -/
theorem open_mt {t : TypeId} {f0 f1 f2 : Field} (hs : P.underlying t = some (.struct #[f0, f1, f2])) (h0 : P.underlying f0.type = some (.int .i64)) (h1 : P.underlying f1.type = some .string) (h2 : P.underlying f2.type = some .string) (hone : oneCellFields P #[f0, f1, f2] = true) (hC : P.cellsOf t = 3)
    {r : Reach} {b0 : Nat} {v : Value} {d : DataW H} {p : List MemPlace} (hval : Value.okWide P w r b0 t v) (h : DataW.Trod enc P w base spare held t v d p) :
    ∃ x : Mt, v = .agg #[.int .i64 x.k, .string x.nm, .string x.v] ∧ MtOk x := by
  obtain ⟨cs, rfl, hsz⟩ := okWide_struct hs hval
  obtain ⟨fuel, hf⟩ := h
  obtain ⟨l⟩ := cs
  obtain ⟨e, h2, h3⟩ := elem_mt hs h0 h1 h2 hone fuel _ _ (by exact hsz.trans hC) hf
  have h2 : l = mtC e := h2
  subst h2
  exact ⟨e, rfl, h3⟩
/-- [][]api.Label -/
theorem open_labss {lt t e : TypeId} {f0 f1 : Field} (ht : P.underlying lt = some (.slice t)) (ht2 : P.underlying t = some (.slice e)) (hs : P.underlying e = some (.struct #[f0, f1])) (h0 : P.underlying f0.type = some .string) (h1 : P.underlying f1.type = some .string) (hone : oneCellFields P #[f0, f1] = true) (hC : P.cellsOf e = 2) (hCt : P.cellsOf t = 1) (hBt : P.bytesOf t = 24)
    {r : Reach} {b0 : Nat} {v : Value} {d : DataW H} {p : List MemPlace} (hval : Value.okWide P w r b0 lt v) (h : DataW.Trod enc P w base spare held lt v d p) (hsz : ∀ n ∈ d.weights P lt, n ≤ reachBytes) :
    ∃ (A : Option Addr) (c : Nat) (l : List LbsE), v = .slice A l.length c ∧ (∀ e ∈ l, e.ok w) ∧ l.length ≤ c ∧ c ≤ maxLen ∧ (A = none → c = 0) ∧ Has w w.heap.size A (lbsCs l) ∧ l.length * 24 ≤ 140737488351232 :=
  open_list lbsC (fun x => LbsE.ok w x) ht hCt hBt (by omega) (fun _ => rfl) (fun n cs x _ h => by
    obtain ⟨A, c, l, e1, e2, e3, e4, e5, e6, _⟩ := open_cells labC LabOk ht2 hC (by omega) (fun _ => rfl) (elem_lab hs h0 h1 hone) h
    exact ⟨⟨A, c, l⟩, e1, e2, e3, e4, e5, e6⟩) hval h hsz
end
end Go.Proofs.Ytmfndpkhcejffaa
