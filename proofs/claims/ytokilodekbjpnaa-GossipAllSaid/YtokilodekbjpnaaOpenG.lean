/- Rows of rows of claims, and edges, that come in, opened. Conditions: none beyond each theorem's own hypotheses. -/
import Derived.Test.YtokilodekbjpnaaOpenC
import Derived.Test.YtokilodekbjpnaaSpreadLaw
namespace Go.Proofs.Ytokilodekbjpnaa
open Go.RowKit Go.ChangeShapes Go.WideShapes Go.Deep

/-- a row of claims: where it lies, and what it holds -/
structure LsE where
  A : Option Addr
  c : Nat
  L : List ClE
instance : Inhabited LsE := ⟨⟨none, 0, []⟩⟩
def LsE.v (e : LsE) : Value := .slice e.A e.L.length e.c
def lsC (e : LsE) : List Value := [e.v]
def lsCs (l : List LsE) : List Value := l.flatMap lsC
def LsE.x (e : LsE) : List Clm := e.L.map ClE.x
def ClE.small (e : ClE) : Prop := e.t.l.length ≤ 17592186043904
def LsE.good (w : World) (e : LsE) : Prop := (∀ x ∈ e.L, x.good w ∧ x.small) ∧ e.L.length ≤ e.c ∧ e.c ≤ maxLen ∧ (e.A = none → e.c = 0) ∧ Has w w.heap.size e.A (clCs e.L) ∧ e.L.length * 56 ≤ 140737488351232
def edC (e : Edg) : List Value := [.int .i64 e.f, .int .i64 e.t]
def edCs (l : List Edg) : List Value := l.flatMap edC
def Edg.ok (e : Edg) : Prop := in64 e.f ∧ in64 e.t

theorem weights_all {H : Type} {P : Program} {e : TypeId} : ∀ {ds : List (DataW H)} {d : DataW H}, d ∈ ds → ∀ n ∈ d.weights P e, n ∈ DataW.weightsAll P e ds
  | [], _, h, _, _ => by cases h
  | x :: ds, d, h, n, hn => by
    rw [DataW.weightsAll, List.mem_append]
    rcases List.mem_cons.1 h with rfl | h
    · exact .inl hn
    · exact .inr (weights_all h n hn)
section
variable {H : Type} {enc : TypeId × Value → H} {P : Program} {w : World} {base : Nat} {spare : Nat → Bool} {held : Bool}
theorem open_cellsZ {t e : TypeId} {E : Type} (f : E → List Value) (ok : E → Prop) {C bytes : Nat} (ht : P.underlying t = some (.slice e)) (hC : P.cellsOf e = C) (hB : P.bytesOf e = bytes) (hpos : 0 < C) (hf : ∀ x, (f x).length = C)
    (hE : ∀ n cs x, cs.length = C → DataW.trod enc P w base spare held n e cs = some x → (∀ k ∈ x.1.weights P e, k ≤ reachBytes) → ∃ el, cs = f el ∧ ok el)
    {fuel : Nat} {cs : List Value} {x : DataW H × List MemPlace} (h : DataW.trod enc P w base spare held fuel t cs = some x) (hsz : ∀ n ∈ x.1.weights P t, n ≤ reachBytes) :
    ∃ (A : Option Addr) (c : Nat) (l : List E), cs = [.slice A l.length c] ∧ (∀ y ∈ l, ok y) ∧ l.length ≤ c ∧ c ≤ maxLen ∧ (A = none → c = 0) ∧ Has w w.heap.size A (l.flatMap f) ∧ l.length * bytes ≤ 140737488351232 := by
  subst hC
  rcases DataW.trod_slice ht h with ⟨hcs, hx⟩ | ⟨a, len, cap, elems, rest, n, _, hcs, hx, hb, hl, hm, hlen, hel, _, _⟩
  · exact ⟨none, 0, [], hcs, by simp, Nat.le_refl _, Nat.zero_le _, fun _ => rfl, Has.nil _ _ _, by simp⟩
  · have hwt : ∀ n ∈ DataW.weightsAll P e (elems.map (·.1)), n ≤ reachBytes := by
      intro k hk
      refine hsz k ?_
      rw [hx]
      simp only [DataW.weights, ht]
      exact List.mem_cons_of_mem _ (List.mem_append_left _ hk)
    have hln : (elems.length + rest.length) * P.bytesOf e ≤ reachBytes := hsz _ (by rw [hx]; simp [DataW.weights, ht])
    have each : ∀ i : Fin len, ∃ el, ok el ∧ ∀ r, r < P.cellsOf e → w.cell? ((a.add (i.val * P.cellsOf e)).add r) = (f el)[r]? := by
      intro ⟨i, hi⟩
      have h1 := hel i hi
      rw [List.getElem?_eq_getElem (by omega)] at h1
      obtain ⟨cs', h2, h3⟩ := Option.bind_eq_some_iff.1 h1
      obtain ⟨_, h4, h5⟩ := World.cells?_some h2
      obtain ⟨el, rfl, hok⟩ := hE n cs' _ h4 h3 (fun k hk => hwt k (weights_all (List.mem_map.2 ⟨_, List.getElem_mem _, rfl⟩) k hk))
      exact ⟨el, hok, h5⟩
    obtain ⟨g, hg⟩ := Classical.axiomOfChoice each
    have hgl : (List.ofFn g).length = len := by simp
    refine ⟨some a, cap, List.ofFn g, by rw [hcs, hgl], ?_, by omega, hm, (fun h => by cases h), ?_, ?_⟩
    · intro y hy
      obtain ⟨i, rfl⟩ := List.mem_ofFn.1 hy
      exact (hg i).1
    · have hcell : ∀ j u, ((List.ofFn g).flatMap f)[j]? = some u → w.cell? (a.add j) = some u := by
        intro j u hu
        have hj : j < ((List.ofFn g).flatMap f).length := (List.getElem?_eq_some_iff.1 hu).1
        rw [flat_len hf, hgl] at hj
        have hq : j / P.cellsOf e < len := Nat.div_lt_of_lt_mul (by rw [Nat.mul_comm]; exact hj)
        have hjj : j / P.cellsOf e * P.cellsOf e + j % P.cellsOf e = j := by rw [Nat.mul_comm]; exact Nat.div_add_mod _ _
        have hr := Nat.mod_lt j hpos
        have h6 := (hg ⟨_, hq⟩).2 _ hr
        rw [← hjj, flat_get hf _ _ _ hr, List.getElem?_ofFn, dif_pos hq] at hu
        rw [add_add_, hjj] at h6
        rw [h6]
        exact hu
      intro hne
      refine ⟨a, rfl, ?_, hcell⟩
      obtain ⟨u, hu⟩ : ∃ u, ((List.ofFn g).flatMap f)[0]? = some u := by
        cases hxx : (List.ofFn g).flatMap f with
        | nil => exact absurd hxx hne
        | cons u r => exact ⟨u, rfl⟩
      have := World.block_lt_of_cell? _ _ (hcell 0 u hu)
      rwa [add_block] at this
    · rw [hgl]
      rw [hB] at hln
      have h8 : len * bytes ≤ (elems.length + rest.length) * bytes := Nat.mul_le_mul_right _ (by omega)
      simp only [reachBytes] at hln
      omega
theorem elem_claimZ {t eu : TypeId} {f0 f1 f2 g0 g1 : Field} (hs : P.underlying t = some (.struct #[f0, f1, f2])) (h0 : P.underlying f0.type = some (.int .i64)) (h1 : P.underlying f1.type = some (.int .i64)) (hn : P.underlying f2.type = some (.struct #[g0, g1]))
    (i0 : P.underlying g0.type = some .string) (i1 : P.underlying g1.type = some (.slice eu)) (hu : P.underlying eu = some (.int .u64))
    (o : (f0.offset, f1.offset, f2.offset, g0.offset, g1.offset) = (0, 1, 2, 0, 1)) (c : (P.cellsOf f0.type, P.cellsOf f1.type, P.cellsOf f2.type, P.cellsOf g0.type, P.cellsOf g1.type, P.cellsOf eu) = (1, 1, 2, 1, 1, 1)) (hB : P.bytesOf eu = 8) :
    ∀ n cs x, cs.length = 4 → DataW.trod enc P w base spare held n t cs = some x → (∀ k ∈ x.1.weights P t, k ≤ reachBytes) → ∃ el : ClE, cs = clC el ∧ el.good w ∧ el.small := by
  intro n cs x hl h hw
  obtain ⟨o0, o1, o2, p0, p1⟩ : f0.offset = 0 ∧ f1.offset = 1 ∧ f2.offset = 2 ∧ g0.offset = 0 ∧ g1.offset = 1 := by simpa using o
  obtain ⟨c0, c1, c2, d0, d1, d2⟩ : P.cellsOf f0.type = 1 ∧ P.cellsOf f1.type = 1 ∧ P.cellsOf f2.type = 2 ∧ P.cellsOf g0.type = 1 ∧ P.cellsOf g1.type = 1 ∧ P.cellsOf eu = 1 := by simpa using c
  obtain ⟨v0, v1, v2, v3, rfl⟩ := list4 hl
  obtain ⟨xs, m, _, hx1, _, hxl, hff⟩ := DataW.trod_struct hs h
  match xs, hxl with
  | [y0, y1, y2], _ =>
    have t0 := hff 0 f0 rfl
    have t1 := hff 1 f1 rfl
    have t2 := hff 2 f2 rfl
    rw [o0, c0] at t0
    rw [o1, c1] at t1
    rw [o2, c2] at t2
    have t0 : DataW.trod enc P w base spare held m f0.type [v0] = some y0 := t0
    have t1 : DataW.trod enc P w base spare held m f1.type [v1] = some y1 := t1
    have t2 : DataW.trod enc P w base spare held m f2.type [v2, v3] = some y2 := t2
    obtain ⟨zs, q, _, hy1, _, hzl, hgg⟩ := DataW.trod_struct hn t2
    match zs, hzl with
    | [z0, z1], _ =>
      have u0 := hgg 0 g0 rfl
      have u1 := hgg 1 g1 rfl
      rw [p0, d0] at u0
      rw [p1, d1] at u1
      have u0 : DataW.trod enc P w base spare held q g0.type [v2] = some z0 := u0
      have u1 : DataW.trod enc P w base spare held q g1.type [v3] = some z1 := u1
      obtain ⟨V, e0, _, w0⟩ := DataW.trod_int h0 t0
      obtain ⟨S, e1, _, w1⟩ := DataW.trod_int h1 t1
      obtain ⟨s, e2, _, w2⟩ := DataW.trod_string i0 u0
      have hz : ∀ k ∈ z1.1.weights P g1.type, k ≤ reachBytes := by
        intro k hk
        refine hw k ?_
        rw [hx1]
        simp only [DataW.weights, hs, DataW.weightsEach, List.map_cons, List.map_nil, List.toList_toArray, hy1, hn, List.append_nil, List.mem_append]
        simp [hk]
      obtain ⟨A, cc, l, e3, w4, w5, w6, w7, w8, w9⟩ := open_cellsZ (fun n : Nat => [Value.int .u64 n]) (fun n : Nat => n < 18446744073709551616) i1 d2 hB (by omega) (fun _ => rfl) (fun n cs x hl h _ => elem_u64 hu n cs x hl h) u1 hz
      injection e0 with e0
      injection e1 with e1
      injection e2 with e2
      injection e3 with e3
      subst e0 e1 e2 e3
      exact ⟨⟨V, S, s, ⟨A, cc, l⟩⟩, rfl, ⟨⟨w5, w6, w7, by rw [← flat_u64]; exact w8⟩, bounds_i64 w0, bounds_i64 w1, w4, w2⟩, by show l.length ≤ _; omega⟩
/-- [][]api.Claim -/
theorem open_claimss {lt t et eu : TypeId} {f0 f1 f2 g0 g1 : Field} (ht : P.underlying lt = some (.slice t)) (ht2 : P.underlying t = some (.slice et)) (hs : P.underlying et = some (.struct #[f0, f1, f2])) (h0 : P.underlying f0.type = some (.int .i64)) (h1 : P.underlying f1.type = some (.int .i64)) (hn : P.underlying f2.type = some (.struct #[g0, g1]))
    (i0 : P.underlying g0.type = some .string) (i1 : P.underlying g1.type = some (.slice eu)) (hu : P.underlying eu = some (.int .u64))
    (o : (f0.offset, f1.offset, f2.offset, g0.offset, g1.offset) = (0, 1, 2, 0, 1)) (c : (P.cellsOf f0.type, P.cellsOf f1.type, P.cellsOf f2.type, P.cellsOf g0.type, P.cellsOf g1.type, P.cellsOf eu) = (1, 1, 2, 1, 1, 1)) (hC : P.cellsOf et = 4) (hB : P.bytesOf et = 56) (hBu : P.bytesOf eu = 8) (hCt : P.cellsOf t = 1) (hBt : P.bytesOf t = 24)
    {r : Reach} {b0 : Nat} {v : Value} {d : DataW H} {p : List MemPlace} (hval : Value.okWide P w r b0 lt v) (h : DataW.Trod enc P w base spare held lt v d p) (hsz : ∀ n ∈ d.weights P lt, n ≤ reachBytes) :
    ∃ (A : Option Addr) (k : Nat) (l : List LsE), v = .slice A l.length k ∧ (∀ e ∈ l, e.good w) ∧ l.length ≤ k ∧ k ≤ maxLen ∧ (A = none → k = 0) ∧ Has w w.heap.size A (lsCs l) ∧ l.length * 24 ≤ 140737488351232 := by
  obtain ⟨a, len, cap, rfl⟩ := okWide_slice ht hval
  obtain ⟨fuel, hf'⟩ := h
  obtain ⟨A, c', l, h1', h2⟩ := open_cellsZ lsC (LsE.good w) ht hCt hBt (by omega) (fun _ => rfl) (fun n cs x hl h hw => by
    obtain ⟨A, cc, l, e1, e2, e3, e4, e5, e6, e7⟩ := open_cellsZ clC (fun e => e.good w ∧ e.small) ht2 hC hB (by omega) (fun _ => rfl) (elem_claimZ hs h0 h1 hn i0 i1 hu o c hBu) h hw
    exact ⟨⟨A, cc, l⟩, e1, e2, e3, e4, e5, e6, e7⟩) hf' hsz
  simp [Value.cells] at h1'
  obtain ⟨rfl, rfl, rfl⟩ := h1'
  exact ⟨_, _, l, rfl, h2⟩
theorem elem_edge {e : TypeId} {f0 f1 : Field} (hs : P.underlying e = some (.struct #[f0, f1])) (h0 : P.underlying f0.type = some (.int .i64)) (h1 : P.underlying f1.type = some (.int .i64)) (hone : oneCellFields P #[f0, f1] = true) :
    ∀ n cs x, cs.length = 2 → DataW.trod enc P w base spare held n e cs = some x → ∃ el : Edg, cs = edC el ∧ el.ok := by
  intro n cs x hl h
  obtain ⟨s, e1, e2⟩ := elem_smp hs h0 h1 hone n cs x hl h
  exact ⟨⟨s.t, s.v⟩, e1, e2⟩
/-- []api.Edge -/
theorem open_edges {t e : TypeId} {f0 f1 : Field} (ht : P.underlying t = some (.slice e)) (hs : P.underlying e = some (.struct #[f0, f1])) (h0 : P.underlying f0.type = some (.int .i64)) (h1 : P.underlying f1.type = some (.int .i64))
    (hone : oneCellFields P #[f0, f1] = true) (hC : P.cellsOf e = 2) (hB : P.bytesOf e = 16)
    {r : Reach} {b0 : Nat} {v : Value} {d : DataW H} {p : List MemPlace} (hval : Value.okWide P w r b0 t v) (h : DataW.Trod enc P w base spare held t v d p) (hsz : ∀ n ∈ d.weights P t, n ≤ reachBytes) :
    ∃ (A : Option Addr) (c : Nat) (l : List Edg), v = .slice A l.length c ∧ (∀ e ∈ l, e.ok) ∧ l.length ≤ c ∧ c ≤ maxLen ∧ (A = none → c = 0) ∧ Has w w.heap.size A (edCs l) ∧ l.length * 16 ≤ 140737488351232 :=
  open_list edC Edg.ok ht hC hB (by omega) (fun _ => rfl) (elem_edge hs h0 h1 hone) hval h hsz
end
end Go.Proofs.Ytokilodekbjpnaa
