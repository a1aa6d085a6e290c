/- What comes in, opened: a slice argument reads as a list of plain values, whatever its elements. Conditions: none beyond each theorem's own hypotheses. -/
import Derived.Test.YtmfndpkhcejffaaKit
import Derived.Lib.SmallJoins
namespace Go.Proofs.Ytmfndpkhcejffaa
open Go.RowKit Go.ChangeShapes Go.WideShapes Go.Deep

structure Smp where
  t : Int
  v : Int
instance : Inhabited Smp := ⟨⟨0, 0⟩⟩
instance : DecidableEq Smp := fun a b => if h : a.t = b.t ∧ a.v = b.v then isTrue (by cases a; cases b; simp at h; simp [h]) else isFalse (fun e => h (by rw [e]; exact ⟨rfl, rfl⟩))
def in64 (n : Int) : Prop := -9223372036854775808 ≤ n ∧ n ≤ 9223372036854775807
def Smp.ok (s : Smp) : Prop := in64 s.t ∧ in64 s.v
def smpC (s : Smp) : List Value := [.int .i64 s.t, .int .i64 s.v]
def smpCs (l : List Smp) : List Value := l.flatMap smpC
def Smps (l : List Smp) : Prop := ∀ s ∈ l, s.ok
theorem Smps.at {l : List Smp} (h : Smps l) (k : Nat) : (at_ l k).ok := by
  rcases Nat.lt_or_ge k l.length with h1 | h1
  · exact h _ (at_mem h1)
  · simp only [at_, List.getD, List.getElem?_eq_none h1, Option.getD_none]
    exact ⟨⟨by decide, by decide⟩, ⟨by decide, by decide⟩⟩

theorem flat_get {E : Type} {f : E → List Value} {C : Nat} (hf : ∀ x, (f x).length = C) : ∀ (l : List E) (i r : Nat), r < C → (l.flatMap f)[i * C + r]? = (l[i]?).bind fun x => (f x)[r]?
  | [], i, r, _ => by simp
  | x :: l, 0, r, hr => by
    rw [List.flatMap_cons, Nat.zero_mul, Nat.zero_add, List.getElem?_append_left (by rw [hf]; exact hr)]
    rfl
  | x :: l, i + 1, r, hr => by
    rw [List.flatMap_cons, List.getElem?_append_right (by rw [hf, Nat.succ_mul]; omega), hf, show (i + 1) * C + r - C = i * C + r from by rw [Nat.succ_mul]; omega, flat_get hf l i r hr]
    rfl
theorem flat_len {E : Type} {f : E → List Value} {C : Nat} (hf : ∀ x, (f x).length = C) (l : List E) : (l.flatMap f).length = l.length * C := by
  induction l with
  | nil => simp
  | cons x l ih => rw [List.flatMap_cons, List.length_append, hf, ih, List.length_cons, Nat.succ_mul, Nat.add_comm]
theorem flat_at {E : Type} [Inhabited E] {f : E → List Value} {C : Nat} (hf : ∀ x, (f x).length = C) {l : List E} {k : Nat} (hk : k < l.length) {r : Nat} (hr : r < C) : (l.flatMap f)[k * C + r]? = (f (at_ l k))[r]? := by
  rw [flat_get hf l k r hr, get?_at hk]
  rfl

section
variable {H : Type} {enc : TypeId × Value → H} {P : Program} {w : World} {base : Nat} {spare : Nat → Bool} {held : Bool}
theorem open_cells {t e : TypeId} {E : Type} (f : E → List Value) (ok : E → Prop) {C : Nat} (ht : P.underlying t = some (.slice e)) (hC : P.cellsOf e = C) (hpos : 0 < C) (hf : ∀ x, (f x).length = C)
    (hE : ∀ n cs x, cs.length = C → DataW.trod enc P w base spare held n e cs = some x → ∃ el, cs = f el ∧ ok el)
    {fuel : Nat} {cs : List Value} {x : DataW H × List MemPlace} (h : DataW.trod enc P w base spare held fuel t cs = some x) :
    ∃ (A : Option Addr) (c : Nat) (l : List E), cs = [.slice A l.length c] ∧ (∀ y ∈ l, ok y) ∧ l.length ≤ c ∧ c ≤ maxLen ∧ (A = none → c = 0) ∧ Has w w.heap.size A (l.flatMap f) ∧
      (x.1 = .nil ∧ l = [] ∨ ∃ elems rest, x.1 = .slice elems rest ∧ elems.length = l.length) := by
  subst hC
  rcases DataW.trod_slice ht h with ⟨hcs, hx⟩ | ⟨a, len, cap, elems, rest, n, _, hcs, hx, hb, hl, hm, hlen, hel, _, _⟩
  · exact ⟨none, 0, [], hcs, by simp, Nat.le_refl _, Nat.zero_le _, fun _ => rfl, Has.nil _ _ _, .inl ⟨by rw [hx], rfl⟩⟩
  · have each : ∀ i : Fin len, ∃ el, ok el ∧ ∀ r, r < P.cellsOf e → w.cell? ((a.add (i.val * P.cellsOf e)).add r) = (f el)[r]? := by
      intro ⟨i, hi⟩
      have h1 := hel i hi
      rw [List.getElem?_eq_getElem (by omega)] at h1
      obtain ⟨cs', h2, h3⟩ := Option.bind_eq_some_iff.1 h1
      obtain ⟨_, h4, h5⟩ := World.cells?_some h2
      obtain ⟨el, rfl, hok⟩ := hE n cs' _ h4 h3
      exact ⟨el, hok, h5⟩
    obtain ⟨g, hg⟩ := Classical.axiomOfChoice each
    have hgl : (List.ofFn g).length = len := by simp
    refine ⟨some a, cap, List.ofFn g, by rw [hcs, hgl], ?_, by omega, hm, (fun h => by cases h), ?_, .inr ⟨_, _, by rw [hx], by simp [hgl, hlen]⟩⟩
    · intro y hy
      obtain ⟨i, rfl⟩ := List.mem_ofFn.1 hy
      exact (hg i).1
    · have hcell : ∀ j u, ((List.ofFn g).flatMap f)[j]? = some u → w.cell? (a.add j) = some u := by
        intro j u hu
        have hj : j < ((List.ofFn g).flatMap f).length := (List.getElem?_eq_some_iff.1 hu).1
        rw [flat_len hf, hgl] at hj
        have hq : j / P.cellsOf e < len := Nat.div_lt_of_lt_mul (by rw [Nat.mul_comm]; exact hj)
        have hjj : j / P.cellsOf e * P.cellsOf e + j % P.cellsOf e = j := by rw [Nat.mul_comm]; exact Nat.div_add_mod _ _
        have hr := Nat.mod_lt j hpos
        have h6 := (hg ⟨_, hq⟩).2 _ hr
        rw [← hjj, flat_get hf _ _ _ hr, List.getElem?_ofFn, dif_pos hq] at hu
        rw [add_add_, hjj] at h6
        rw [h6]
        exact hu
      intro hne
      refine ⟨a, rfl, ?_, hcell⟩
      obtain ⟨u, hu⟩ : ∃ u, ((List.ofFn g).flatMap f)[0]? = some u := by
        cases hxx : (List.ofFn g).flatMap f with
        | nil => exact absurd hxx hne
        | cons u r => exact ⟨u, rfl⟩
      have := World.block_lt_of_cell? _ _ (hcell 0 u hu)
      rwa [add_block] at this

theorem open_cellsW {t e : TypeId} {E : Type} (f : E → List Value) (ok : E → Prop) {C bytes : Nat} (ht : P.underlying t = some (.slice e)) (hC : P.cellsOf e = C) (hB : P.bytesOf e = bytes) (hpos : 0 < C) (hf : ∀ x, (f x).length = C)
    (hE : ∀ n cs x, cs.length = C → DataW.trod enc P w base spare held n e cs = some x → ∃ el, cs = f el ∧ ok el)
    {fuel : Nat} {cs : List Value} {x : DataW H × List MemPlace} (h : DataW.trod enc P w base spare held fuel t cs = some x) (hsz : ∀ n ∈ x.1.weights P t, n ≤ reachBytes) :
    ∃ (A : Option Addr) (c : Nat) (l : List E), cs = [.slice A l.length c] ∧ (∀ y ∈ l, ok y) ∧ l.length ≤ c ∧ c ≤ maxLen ∧ (A = none → c = 0) ∧ Has w w.heap.size A (l.flatMap f) ∧ l.length * bytes ≤ 140737488351232 := by
  obtain ⟨A, c, l, h1, h2, h3, h4, h5, h6, h7⟩ := open_cells f ok ht hC hpos hf hE h
  refine ⟨A, c, l, h1, h2, h3, h4, h5, h6, ?_⟩
  rcases h7 with ⟨_, rfl⟩ | ⟨elems, rest, hx, he⟩
  · simp
  · have := hsz ((elems.length + rest.length) * P.bytesOf e) (by rw [hx]; simp [DataW.weights, ht])
    rw [hB] at this
    have h8 : l.length * bytes ≤ (elems.length + rest.length) * bytes := Nat.mul_le_mul_right _ (by omega)
    simp only [reachBytes] at this
    omega

/-- an argument that is a slice -/
theorem open_list {t e : TypeId} {E : Type} (f : E → List Value) (ok : E → Prop) {C bytes : Nat} (ht : P.underlying t = some (.slice e)) (hC : P.cellsOf e = C) (hB : P.bytesOf e = bytes) (hpos : 0 < C) (hf : ∀ x, (f x).length = C)
    (hE : ∀ n cs x, cs.length = C → DataW.trod enc P w base spare held n e cs = some x → ∃ el, cs = f el ∧ ok el)
    {r : Reach} {b0 : Nat} {v : Value} {d : DataW H} {p : List MemPlace} (hval : Value.okWide P w r b0 t v) (h : DataW.Trod enc P w base spare held t v d p) (hsz : ∀ n ∈ d.weights P t, n ≤ reachBytes) :
    ∃ (A : Option Addr) (c : Nat) (l : List E), v = .slice A l.length c ∧ (∀ y ∈ l, ok y) ∧ l.length ≤ c ∧ c ≤ maxLen ∧ (A = none → c = 0) ∧ Has w w.heap.size A (l.flatMap f) ∧ l.length * bytes ≤ 140737488351232 := by
  obtain ⟨a, len, cap, rfl⟩ := okWide_slice ht hval
  obtain ⟨fuel, hf'⟩ := h
  obtain ⟨A, c, l, h1, h2⟩ := open_cellsW f ok ht hC hB hpos hf hE hf' hsz
  simp [Value.cells] at h1
  obtain ⟨rfl, rfl, rfl⟩ := h1
  exact ⟨_, _, l, rfl, h2⟩

theorem weights_of {ts : List TypeId} {ds : List (DataW H)} (h : (DataW.weightsEach P ts ds).all (· ≤ reachBytes) = true) {j : Nat} {t : TypeId} {d : DataW H} (ht : ts[j]? = some t) (hd : ds[j]? = some d) : ∀ n ∈ d.weights P t, n ≤ reachBytes := by
  intro n hn
  simpa using List.all_eq_true.1 h _ (DataW.weights_mem_each ht hd n hn)

theorem elem_u8 {e : TypeId} (he : P.underlying e = some (.int .u8)) : ∀ n cs x, cs.length = 1 → DataW.trod enc P w base spare held n e cs = some x → ∃ el : Nat, cs = [u8v el] ∧ el < 256 := by
  intro n cs x _ h
  obtain ⟨m, rfl, _, hw⟩ := DataW.trod_int he h
  have hb := bounds_u8 hw
  obtain ⟨q, rfl⟩ := Int.eq_ofNat_of_zero_le hb.1
  exact ⟨q, rfl, by omega⟩
theorem flat_u8 (l : List Nat) : l.flatMap (fun b => [u8v b]) = u8s l := by
  induction l with
  | nil => rfl
  | cons b l ih => rw [List.flatMap_cons, ih]; rfl

/-- []byte -/
theorem open_bytes {t e : TypeId} (ht : P.underlying t = some (.slice e)) (he : P.underlying e = some (.int .u8)) (hC : P.cellsOf e = 1) (hB : P.bytesOf e = 1)
    {r : Reach} {b0 : Nat} {v : Value} {d : DataW H} {p : List MemPlace} (hval : Value.okWide P w r b0 t v) (h : DataW.Trod enc P w base spare held t v d p) (hsz : ∀ n ∈ d.weights P t, n ≤ reachBytes) :
    ∃ (A : Option Addr) (c : Nat) (l : List Nat), v = .slice A l.length c ∧ Bytes l ∧ l.length ≤ c ∧ c ≤ maxLen ∧ (A = none → c = 0) ∧ Has w w.heap.size A (u8s l) ∧ l.length ≤ 140737488351232 := by
  obtain ⟨A, c, l, h1, h2, h3, h4, h5, h6, h7⟩ := open_list (fun b => [u8v b]) (fun b : Nat => b < 256) ht hC hB (by omega) (fun _ => rfl) (elem_u8 he) hval h hsz
  exact ⟨A, c, l, h1, h2, h3, h4, h5, by rw [← flat_u8]; exact h6, by omega⟩

theorem smpCs_len (l : List Smp) : (smpCs l).length = l.length * 2 := flat_len (f := smpC) (C := 2) (fun _ => rfl) l
theorem smpCs_t {l : List Smp} {k : Nat} (h : k < l.length) : (smpCs l)[k * 2]? = some (.int .i64 (at_ l k).t) := flat_at (f := smpC) (C := 2) (fun _ => rfl) h (r := 0) (by decide)
theorem smpCs_v {l : List Smp} {k : Nat} (h : k < l.length) : (smpCs l)[k * 2 + 1]? = some (.int .i64 (at_ l k).v) := flat_at (f := smpC) (C := 2) (fun _ => rfl) h (r := 1) (by decide)
theorem smpCs_take (l : List Smp) (k : Nat) : (smpCs l).take (k * 2) = smpCs (l.take k) := by
  induction l generalizing k with
  | nil => simp [smpCs]
  | cons s l ih =>
    cases k with
    | zero => simp [smpCs]
    | succ k =>
      have e : smpCs (s :: l) = .int .i64 s.t :: .int .i64 s.v :: smpCs l := rfl
      rw [e, show (k + 1) * 2 = k * 2 + 1 + 1 from by omega, List.take_succ_cons, List.take_succ_cons, ih]
      rfl
theorem smpCs_drop (l : List Smp) (k : Nat) : (smpCs l).drop (k * 2) = smpCs (l.drop k) := by
  induction l generalizing k with
  | nil => simp [smpCs]
  | cons s l ih =>
    cases k with
    | zero => simp [smpCs]
    | succ k =>
      have e : smpCs (s :: l) = .int .i64 s.t :: .int .i64 s.v :: smpCs l := rfl
      rw [e, show (k + 1) * 2 = k * 2 + 1 + 1 from by omega, List.drop_succ_cons, List.drop_succ_cons, ih]
      rfl

theorem smpCs_one (l : List Smp) : ∀ u ∈ smpCs l, u.oneCell' = true := by
  intro u hu
  simp only [smpCs, List.mem_flatMap, smpC] at hu
  obtain ⟨s, _, hu⟩ := hu
  simp at hu
  rcases hu with rfl | rfl <;> rfl
theorem elem_smp {e : TypeId} {f0 f1 : Field} (hs : P.underlying e = some (.struct #[f0, f1])) (h0 : P.underlying f0.type = some (.int .i64)) (h1 : P.underlying f1.type = some (.int .i64)) (hone : oneCellFields P #[f0, f1] = true) :
    ∀ n cs x, cs.length = 2 → DataW.trod enc P w base spare held n e cs = some x → ∃ el : Smp, cs = smpC el ∧ el.ok := by
  intro n cs x hl h
  obtain ⟨xs, m, _, _, _, hxl, hf⟩ := DataW.trod_struct hs h
  obtain ⟨o0, k0⟩ := hone_of hone 0 f0 rfl
  obtain ⟨o1, k1⟩ := hone_of hone 1 f1 rfl
  match cs, hl with
  | [c0, c1], _ =>
    match xs, hxl with
    | [y0, y1], _ =>
      have t0 := hf 0 f0 rfl
      have t1 := hf 1 f1 rfl
      rw [o0, k0] at t0
      rw [o1, k1] at t1
      obtain ⟨a, e1, _, w1⟩ := DataW.trod_int h0 (x := y0) t0
      obtain ⟨b, e2, _, w2⟩ := DataW.trod_int h1 (x := y1) t1
      simp at e1 e2
      subst e1 e2
      exact ⟨⟨a, b⟩, rfl, bounds_i64 w1, bounds_i64 w2⟩

/-- []api.Sample -/
theorem open_samples {t e : TypeId} {f0 f1 : Field} (ht : P.underlying t = some (.slice e)) (hs : P.underlying e = some (.struct #[f0, f1])) (h0 : P.underlying f0.type = some (.int .i64)) (h1 : P.underlying f1.type = some (.int .i64))
    (hone : oneCellFields P #[f0, f1] = true) (hC : P.cellsOf e = 2) (hB : P.bytesOf e = 16)
    {r : Reach} {b0 : Nat} {v : Value} {d : DataW H} {p : List MemPlace} (hval : Value.okWide P w r b0 t v) (h : DataW.Trod enc P w base spare held t v d p) (hsz : ∀ n ∈ d.weights P t, n ≤ reachBytes) :
    ∃ (A : Option Addr) (c : Nat) (l : List Smp), v = .slice A l.length c ∧ Smps l ∧ l.length ≤ c ∧ c ≤ maxLen ∧ (A = none → c = 0) ∧ Has w w.heap.size A (smpCs l) ∧ l.length ≤ 8796093022207 := by
  obtain ⟨A, c, l, e1, e2, e3, e4, e5, e6, e7⟩ := open_list smpC Smp.ok ht hC hB (by omega) (fun _ => rfl) (elem_smp hs h0 h1 hone) hval h hsz
  exact ⟨A, c, l, e1, e2, e3, e4, e5, e6, by omega⟩

/-- []int64 -/
theorem open_i64s {t e : TypeId} (ht : P.underlying t = some (.slice e)) (he : P.underlying e = some (.int .i64)) (hC : P.cellsOf e = 1) (hB : P.bytesOf e = 8)
    {r : Reach} {b0 : Nat} {v : Value} {d : DataW H} {p : List MemPlace} (hval : Value.okWide P w r b0 t v) (h : DataW.Trod enc P w base spare held t v d p) (hsz : ∀ n ∈ d.weights P t, n ≤ reachBytes) :
    ∃ (A : Option Addr) (c : Nat) (l : List Int), v = .slice A l.length c ∧ (∀ x ∈ l, -9223372036854775808 ≤ x ∧ x ≤ 9223372036854775807) ∧ l.length ≤ c ∧ c ≤ maxLen ∧ (A = none → c = 0) ∧ Has w w.heap.size A (l.map fun n => .int .i64 n) ∧ l.length ≤ 17592186043904 := by
  obtain ⟨A, c, l, h1, h2, h3, h4, h5, h6, h7⟩ := open_list (fun n : Int => [Value.int .i64 n]) (fun n : Int => -9223372036854775808 ≤ n ∧ n ≤ 9223372036854775807) ht hC hB (by omega) (fun _ => rfl)
    (fun n cs x _ h => by obtain ⟨m, rfl, _, hw⟩ := DataW.trod_int he h; exact ⟨m, rfl, bounds_i64 hw⟩) hval h hsz
  have e : l.flatMap (fun n : Int => [Value.int .i64 n]) = l.map fun n => .int .i64 n := by
    clear h1 h2 h3 h6 h7
    induction l with
    | nil => rfl
    | cons b l ih => rw [List.flatMap_cons, ih]; rfl
  exact ⟨A, c, l, h1, h2, h3, h4, h5, by rw [← e]; exact h6, by omega⟩
/-- []uint64 -/
theorem open_u64s {t e : TypeId} (ht : P.underlying t = some (.slice e)) (he : P.underlying e = some (.int .u64)) (hC : P.cellsOf e = 1) (hB : P.bytesOf e = 8)
    {r : Reach} {b0 : Nat} {v : Value} {d : DataW H} {p : List MemPlace} (hval : Value.okWide P w r b0 t v) (h : DataW.Trod enc P w base spare held t v d p) (hsz : ∀ n ∈ d.weights P t, n ≤ reachBytes) :
    ∃ (A : Option Addr) (c : Nat) (l : List Nat), v = .slice A l.length c ∧ (∀ x ∈ l, x < 18446744073709551616) ∧ l.length ≤ c ∧ c ≤ maxLen ∧ (A = none → c = 0) ∧ Has w w.heap.size A (l.map fun n : Nat => .int .u64 n) ∧ l.length ≤ 17592186043904 := by
  obtain ⟨A, c, l, h1, h2, h3, h4, h5, h6, h7⟩ := open_list (fun n : Nat => [Value.int .u64 n]) (fun n : Nat => n < 18446744073709551616) ht hC hB (by omega) (fun _ => rfl)
    (fun n cs x _ h => by
      obtain ⟨m, rfl, _, hw⟩ := DataW.trod_int he h
      have hb := bounds_u64 hw
      obtain ⟨q, rfl⟩ := Int.eq_ofNat_of_zero_le hb.1
      exact ⟨q, rfl, by omega⟩) hval h hsz
  have e : l.flatMap (fun n : Nat => [Value.int .u64 n]) = l.map fun n : Nat => .int .u64 n := by
    clear h1 h2 h3 h6 h7
    induction l with
    | nil => rfl
    | cons b l ih => rw [List.flatMap_cons, ih]; rfl
  exact ⟨A, c, l, h1, h2, h3, h4, h5, by rw [← e]; exact h6, by omega⟩
/-- api.Bits, by value -/
theorem open_bits {t e : TypeId} {f0 f1 : Field} (hs : P.underlying t = some (.struct #[f0, f1])) (h0 : P.underlying f0.type = some (.slice e)) (he : P.underlying e = some (.int .u8)) (h1 : P.underlying f1.type = some (.int .i64))
    (hone : oneCellFields P #[f0, f1] = true) (hC2 : P.cellsOf t = 2) (hC : P.cellsOf e = 1) (hB : P.bytesOf e = 1)
    {r : Reach} {b0 : Nat} {v : Value} {d : DataW H} {p : List MemPlace} (hval : Value.okWide P w r b0 t v) (h : DataW.Trod enc P w base spare held t v d p) (hsz : ∀ n ∈ d.weights P t, n ≤ reachBytes) :
    ∃ (A : Option Addr) (c : Nat) (l : List Nat) (N : Int), v = .agg #[.slice A l.length c, .int .i64 N] ∧ Bytes l ∧ l.length ≤ c ∧ c ≤ maxLen ∧ (A = none → c = 0) ∧ Has w w.heap.size A (u8s l) ∧ l.length ≤ 140737488351232 ∧ (-9223372036854775808 ≤ N ∧ N ≤ 9223372036854775807) := by
  obtain ⟨v0, v1, y0, y1, n, rfl, rfl, rfl, t0, t1⟩ := Go.Joins.open_agg2 hs hone hC2 hval h
  obtain ⟨A, c, l, e1, e2, e3, e4, e5, e6, e7⟩ := open_cellsW (fun b => [u8v b]) (fun b : Nat => b < 256) h0 hC hB (by omega) (fun _ => rfl) (elem_u8 he) t0 (fun n hn => hsz n (by simp [DataW.weights, hs, DataW.weightsEach, hn]))
  obtain ⟨N, e8, _, e9⟩ := DataW.trod_int h1 t1
  injection e1 with e1
  injection e8 with e8
  subst e1 e8
  exact ⟨A, c, l, N, rfl, e2, e3, e4, e5, by rw [← flat_u8]; exact e6, by omega, bounds_i64 e9⟩
end
end Go.Proofs.Ytmfndpkhcejffaa
