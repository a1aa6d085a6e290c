/- Texts of the proof of HouseAcks, joined (by merge.py). Conditions: each theorem's own hypotheses. -/
import Derived.Test.YtihjgbhnlejhfaaGreatDoorHouseAcksP3
import Derived.Lib.SmallJoins
import Derived.Lib.SliceRun
import Derived.Laws.StructEq
namespace Go.Proofs.YtihjgbhnlejhfaaGreatDoor
open Go.RowKit Go.ChangeShapes Go.WideShapes Go.Deep

structure Smp where
  t : Int
  v : Int
instance : Inhabited Smp := ⟨⟨0, 0⟩⟩
instance : DecidableEq Smp := fun a b => if h : a.t = b.t ∧ a.v = b.v then isTrue (by cases a; cases b; simp at h; simp [h]) else isFalse (fun e => h (by rw [e]; exact ⟨rfl, rfl⟩))
def in64 (n : Int) : Prop := -9223372036854775808 ≤ n ∧ n ≤ 9223372036854775807
def Smp.ok (s : Smp) : Prop := in64 s.t ∧ in64 s.v
def smpC (s : Smp) : List Value := [.int .i64 s.t, .int .i64 s.v]
def smpCs (l : List Smp) : List Value := l.flatMap smpC
def Smps (l : List Smp) : Prop := ∀ s ∈ l, s.ok
theorem Smps.at {l : List Smp} (h : Smps l) (k : Nat) : (at_ l k).ok := by
  rcases Nat.lt_or_ge k l.length with h1 | h1
  · exact h _ (at_mem h1)
  · simp only [at_, List.getD, List.getElem?_eq_none h1, Option.getD_none]
    exact ⟨⟨by decide, by decide⟩, ⟨by decide, by decide⟩⟩

theorem flat_get {E : Type} {f : E → List Value} {C : Nat} (hf : ∀ x, (f x).length = C) : ∀ (l : List E) (i r : Nat), r < C → (l.flatMap f)[i * C + r]? = (l[i]?).bind fun x => (f x)[r]?
  | [], i, r, _ => by simp
  | x :: l, 0, r, hr => by
    rw [List.flatMap_cons, Nat.zero_mul, Nat.zero_add, List.getElem?_append_left (by rw [hf]; exact hr)]
    rfl
  | x :: l, i + 1, r, hr => by
    rw [List.flatMap_cons, List.getElem?_append_right (by rw [hf, Nat.succ_mul]; omega), hf, show (i + 1) * C + r - C = i * C + r from by rw [Nat.succ_mul]; omega, flat_get hf l i r hr]
    rfl
theorem flat_len {E : Type} {f : E → List Value} {C : Nat} (hf : ∀ x, (f x).length = C) (l : List E) : (l.flatMap f).length = l.length * C := by
  induction l with
  | nil => simp
  | cons x l ih => rw [List.flatMap_cons, List.length_append, hf, ih, List.length_cons, Nat.succ_mul, Nat.add_comm]
theorem flat_at {E : Type} [Inhabited E] {f : E → List Value} {C : Nat} (hf : ∀ x, (f x).length = C) {l : List E} {k : Nat} (hk : k < l.length) {r : Nat} (hr : r < C) : (l.flatMap f)[k * C + r]? = (f (at_ l k))[r]? := by
  rw [flat_get hf l k r hr, get?_at hk]
  rfl

section
variable {H : Type} {enc : TypeId × Value → H} {P : Program} {w : World} {base : Nat} {spare : Nat → Bool} {held : Bool}
theorem open_cells {t e : TypeId} {E : Type} (f : E → List Value) (ok : E → Prop) {C : Nat} (ht : P.underlying t = some (.slice e)) (hC : P.cellsOf e = C) (hpos : 0 < C) (hf : ∀ x, (f x).length = C)
    (hE : ∀ n cs x, cs.length = C → DataW.trod enc P w base spare held n e cs = some x → ∃ el, cs = f el ∧ ok el)
    {fuel : Nat} {cs : List Value} {x : DataW H × List MemPlace} (h : DataW.trod enc P w base spare held fuel t cs = some x) :
    ∃ (A : Option Addr) (c : Nat) (l : List E), cs = [.slice A l.length c] ∧ (∀ y ∈ l, ok y) ∧ l.length ≤ c ∧ c ≤ maxLen ∧ (A = none → c = 0) ∧ Has w w.heap.size A (l.flatMap f) ∧
      (x.1 = .nil ∧ l = [] ∨ ∃ elems rest, x.1 = .slice elems rest ∧ elems.length = l.length) := by
  subst hC
  rcases DataW.trod_slice ht h with ⟨hcs, hx⟩ | ⟨a, len, cap, elems, rest, n, _, hcs, hx, hb, hl, hm, hlen, hel, _, _⟩
  · exact ⟨none, 0, [], hcs, by simp, Nat.le_refl _, Nat.zero_le _, fun _ => rfl, Has.nil _ _ _, .inl ⟨by rw [hx], rfl⟩⟩
  · have each : ∀ i : Fin len, ∃ el, ok el ∧ ∀ r, r < P.cellsOf e → w.cell? ((a.add (i.val * P.cellsOf e)).add r) = (f el)[r]? := by
      intro ⟨i, hi⟩
      have h1 := hel i hi
      rw [List.getElem?_eq_getElem (by omega)] at h1
      obtain ⟨cs', h2, h3⟩ := Option.bind_eq_some_iff.1 h1
      obtain ⟨_, h4, h5⟩ := World.cells?_some h2
      obtain ⟨el, rfl, hok⟩ := hE n cs' _ h4 h3
      exact ⟨el, hok, h5⟩
    obtain ⟨g, hg⟩ := Classical.axiomOfChoice each
    have hgl : (List.ofFn g).length = len := by simp
    refine ⟨some a, cap, List.ofFn g, by rw [hcs, hgl], ?_, by omega, hm, (fun h => by cases h), ?_, .inr ⟨_, _, by rw [hx], by simp [hgl, hlen]⟩⟩
    · intro y hy
      obtain ⟨i, rfl⟩ := List.mem_ofFn.1 hy
      exact (hg i).1
    · have hcell : ∀ j u, ((List.ofFn g).flatMap f)[j]? = some u → w.cell? (a.add j) = some u := by
        intro j u hu
        have hj : j < ((List.ofFn g).flatMap f).length := (List.getElem?_eq_some_iff.1 hu).1
        rw [flat_len hf, hgl] at hj
        have hq : j / P.cellsOf e < len := Nat.div_lt_of_lt_mul (by rw [Nat.mul_comm]; exact hj)
        have hjj : j / P.cellsOf e * P.cellsOf e + j % P.cellsOf e = j := by rw [Nat.mul_comm]; exact Nat.div_add_mod _ _
        have hr := Nat.mod_lt j hpos
        have h6 := (hg ⟨_, hq⟩).2 _ hr
        rw [← hjj, flat_get hf _ _ _ hr, List.getElem?_ofFn, dif_pos hq] at hu
        rw [add_add_, hjj] at h6
        rw [h6]
        exact hu
      intro hne
      refine ⟨a, rfl, ?_, hcell⟩
      obtain ⟨u, hu⟩ : ∃ u, ((List.ofFn g).flatMap f)[0]? = some u := by
        cases hxx : (List.ofFn g).flatMap f with
        | nil => exact absurd hxx hne
        | cons u r => exact ⟨u, rfl⟩
      have := World.block_lt_of_cell? _ _ (hcell 0 u hu)
      rwa [add_block] at this

theorem open_cellsW {t e : TypeId} {E : Type} (f : E → List Value) (ok : E → Prop) {C bytes : Nat} (ht : P.underlying t = some (.slice e)) (hC : P.cellsOf e = C) (hB : P.bytesOf e = bytes) (hpos : 0 < C) (hf : ∀ x, (f x).length = C)
    (hE : ∀ n cs x, cs.length = C → DataW.trod enc P w base spare held n e cs = some x → ∃ el, cs = f el ∧ ok el)
    {fuel : Nat} {cs : List Value} {x : DataW H × List MemPlace} (h : DataW.trod enc P w base spare held fuel t cs = some x) (hsz : ∀ n ∈ x.1.weights P t, n ≤ reachBytes) :
    ∃ (A : Option Addr) (c : Nat) (l : List E), cs = [.slice A l.length c] ∧ (∀ y ∈ l, ok y) ∧ l.length ≤ c ∧ c ≤ maxLen ∧ (A = none → c = 0) ∧ Has w w.heap.size A (l.flatMap f) ∧ l.length * bytes ≤ 140737488351232 := by
  obtain ⟨A, c, l, h1, h2, h3, h4, h5, h6, h7⟩ := open_cells f ok ht hC hpos hf hE h
  refine ⟨A, c, l, h1, h2, h3, h4, h5, h6, ?_⟩
  rcases h7 with ⟨_, rfl⟩ | ⟨elems, rest, hx, he⟩
  · simp
  · have := hsz ((elems.length + rest.length) * P.bytesOf e) (by rw [hx]; simp [DataW.weights, ht])
    rw [hB] at this
    have h8 : l.length * bytes ≤ (elems.length + rest.length) * bytes := Nat.mul_le_mul_right _ (by omega)
    simp only [reachBytes] at this
    omega

/-- an argument that is a slice -/
theorem open_list {t e : TypeId} {E : Type} (f : E → List Value) (ok : E → Prop) {C bytes : Nat} (ht : P.underlying t = some (.slice e)) (hC : P.cellsOf e = C) (hB : P.bytesOf e = bytes) (hpos : 0 < C) (hf : ∀ x, (f x).length = C)
    (hE : ∀ n cs x, cs.length = C → DataW.trod enc P w base spare held n e cs = some x → ∃ el, cs = f el ∧ ok el)
    {r : Reach} {b0 : Nat} {v : Value} {d : DataW H} {p : List MemPlace} (hval : Value.okWide P w r b0 t v) (h : DataW.Trod enc P w base spare held t v d p) (hsz : ∀ n ∈ d.weights P t, n ≤ reachBytes) :
    ∃ (A : Option Addr) (c : Nat) (l : List E), v = .slice A l.length c ∧ (∀ y ∈ l, ok y) ∧ l.length ≤ c ∧ c ≤ maxLen ∧ (A = none → c = 0) ∧ Has w w.heap.size A (l.flatMap f) ∧ l.length * bytes ≤ 140737488351232 := by
  obtain ⟨a, len, cap, rfl⟩ := okWide_slice ht hval
  obtain ⟨fuel, hf'⟩ := h
  obtain ⟨A, c, l, h1, h2⟩ := open_cellsW f ok ht hC hB hpos hf hE hf' hsz
  simp [Value.cells] at h1
  obtain ⟨rfl, rfl, rfl⟩ := h1
  exact ⟨_, _, l, rfl, h2⟩

theorem weights_of {ts : List TypeId} {ds : List (DataW H)} (h : (DataW.weightsEach P ts ds).all (· ≤ reachBytes) = true) {j : Nat} {t : TypeId} {d : DataW H} (ht : ts[j]? = some t) (hd : ds[j]? = some d) : ∀ n ∈ d.weights P t, n ≤ reachBytes := by
  intro n hn
  simpa using List.all_eq_true.1 h _ (DataW.weights_mem_each ht hd n hn)

theorem elem_u8 {e : TypeId} (he : P.underlying e = some (.int .u8)) : ∀ n cs x, cs.length = 1 → DataW.trod enc P w base spare held n e cs = some x → ∃ el : Nat, cs = [u8v el] ∧ el < 256 := by
  intro n cs x _ h
  obtain ⟨m, rfl, _, hw⟩ := DataW.trod_int he h
  have hb := bounds_u8 hw
  obtain ⟨q, rfl⟩ := Int.eq_ofNat_of_zero_le hb.1
  exact ⟨q, rfl, by omega⟩
theorem flat_u8 (l : List Nat) : l.flatMap (fun b => [u8v b]) = u8s l := by
  induction l with
  | nil => rfl
  | cons b l ih => rw [List.flatMap_cons, ih]; rfl

/-- []byte -/
theorem open_bytes {t e : TypeId} (ht : P.underlying t = some (.slice e)) (he : P.underlying e = some (.int .u8)) (hC : P.cellsOf e = 1) (hB : P.bytesOf e = 1)
    {r : Reach} {b0 : Nat} {v : Value} {d : DataW H} {p : List MemPlace} (hval : Value.okWide P w r b0 t v) (h : DataW.Trod enc P w base spare held t v d p) (hsz : ∀ n ∈ d.weights P t, n ≤ reachBytes) :
    ∃ (A : Option Addr) (c : Nat) (l : List Nat), v = .slice A l.length c ∧ Bytes l ∧ l.length ≤ c ∧ c ≤ maxLen ∧ (A = none → c = 0) ∧ Has w w.heap.size A (u8s l) ∧ l.length ≤ 140737488351232 := by
  obtain ⟨A, c, l, h1, h2, h3, h4, h5, h6, h7⟩ := open_list (fun b => [u8v b]) (fun b : Nat => b < 256) ht hC hB (by omega) (fun _ => rfl) (elem_u8 he) hval h hsz
  exact ⟨A, c, l, h1, h2, h3, h4, h5, by rw [← flat_u8]; exact h6, by omega⟩

theorem smpCs_len (l : List Smp) : (smpCs l).length = l.length * 2 := flat_len (f := smpC) (C := 2) (fun _ => rfl) l
theorem smpCs_t {l : List Smp} {k : Nat} (h : k < l.length) : (smpCs l)[k * 2]? = some (.int .i64 (at_ l k).t) := flat_at (f := smpC) (C := 2) (fun _ => rfl) h (r := 0) (by decide)
theorem smpCs_v {l : List Smp} {k : Nat} (h : k < l.length) : (smpCs l)[k * 2 + 1]? = some (.int .i64 (at_ l k).v) := flat_at (f := smpC) (C := 2) (fun _ => rfl) h (r := 1) (by decide)
theorem smpCs_take (l : List Smp) (k : Nat) : (smpCs l).take (k * 2) = smpCs (l.take k) := by
  induction l generalizing k with
  | nil => simp [smpCs]
  | cons s l ih =>
    cases k with
    | zero => simp [smpCs]
    | succ k =>
      have e : smpCs (s :: l) = .int .i64 s.t :: .int .i64 s.v :: smpCs l := rfl
      rw [e, show (k + 1) * 2 = k * 2 + 1 + 1 from by omega, List.take_succ_cons, List.take_succ_cons, ih]
      rfl
theorem smpCs_drop (l : List Smp) (k : Nat) : (smpCs l).drop (k * 2) = smpCs (l.drop k) := by
  induction l generalizing k with
  | nil => simp [smpCs]
  | cons s l ih =>
    cases k with
    | zero => simp [smpCs]
    | succ k =>
      have e : smpCs (s :: l) = .int .i64 s.t :: .int .i64 s.v :: smpCs l := rfl
      rw [e, show (k + 1) * 2 = k * 2 + 1 + 1 from by omega, List.drop_succ_cons, List.drop_succ_cons, ih]
      rfl

theorem smpCs_one (l : List Smp) : ∀ u ∈ smpCs l, u.oneCell' = true := by
  intro u hu
  simp only [smpCs, List.mem_flatMap, smpC] at hu
  obtain ⟨s, _, hu⟩ := hu
  simp at hu
  rcases hu with rfl | rfl <;> rfl
theorem elem_smp {e : TypeId} {f0 f1 : Field} (hs : P.underlying e = some (.struct #[f0, f1])) (h0 : P.underlying f0.type = some (.int .i64)) (h1 : P.underlying f1.type = some (.int .i64)) (hone : oneCellFields P #[f0, f1] = true) :
    ∀ n cs x, cs.length = 2 → DataW.trod enc P w base spare held n e cs = some x → ∃ el : Smp, cs = smpC el ∧ el.ok := by
  intro n cs x hl h
  obtain ⟨xs, m, _, _, _, hxl, hf⟩ := DataW.trod_struct hs h
  obtain ⟨o0, k0⟩ := hone_of hone 0 f0 rfl
  obtain ⟨o1, k1⟩ := hone_of hone 1 f1 rfl
  match cs, hl with
  | [c0, c1], _ =>
    match xs, hxl with
    | [y0, y1], _ =>
      have t0 := hf 0 f0 rfl
      have t1 := hf 1 f1 rfl
      rw [o0, k0] at t0
      rw [o1, k1] at t1
      obtain ⟨a, e1, _, w1⟩ := DataW.trod_int h0 (x := y0) t0
      obtain ⟨b, e2, _, w2⟩ := DataW.trod_int h1 (x := y1) t1
      simp at e1 e2
      subst e1 e2
      exact ⟨⟨a, b⟩, rfl, bounds_i64 w1, bounds_i64 w2⟩

/-- []api.Sample -/
theorem open_samples {t e : TypeId} {f0 f1 : Field} (ht : P.underlying t = some (.slice e)) (hs : P.underlying e = some (.struct #[f0, f1])) (h0 : P.underlying f0.type = some (.int .i64)) (h1 : P.underlying f1.type = some (.int .i64))
    (hone : oneCellFields P #[f0, f1] = true) (hC : P.cellsOf e = 2) (hB : P.bytesOf e = 16)
    {r : Reach} {b0 : Nat} {v : Value} {d : DataW H} {p : List MemPlace} (hval : Value.okWide P w r b0 t v) (h : DataW.Trod enc P w base spare held t v d p) (hsz : ∀ n ∈ d.weights P t, n ≤ reachBytes) :
    ∃ (A : Option Addr) (c : Nat) (l : List Smp), v = .slice A l.length c ∧ Smps l ∧ l.length ≤ c ∧ c ≤ maxLen ∧ (A = none → c = 0) ∧ Has w w.heap.size A (smpCs l) ∧ l.length ≤ 8796093022207 := by
  obtain ⟨A, c, l, e1, e2, e3, e4, e5, e6, e7⟩ := open_list smpC Smp.ok ht hC hB (by omega) (fun _ => rfl) (elem_smp hs h0 h1 hone) hval h hsz
  exact ⟨A, c, l, e1, e2, e3, e4, e5, e6, by omega⟩

/-- []int64 -/
theorem open_i64s {t e : TypeId} (ht : P.underlying t = some (.slice e)) (he : P.underlying e = some (.int .i64)) (hC : P.cellsOf e = 1) (hB : P.bytesOf e = 8)
    {r : Reach} {b0 : Nat} {v : Value} {d : DataW H} {p : List MemPlace} (hval : Value.okWide P w r b0 t v) (h : DataW.Trod enc P w base spare held t v d p) (hsz : ∀ n ∈ d.weights P t, n ≤ reachBytes) :
    ∃ (A : Option Addr) (c : Nat) (l : List Int), v = .slice A l.length c ∧ (∀ x ∈ l, -9223372036854775808 ≤ x ∧ x ≤ 9223372036854775807) ∧ l.length ≤ c ∧ c ≤ maxLen ∧ (A = none → c = 0) ∧ Has w w.heap.size A (l.map fun n => .int .i64 n) ∧ l.length ≤ 17592186043904 := by
  obtain ⟨A, c, l, h1, h2, h3, h4, h5, h6, h7⟩ := open_list (fun n : Int => [Value.int .i64 n]) (fun n : Int => -9223372036854775808 ≤ n ∧ n ≤ 9223372036854775807) ht hC hB (by omega) (fun _ => rfl)
    (fun n cs x _ h => by obtain ⟨m, rfl, _, hw⟩ := DataW.trod_int he h; exact ⟨m, rfl, bounds_i64 hw⟩) hval h hsz
  have e : l.flatMap (fun n : Int => [Value.int .i64 n]) = l.map fun n => .int .i64 n := by
    clear h1 h2 h3 h6 h7
    induction l with
    | nil => rfl
    | cons b l ih => rw [List.flatMap_cons, ih]; rfl
  exact ⟨A, c, l, h1, h2, h3, h4, h5, by rw [← e]; exact h6, by omega⟩
/-- []uint64 -/
theorem open_u64s {t e : TypeId} (ht : P.underlying t = some (.slice e)) (he : P.underlying e = some (.int .u64)) (hC : P.cellsOf e = 1) (hB : P.bytesOf e = 8)
    {r : Reach} {b0 : Nat} {v : Value} {d : DataW H} {p : List MemPlace} (hval : Value.okWide P w r b0 t v) (h : DataW.Trod enc P w base spare held t v d p) (hsz : ∀ n ∈ d.weights P t, n ≤ reachBytes) :
    ∃ (A : Option Addr) (c : Nat) (l : List Nat), v = .slice A l.length c ∧ (∀ x ∈ l, x < 18446744073709551616) ∧ l.length ≤ c ∧ c ≤ maxLen ∧ (A = none → c = 0) ∧ Has w w.heap.size A (l.map fun n : Nat => .int .u64 n) ∧ l.length ≤ 17592186043904 := by
  obtain ⟨A, c, l, h1, h2, h3, h4, h5, h6, h7⟩ := open_list (fun n : Nat => [Value.int .u64 n]) (fun n : Nat => n < 18446744073709551616) ht hC hB (by omega) (fun _ => rfl)
    (fun n cs x _ h => by
      obtain ⟨m, rfl, _, hw⟩ := DataW.trod_int he h
      have hb := bounds_u64 hw
      obtain ⟨q, rfl⟩ := Int.eq_ofNat_of_zero_le hb.1
      exact ⟨q, rfl, by omega⟩) hval h hsz
  have e : l.flatMap (fun n : Nat => [Value.int .u64 n]) = l.map fun n : Nat => .int .u64 n := by
    clear h1 h2 h3 h6 h7
    induction l with
    | nil => rfl
    | cons b l ih => rw [List.flatMap_cons, ih]; rfl
  exact ⟨A, c, l, h1, h2, h3, h4, h5, by rw [← e]; exact h6, by omega⟩
/-- api.Bits, by value -/
theorem open_bits {t e : TypeId} {f0 f1 : Field} (hs : P.underlying t = some (.struct #[f0, f1])) (h0 : P.underlying f0.type = some (.slice e)) (he : P.underlying e = some (.int .u8)) (h1 : P.underlying f1.type = some (.int .i64))
    (hone : oneCellFields P #[f0, f1] = true) (hC2 : P.cellsOf t = 2) (hC : P.cellsOf e = 1) (hB : P.bytesOf e = 1)
    {r : Reach} {b0 : Nat} {v : Value} {d : DataW H} {p : List MemPlace} (hval : Value.okWide P w r b0 t v) (h : DataW.Trod enc P w base spare held t v d p) (hsz : ∀ n ∈ d.weights P t, n ≤ reachBytes) :
    ∃ (A : Option Addr) (c : Nat) (l : List Nat) (N : Int), v = .agg #[.slice A l.length c, .int .i64 N] ∧ Bytes l ∧ l.length ≤ c ∧ c ≤ maxLen ∧ (A = none → c = 0) ∧ Has w w.heap.size A (u8s l) ∧ l.length ≤ 140737488351232 ∧ (-9223372036854775808 ≤ N ∧ N ≤ 9223372036854775807) := by
  obtain ⟨v0, v1, y0, y1, n, rfl, rfl, rfl, t0, t1⟩ := Go.Joins.open_agg2 hs hone hC2 hval h
  obtain ⟨A, c, l, e1, e2, e3, e4, e5, e6, e7⟩ := open_cellsW (fun b => [u8v b]) (fun b : Nat => b < 256) h0 hC hB (by omega) (fun _ => rfl) (elem_u8 he) t0 (fun n hn => hsz n (by simp [DataW.weights, hs, DataW.weightsEach, hn]))
  obtain ⟨N, e8, _, e9⟩ := DataW.trod_int h1 t1
  injection e1 with e1
  injection e8 with e8
  subst e1 e8
  exact ⟨A, c, l, N, rfl, e2, e3, e4, e5, by rw [← flat_u8]; exact e6, by omega, bounds_i64 e9⟩
end
end Go.Proofs.YtihjgbhnlejhfaaGreatDoor
namespace Go.Proofs.YtihjgbhnlejhfaaGreatDoor
open Go.RowKit Go.ChangeShapes Go.WideShapes Go.Deep

def I64in (l : List Int) : Prop := ∀ x ∈ l, -9223372036854775808 ≤ x ∧ x ≤ 9223372036854775807
/-- a row of int64 in its cells -/
def IntAt (w : World) (v : Value) (r : List Int) : Prop := ∃ A c, v = .slice A r.length c ∧ r.length ≤ c ∧ c ≤ maxLen ∧ (A = none → c = 0) ∧ Has w w.heap.size A (i64s r) ∧ I64in r
inductive IntsAt (w : World) : List Value → List (List Int) → Prop
  | nil : IntsAt w [] []
  | cons {v : Value} {r : List Int} {vs : List Value} {rs : List (List Int)} : IntAt w v r → IntsAt w vs rs → IntsAt w (v :: vs) (r :: rs)
theorem IntAt.next {w w' : World} {v : Value} {r : List Int} (h : IntAt w v r) (hb : Below w.heap.size w w') : IntAt w' v r := by
  obtain ⟨A, c, e, h1, h2, h3, h4, h5⟩ := h
  exact ⟨A, c, e, h1, h2, h3, h4.next hb, h5⟩
theorem IntsAt.next {w w' : World} {vs : List Value} {rs : List (List Int)} (h : IntsAt w vs rs) (hb : Below w.heap.size w w') : IntsAt w' vs rs := by
  induction h with
  | nil => exact .nil
  | cons h1 _ ih => exact .cons (h1.next hb) ih
theorem IntsAt.get {w : World} {vs : List Value} {rs : List (List Int)} (h : IntsAt w vs rs) : ∀ {k : Nat}, k < rs.length → ∃ v, vs[k]? = some v ∧ IntAt w v (at_ rs k) := by
  induction h with
  | nil => intro k hk; simp at hk
  | @cons v r vs rs h1 _ ih =>
    intro k hk
    cases k with
    | zero => exact ⟨v, rfl, h1⟩
    | succ k =>
      obtain ⟨u, e, h2⟩ := ih (k := k) (by simpa using hk)
      exact ⟨u, by simpa using e, by rw [at_eq (by simpa using hk)] at h2; rw [at_eq hk]; exact h2⟩

abbrev IntE := Option Addr × Nat × List Int
def intV (x : IntE) : Value := .slice x.1 x.2.2.length x.2.1
def intOk (w : World) (x : IntE) : Prop := x.2.2.length ≤ x.2.1 ∧ x.2.1 ≤ maxLen ∧ (x.1 = none → x.2.1 = 0) ∧ Has w w.heap.size x.1 (i64s x.2.2) ∧ I64in x.2.2
theorem ints_of {w : World} : ∀ {L : List IntE}, (∀ y ∈ L, intOk w y) → IntsAt w (L.map intV) (L.map (·.2.2))
  | [], _ => .nil
  | x :: L, h => by
    obtain ⟨h2, h3, h4, h5, h6⟩ := h x (by simp)
    exact .cons ⟨x.1, x.2.1, rfl, h2, h3, h4, h5, h6⟩ (ints_of (L := L) (fun y hy => h y (by simp [hy])))
theorem flat_ints (L : List IntE) : L.flatMap (fun x => [intV x]) = L.map intV := by
  induction L with
  | nil => rfl
  | cons x L ih => rw [List.flatMap_cons, ih]; rfl
theorem flat_i64 (l : List Int) : l.flatMap (fun n : Int => [Value.int .i64 n]) = i64s l := by
  induction l with
  | nil => rfl
  | cons b l ih => rw [List.flatMap_cons, ih]; rfl
theorem array5 {α : Type} {cs : Array α} (h : cs.size = 5) : ∃ a b c d e, cs = #[a, b, c, d, e] := by
  obtain ⟨l⟩ := cs
  match l, h with
  | [a, b, c, d, e], _ => exact ⟨a, b, c, d, e, rfl⟩
section
variable {H : Type} {enc : TypeId × Value → H} {P : Program} {w : World} {base : Nat} {spare : Nat → Bool} {held : Bool}
theorem elem_i64 {e : TypeId} (he : P.underlying e = some (.int .i64)) : ∀ n cs x, cs.length = 1 → DataW.trod enc P w base spare held n e cs = some x → ∃ el : Int, cs = [Value.int .i64 el] ∧ (-9223372036854775808 ≤ el ∧ el ≤ 9223372036854775807) := by
  intro n cs x _ h
  obtain ⟨m, rfl, _, hw⟩ := DataW.trod_int he h
  exact ⟨m, rfl, bounds_i64 hw⟩
theorem elem_ints {t e : TypeId} (ht : P.underlying t = some (.slice e)) (he : P.underlying e = some (.int .i64)) (hC : P.cellsOf e = 1) :
    ∀ n cs x, cs.length = 1 → DataW.trod enc P w base spare held n t cs = some x → ∃ el : IntE, cs = [intV el] ∧ intOk w el := by
  intro n cs x _ h
  obtain ⟨A, c, l, h1, h2, h3, h4, h5, h6, _⟩ := open_cells (fun n : Int => [Value.int .i64 n]) _ ht hC (by omega) (fun _ => rfl) (elem_i64 he) h
  exact ⟨(A, c, l), h1, h3, h4, h5, by rw [← flat_i64]; exact h6, h2⟩
/-- api.Rank, by value -/
theorem open_rank {t ei er : TypeId} {f0 f1 f2 f3 f4 : Field} (hs : P.underlying t = some (.struct #[f0, f1, f2, f3, f4])) (h0 : P.underlying f0.type = some (.int .i64)) (h1 : P.underlying f1.type = some (.slice ei)) (hi : P.underlying ei = some (.int .i64))
    (h2 : P.underlying f2.type = some (.slice er)) (hr : P.underlying er = some (.slice ei)) (h3 : P.underlying f3.type = some (.int .i64)) (h4 : P.underlying f4.type = some (.int .i64))
    (hone : oneCellFields P #[f0, f1, f2, f3, f4] = true) (hC5 : P.cellsOf t = 5) (hCi : P.cellsOf ei = 1) (hBi : P.bytesOf ei = 8) (hCr : P.cellsOf er = 1) (hBr : P.bytesOf er = 24)
    {r : Reach} {b0 : Nat} {v : Value} {d : DataW H} {p : List MemPlace} (hval : Value.okWide P w r b0 t v) (h : DataW.Trod enc P w base spare held t v d p) (hsz : ∀ n ∈ d.weights P t, n ≤ reachBytes) :
    ∃ (K : Int) (A : Option Addr) (c : Nat) (T : List Int) (B : Option Addr) (e : Nat) (L : List (List Int)) (vs : List Value) (N S : Int),
      v = .agg #[.int .i64 K, .slice A T.length c, .slice B L.length e, .int .i64 N, .int .i64 S] ∧ in64 K ∧ IntAt w (.slice A T.length c) T ∧ L.length ≤ e ∧ e ≤ maxLen ∧ Has w w.heap.size B vs ∧ IntsAt w vs L ∧ L.length ≤ 5864062014634 ∧ in64 N ∧ in64 S := by
  obtain ⟨cs, rfl, hsz5⟩ := okWide_struct hs hval
  obtain ⟨v0, v1, v2, v3, v4, rfl⟩ := array5 (hsz5.trans hC5)
  obtain ⟨fuel, hf⟩ := h
  obtain ⟨xs, m, _, hx, _, hxl, hff⟩ := DataW.trod_struct hs hf
  obtain ⟨o0, k0⟩ := hone_of hone 0 f0 rfl
  obtain ⟨o1, k1⟩ := hone_of hone 1 f1 rfl
  obtain ⟨o2, k2⟩ := hone_of hone 2 f2 rfl
  obtain ⟨o3, k3⟩ := hone_of hone 3 f3 rfl
  obtain ⟨o4, k4⟩ := hone_of hone 4 f4 rfl
  match xs, hxl with
  | [y0, y1, y2, y3, y4], _ =>
    have t0 := hff 0 f0 rfl
    have t1 := hff 1 f1 rfl
    have t2 := hff 2 f2 rfl
    have t3 := hff 3 f3 rfl
    have t4 := hff 4 f4 rfl
    rw [o0, k0] at t0
    rw [o1, k1] at t1
    rw [o2, k2] at t2
    rw [o3, k3] at t3
    rw [o4, k4] at t4
    have t0 : DataW.trod enc P w base spare held m f0.type [v0] = some y0 := t0
    have t1 : DataW.trod enc P w base spare held m f1.type [v1] = some y1 := t1
    have t2 : DataW.trod enc P w base spare held m f2.type [v2] = some y2 := t2
    have t3 : DataW.trod enc P w base spare held m f3.type [v3] = some y3 := t3
    have t4 : DataW.trod enc P w base spare held m f4.type [v4] = some y4 := t4
    injection hx with hd hp
    subst hd hp
    obtain ⟨K, e0, _, w0⟩ := DataW.trod_int h0 t0
    obtain ⟨N, e3, _, w3⟩ := DataW.trod_int h3 t3
    obtain ⟨S, e4, _, w4⟩ := DataW.trod_int h4 t4
    obtain ⟨A, c, T, e1, q2, q3, q4, q5, q6, q7⟩ := open_cellsW (fun n : Int => [Value.int .i64 n]) _ h1 hCi hBi (by omega) (fun _ => rfl) (elem_i64 hi) t1 (fun n hn => hsz n (by simp [DataW.weights, hs, DataW.weightsEach, hn]))
    obtain ⟨B, e, L, e2, r2, r3, r4, r5, r6, r7⟩ := open_cellsW (fun x => [intV x]) (intOk w) h2 hCr hBr (by omega) (fun _ => rfl) (elem_ints hr hi hCi) t2 (fun n hn => hsz n (by simp [DataW.weights, hs, DataW.weightsEach, hn]))
    have i1 := ints_of r2
    rw [flat_ints] at r6
    rw [flat_i64] at q6
    injection e0 with e0
    injection e1 with e1
    injection e2 with e2
    injection e3 with e3
    injection e4 with e4
    subst e0 e1 e2 e3 e4
    exact ⟨K, A, c, T, B, e, L.map (·.2.2), L.map intV, N, S, by rw [List.length_map], bounds_i64 w0, ⟨A, c, rfl, q3, q4, q5, q6, q2⟩, by rw [List.length_map]; exact r3, r4, r6, i1, by rw [List.length_map]; omega, bounds_i64 w3, bounds_i64 w4⟩
end
end Go.Proofs.YtihjgbhnlejhfaaGreatDoor
namespace Go.Proofs.YtihjgbhnlejhfaaGreatDoor
open Go.RowKit Go.ChangeShapes Go.WideShapes Go.Deep

section
variable {H : Type} {enc : TypeId × Value → H} {P : Program} {w : World} {base : Nat} {spare : Nat → Bool} {held : Bool}
theorem open_string {r : Reach} {b0 : Nat} {t : TypeId} {v : Value} {d : DataW H} {ps : List MemPlace} (ht : P.underlying t = some .string) (hval : Value.okWide P w r b0 t v) (hd : DataW.Trod enc P w base spare held t v d ps) :
    ∃ s, v = .string s ∧ s.size ≤ maxLen := by
  obtain ⟨s, rfl⟩ := okWide_string ht hval
  obtain ⟨fuel, hf⟩ := hd
  obtain ⟨s', h, _, hw⟩ := DataW.trod_string ht hf
  simp [Value.cells] at h
  subst h
  exact ⟨s, rfl, hw⟩
theorem elem_str {e : TypeId} (he : P.underlying e = some .string) : ∀ n cs x, cs.length = 1 → DataW.trod enc P w base spare held n e cs = some x → ∃ el : ByteArray, cs = strC el ∧ el.size ≤ maxLen := by
  intro n cs x _ h
  obtain ⟨s, h1, _, h3⟩ := DataW.trod_string he h
  exact ⟨s, h1, h3⟩
theorem open_strs {t e : TypeId} (ht : P.underlying t = some (.slice e)) (he : P.underlying e = some .string) (hC : P.cellsOf e = 1) (hB : P.bytesOf e = 16)
    {r : Reach} {b0 : Nat} {v : Value} {d : DataW H} {p : List MemPlace} (hval : Value.okWide P w r b0 t v) (h : DataW.Trod enc P w base spare held t v d p) (hsz : ∀ n ∈ d.weights P t, n ≤ reachBytes) :
    ∃ (A : Option Addr) (c : Nat) (l : List ByteArray), v = .slice A l.length c ∧ (∀ s ∈ l, s.size ≤ maxLen) ∧ l.length ≤ c ∧ c ≤ maxLen ∧ (A = none → c = 0) ∧ Has w w.heap.size A (strCs l) ∧ l.length * 16 ≤ 140737488351232 :=
  open_list strC (fun s => s.size ≤ maxLen) ht hC hB (by omega) (fun _ => rfl) (elem_str he) hval h hsz
theorem array4 {α : Type} {cs : Array α} (h : cs.size = 4) : ∃ a b c d, cs = #[a, b, c, d] := by
  obtain ⟨l⟩ := cs
  match l, h with
  | [a, b, c, d], _ => exact ⟨a, b, c, d, rfl⟩
/-- api.Sketch, by value -/
theorem open_sketch {t ei : TypeId} {f0 f1 f2 f3 : Field} (hs : P.underlying t = some (.struct #[f0, f1, f2, f3])) (h0 : P.underlying f0.type = some (.int .i64)) (h1 : P.underlying f1.type = some (.int .i64)) (h2 : P.underlying f2.type = some (.slice ei)) (hi : P.underlying ei = some (.int .i64)) (h3 : P.underlying f3.type = some (.int .i64))
    (hone : oneCellFields P #[f0, f1, f2, f3] = true) (hC4 : P.cellsOf t = 4) (hCi : P.cellsOf ei = 1)
    {r : Reach} {b0 : Nat} {v : Value} {d : DataW H} {p : List MemPlace} (hval : Value.okWide P w r b0 t v) (h : DataW.Trod enc P w base spare held t v d p) :
    ∃ (D W : Int) (A : Option Addr) (c : Nat) (C : List Int) (N : Int),
      v = .agg #[.int .i64 D, .int .i64 W, .slice A C.length c, .int .i64 N] ∧ IntAt w (.slice A C.length c) C := by
  obtain ⟨cs, rfl, hsz4⟩ := okWide_struct hs hval
  obtain ⟨v0, v1, v2, v3, rfl⟩ := array4 (hsz4.trans hC4)
  obtain ⟨fuel, hf⟩ := h
  obtain ⟨xs, m, _, _, _, hxl, hff⟩ := DataW.trod_struct hs hf
  obtain ⟨o0, k0⟩ := hone_of hone 0 f0 rfl
  obtain ⟨o1, k1⟩ := hone_of hone 1 f1 rfl
  obtain ⟨o2, k2⟩ := hone_of hone 2 f2 rfl
  obtain ⟨o3, k3⟩ := hone_of hone 3 f3 rfl
  match xs, hxl with
  | [y0, y1, y2, y3], _ =>
    have t0 := hff 0 f0 rfl
    have t1 := hff 1 f1 rfl
    have t2 := hff 2 f2 rfl
    have t3 := hff 3 f3 rfl
    rw [o0, k0] at t0
    rw [o1, k1] at t1
    rw [o2, k2] at t2
    rw [o3, k3] at t3
    have t0 : DataW.trod enc P w base spare held m f0.type [v0] = some y0 := t0
    have t1 : DataW.trod enc P w base spare held m f1.type [v1] = some y1 := t1
    have t2 : DataW.trod enc P w base spare held m f2.type [v2] = some y2 := t2
    have t3 : DataW.trod enc P w base spare held m f3.type [v3] = some y3 := t3
    obtain ⟨D, e0, _, _⟩ := DataW.trod_int h0 t0
    obtain ⟨W, e1, _, _⟩ := DataW.trod_int h1 t1
    obtain ⟨N, e3, _, _⟩ := DataW.trod_int h3 t3
    obtain ⟨A, c, C, e2, q2, q3, q4, q5, q6, _⟩ := open_cells (fun n : Int => [Value.int .i64 n]) _ h2 hCi (by omega) (fun _ => rfl) (elem_i64 hi) t2
    rw [flat_i64] at q6
    injection e0 with e0
    injection e1 with e1
    injection e2 with e2
    injection e3 with e3
    subst e0 e1 e2 e3
    exact ⟨D, W, A, c, C, N, rfl, A, c, rfl, q3, q4, q5, q6, q2⟩
end
end Go.Proofs.YtihjgbhnlejhfaaGreatDoor
namespace Go.Proofs.YtihjgbhnlejhfaaGreatDoor
open Go.RowKit

/-- the first k steps rise -/
def ordUp (l : List Smp) : Nat → Bool
  | 0 => true
  | k + 1 => ordUp l k && decide ((at_ l k).t < (at_ l (k + 1)).t)
theorem ordUp_le {l : List Smp} {k m : Nat} (h : ordUp l m = true) (hk : k ≤ m) : ordUp l k = true := by
  induction hk with
  | refl => exact h
  | step _ ih => simp [ordUp] at h; exact ih h.1
theorem ordUp_step {l : List Smp} {k m : Nat} (h : ordUp l m = true) (hk : k < m) : (at_ l k).t < (at_ l (k + 1)).t := by
  have := ordUp_le h (show k + 1 ≤ m from hk)
  simp [ordUp] at this
  exact this.2
def chkS (l : List Smp) : Int := if 1000 < l.length then 2 else if ordUp l (l.length - 1) then 0 else 5

theorem chkS_ok {l : List Smp} (h : chkS l = 0) : l.length ≤ 1000 ∧ ordUp l (l.length - 1) = true := by
  unfold chkS at h
  split at h
  · simp at h
  · split at h
    · exact ⟨by omega, by assumption⟩
    · simp at h

set_option maxRecDepth 1000000 in
set_option maxHeartbeats 1000000 in
theorem scheck_any (A : Option Addr) (c : Nat) (l : List Smp) (hl : l.length ≤ maxLen) (w : World) (h : Has w w.heap.size A (smpCs l)) :
    Calls Tryz.prog 19 #[.slice A l.length c] w (R1 (.int .i64 (chkS l)) (Drawn w)) := by
  unfold maxLen at hl
  by_cases h1000 : (1000 : Int) < (l.length : Int)
  · have E := Lib.hid (show chkS l = 2 by unfold chkS; rw [if_pos (by omega)])
    rw [E.out]
    go_enter Tryz.func19, Tryz.ntmps19
    go_wp2
    go_ret
    exact R1.mk rfl (Drawn.refl _)
  · have hle : l.length ≤ 1000 := by omega
    go_enter Tryz.func19, Tryz.ntmps19
    go_wp2
    go_loopw [3] (fun i wr => ∃ k : Nat, k ≤ l.length ∧ i = .int .i64 ((k : Int) + 1) ∧ Hid (ordUp l k = true) ∧ Drawn w wr) (fun i _ => l.length + 5 - (intOf i).toNat)
    case atStart => exact ⟨0, by omega, rfl, Lib.hid rfl, Drawn.refl _⟩
    case round =>
      obtain ⟨k, hk, rfl, hck, n, rfl⟩ := hrel
      by_cases hlt : (k : Int) + 1 < (l.length : Int)
      · obtain ⟨ad, rfl, _, c1⟩ := h.at (smpCs_t (show k < l.length by omega))
        obtain ⟨ad', e, _, c2⟩ := h.at (smpCs_t (show k + 1 < l.length by omega))
        injection e with e
        subst e
        go_wp2
        have e1 : IntKind.i64.wrap ((k : Int) + 1 - 1) = (k : Int) := IntWalk.i64_in _ (by omega) |>.trans (by omega)
        have e2 : ((k : Int) + 1).toNat = k + 1 := by omega
        have q1 : (0 : Int) ≤ (k : Int) + 1 := by omega
        have q2 : (k : Int) < (l.length : Int) := by omega
        by_cases ht : (at_ l k).t < (at_ l (k + 1)).t
        · go_quiet (fail)
          clear e1 e2 q1 q2
          go_wp2
          go_roundw
          case rel => exact ⟨k + 1, by omega, by go_num, Lib.hid (by simp [ordUp, hck.out, ht]), _, rfl⟩
          case measure => simp [intOf]; omega
        · have ht' : (at_ l (k + 1)).t ≤ (at_ l k).t := by omega
          go_quiet (fail)
          clear e1 e2 q1 q2
          go_wp2
          go_ret
          refine R1.mk (int_eq ?_) ⟨_, rfl⟩
          unfold chkS
          rw [if_neg (by omega), if_neg]
          intro hc
          have h9 := ordUp_step hc (k := k) (by omega)
          omega
      · go_wp2
        go_ret
        refine R1.mk (int_eq ?_) ⟨_, rfl⟩
        unfold chkS
        rw [if_neg (by omega), if_pos (ordUp_le hck.out (by omega))]
end Go.Proofs.YtihjgbhnlejhfaaGreatDoor
namespace Go.Proofs.YtihjgbhnlejhfaaGreatDoor
open Go.RowKit

def mergeUp : List Smp → List Smp → List Smp
  | [], b => b
  | x :: a, [] => x :: a
  | x :: a, y :: b =>
    if x.t < y.t then x :: mergeUp a (y :: b)
    else if y.t < x.t then y :: mergeUp (x :: a) b
    else ⟨x.t, max x.v y.v⟩ :: mergeUp a b
termination_by a b => a.length + b.length

def look : List Smp → Int → Option Int
  | [], _ => none
  | x :: l, t => if x.t = t then some x.v else look l t
def join : Option Int → Option Int → Option Int
  | none, y => y
  | some x, none => some x
  | some x, some y => some (max x y)
def Up (l : List Smp) : Prop := l.Pairwise (fun x y => x.t < y.t)

theorem join_comm (x y : Option Int) : join x y = join y x := by
  cases x <;> cases y <;> simp [join, Int.max_comm]
theorem join_assoc (x y z : Option Int) : join (join x y) z = join x (join y z) := by
  cases x <;> cases y <;> cases z <;> simp [join, Int.max_assoc]
theorem join_self (x y : Option Int) : join (join x y) y = join x y := by
  cases x <;> cases y <;> simp [join] <;> omega

theorem look_none {l : List Smp} {t : Int} (h : ∀ s ∈ l, t < s.t) : look l t = none := by
  induction l with
  | nil => rfl
  | cons x l ih =>
    have h1 := h x (by simp)
    rw [look, if_neg (by omega)]
    exact ih (fun s hs => h s (by simp [hs]))

theorem up_mem {x : Smp} {l : List Smp} (h : Up (x :: l)) : ∀ s ∈ l, x.t < s.t := (List.pairwise_cons.1 h).1
theorem up_tail {x : Smp} {l : List Smp} (h : Up (x :: l)) : Up l := (List.pairwise_cons.1 h).2

theorem look_merge (a b : List Smp) (ha : Up a) (hb : Up b) (t : Int) : look (mergeUp a b) t = join (look a t) (look b t) := by
  fun_induction mergeUp a b with
  | case1 b => simp [look, join]
  | case2 x a => cases h : look (x :: a) t <;> simp [look, join]
  | case3 x a y b h ih =>
    rw [look, ih (up_tail ha) hb]
    by_cases hx : x.t = t
    · rw [if_pos hx, look, if_pos hx, look_none (l := y :: b) (t := t)]
      · rfl
      · intro s hs
        rcases List.mem_cons.1 hs with rfl | hs
        · omega
        · have := up_mem hb s hs; omega
    · rw [if_neg hx, show look (x :: a) t = look a t by rw [look, if_neg hx]]
  | case4 x a y b h h2 ih =>
    rw [look, ih ha (up_tail hb)]
    by_cases hy : y.t = t
    · rw [if_pos hy, show look (y :: b) t = some y.v by rw [look, if_pos hy], look_none (l := x :: a) (t := t)]
      · rfl
      · intro s hs
        rcases List.mem_cons.1 hs with rfl | hs
        · omega
        · have := up_mem ha s hs; omega
    · rw [if_neg hy, show look (y :: b) t = look b t by rw [look, if_neg hy]]
  | case5 x a y b h h2 ih =>
    have hxy : x.t = y.t := by omega
    rw [look, ih (up_tail ha) (up_tail hb)]
    by_cases hx : x.t = t
    · simp only [if_pos hx]
      rw [look, if_pos hx, look, if_pos (by omega)]
      rfl
    · simp only [if_neg hx]
      rw [show look (x :: a) t = look a t by rw [look, if_neg hx], show look (y :: b) t = look b t by rw [look, if_neg (by omega)]]

theorem merge_mem (a b : List Smp) : ∀ s ∈ mergeUp a b, (∃ x ∈ a, x.t = s.t) ∨ (∃ y ∈ b, y.t = s.t) := by
  fun_induction mergeUp a b with
  | case1 b => exact fun s hs => .inr ⟨s, hs, rfl⟩
  | case2 x a => exact fun s hs => .inl ⟨s, hs, rfl⟩
  | case3 x a y b h ih =>
    intro s hs
    rcases List.mem_cons.1 hs with rfl | hs
    · exact .inl ⟨_, by simp, rfl⟩
    · rcases ih s hs with ⟨z, hz, e⟩ | ⟨z, hz, e⟩
      · exact .inl ⟨z, by simp [hz], e⟩
      · exact .inr ⟨z, hz, e⟩
  | case4 x a y b h h2 ih =>
    intro s hs
    rcases List.mem_cons.1 hs with rfl | hs
    · exact .inr ⟨_, by simp, rfl⟩
    · rcases ih s hs with ⟨z, hz, e⟩ | ⟨z, hz, e⟩
      · exact .inl ⟨z, hz, e⟩
      · exact .inr ⟨z, by simp [hz], e⟩
  | case5 x a y b h h2 ih =>
    intro s hs
    rcases List.mem_cons.1 hs with rfl | hs
    · exact .inl ⟨x, by simp, rfl⟩
    · rcases ih s hs with ⟨z, hz, e⟩ | ⟨z, hz, e⟩
      · exact .inl ⟨z, by simp [hz], e⟩
      · exact .inr ⟨z, by simp [hz], e⟩

theorem merge_up (a b : List Smp) (ha : Up a) (hb : Up b) : Up (mergeUp a b) := by
  fun_induction mergeUp a b with
  | case1 b => exact hb
  | case2 x a => exact ha
  | case3 x a y b h ih =>
    refine List.pairwise_cons.2 ⟨fun s hs => ?_, ih (up_tail ha) hb⟩
    rcases merge_mem _ _ s hs with ⟨z, hz, e⟩ | ⟨z, hz, e⟩
    · have := up_mem ha z hz; omega
    · rcases List.mem_cons.1 hz with rfl | hz
      · omega
      · have := up_mem hb z hz; omega
  | case4 x a y b h h2 ih =>
    refine List.pairwise_cons.2 ⟨fun s hs => ?_, ih ha (up_tail hb)⟩
    rcases merge_mem _ _ s hs with ⟨z, hz, e⟩ | ⟨z, hz, e⟩
    · rcases List.mem_cons.1 hz with rfl | hz
      · omega
      · have := up_mem ha z hz; omega
    · have := up_mem hb z hz; omega
  | case5 x a y b h h2 ih =>
    refine List.pairwise_cons.2 ⟨fun s hs => ?_, ih (up_tail ha) (up_tail hb)⟩
    simp only
    rcases merge_mem _ _ s hs with ⟨z, hz, e⟩ | ⟨z, hz, e⟩
    · have := up_mem ha z hz; omega
    · have := up_mem hb z hz; omega

theorem look_ext (a b : List Smp) (ha : Up a) (hb : Up b) (h : ∀ t, look a t = look b t) : a = b := by
  induction a generalizing b with
  | nil =>
    cases b with
    | nil => rfl
    | cons y b => have := h y.t; simp [look] at this
  | cons x a ih =>
    cases b with
    | nil => have := h x.t; simp [look] at this
    | cons y b =>
      have hx := h x.t
      have hy := h y.t
      have e : x.t = y.t := by
        rcases Int.lt_trichotomy x.t y.t with g | g | g
        · rw [look_none (l := y :: b) (t := x.t) (fun s hs => by
            rcases List.mem_cons.1 hs with rfl | hs
            · exact g
            · have := up_mem hb s hs; omega)] at hx
          simp [look] at hx
        · exact g
        · rw [look_none (l := x :: a) (t := y.t) (fun s hs => by
            rcases List.mem_cons.1 hs with rfl | hs
            · exact g
            · have := up_mem ha s hs; omega)] at hy
          simp [look] at hy
      have ev : x.v = y.v := by simpa [look, e] using hx
      obtain rfl : x = y := by cases x; cases y; simp_all
      rw [ih b (up_tail ha) (up_tail hb) (fun t => by
        by_cases ht : x.t = t
        · rw [look_none (fun s hs => by have := up_mem ha s hs; omega), look_none (fun s hs => by have := up_mem hb s hs; omega)]
        · have := h t
          rwa [look, if_neg ht, look, if_neg ht] at this)]

theorem merge_comm {a b : List Smp} (ha : Up a) (hb : Up b) : mergeUp a b = mergeUp b a :=
  look_ext _ _ (merge_up a b ha hb) (merge_up b a hb ha) (fun t => by rw [look_merge a b ha hb, look_merge b a hb ha, join_comm])
theorem merge_assoc {a b c : List Smp} (ha : Up a) (hb : Up b) (hc : Up c) : mergeUp (mergeUp a b) c = mergeUp a (mergeUp b c) :=
  look_ext _ _ (merge_up _ c (merge_up a b ha hb) hc) (merge_up a _ ha (merge_up b c hb hc)) (fun t => by
    rw [look_merge _ c (merge_up a b ha hb) hc, look_merge a b ha hb, look_merge a _ ha (merge_up b c hb hc), look_merge b c hb hc, join_assoc])
theorem merge_self {a b : List Smp} (ha : Up a) (hb : Up b) : mergeUp (mergeUp a b) b = mergeUp a b :=
  look_ext _ _ (merge_up _ b (merge_up a b ha hb) hb) (merge_up a b ha hb) (fun t => by
    rw [look_merge _ b (merge_up a b ha hb) hb, look_merge a b ha hb, join_self])
end Go.Proofs.YtihjgbhnlejhfaaGreatDoor
namespace Go.Proofs.YtihjgbhnlejhfaaGreatDoor
open Go.RowKit

theorem elSmp : Elem Tryz.prog 43 26 2 16 := Elem.mk' (z := .agg #[.int .i64 0, .int .i64 0]) Tryz.underlying43 (by kernel_rfl) rfl (by decide)
def inS (a b : Int) (s : Smp) : Bool := decide (a ≤ s.t) && decide (s.t < b)
def rangeN (l : List Smp) (a b : Int) : List Smp := if chkS l ≠ 0 then [] else l.filter (inS a b)


theorem filter_idx {p : Smp → Bool} : ∀ (l : List Smp) (i k : Nat), (∀ j, j < l.length → p (at_ l j) = decide (i ≤ j ∧ j < k)) → l.filter p = (l.drop i).take (k - i)
  | [], i, k, _ => by simp
  | s :: l, i, k, h => by
    have h0 := h 0 (by simp)
    have e0 : at_ (s :: l) 0 = s := rfl
    have es : ∀ j, at_ (s :: l) (j + 1) = at_ l j := fun j => rfl
    rw [e0] at h0
    cases i with
    | zero =>
      cases k with
      | zero =>
        have := filter_idx (p := p) l 0 0 (fun j hj => by have := h (j + 1) (by simp; omega); rw [es] at this; rw [this]; simp)
        rw [List.filter_cons, h0, this]
        simp
      | succ k =>
        have := filter_idx (p := p) l 0 k (fun j hj => by have := h (j + 1) (by simp; omega); rw [es] at this; rw [this]; simp)
        rw [List.filter_cons, h0, this]
        simp
    | succ i =>
      have := filter_idx (p := p) l i (k - 1) (fun j hj => by
        have := h (j + 1) (by simp; omega)
        rw [es] at this
        rw [this]
        by_cases h1 : i ≤ j <;> by_cases h2 : j + 1 < k <;> simp [h1, h2] <;> omega)
      rw [List.filter_cons, h0, this]
      simp
      congr 1
      omega
theorem filter_none {l : List Smp} {a b : Int} {i k : Nat} (hi : Parts (fun j => decide (a ≤ (at_ l j).t)) l.length i) (hk : Parts (fun j => decide (b ≤ (at_ l j).t)) l.length k) :
    l.filter (inS a b) = (l.drop i).take (k - i) := by
  refine filter_idx l i k (fun j hj => ?_)
  unfold inS
  have e1 : decide (a ≤ (at_ l j).t) = decide (i ≤ j) := by
    rcases Nat.lt_or_ge j i with h | h
    · rw [show decide (i ≤ j) = false by rw [decide_eq_false_iff_not]; omega]; exact hi.2.1 j h
    · rw [show decide (i ≤ j) = true by rw [decide_eq_true_iff]; exact h]; exact hi.2.2 j h hj
  have e2 : decide ((at_ l j).t < b) = decide (j < k) := by
    rcases Nat.lt_or_ge j k with h | h
    · have := hk.2.1 j h
      rw [decide_eq_false_iff_not] at this
      rw [show decide (j < k) = true by rw [decide_eq_true_iff]; exact h, decide_eq_true_iff]; omega
    · have := hk.2.2 j h hj
      rw [decide_eq_true_iff] at this
      rw [show decide (j < k) = false by rw [decide_eq_false_iff_not]; omega, decide_eq_false_iff_not]; omega
  rw [e1, e2, Bool.decide_and]
theorem ord_mono {l : List Smp} (h : ordUp l (l.length - 1) = true) {i j : Nat} (hij : i ≤ j) (hj : j < l.length) : (at_ l i).t ≤ (at_ l j).t := by
  induction hij with
  | refl => exact Int.le_refl _
  | step hm ih =>
    have h1 := ih (by omega)
    rename_i m
    have h3 := ordUp_step h (show m < l.length - 1 by omega)
    exact Int.le_trans h1 (Int.le_of_lt h3)
def RangeP (l : List Smp) (a b : Int) (w : World) (v : Value) (w' : World) : Prop :=
  ∃ A c, v = .tuple #[.slice A (rangeN l a b).length c, .int .i64 (chkS l)] ∧ w'.ownsRow w.heap.size 26 2 (.slice A (rangeN l a b).length c) (rangeN l a b).length (smpCs (rangeN l a b)) ∧ Below w.heap.size w w'

end Go.Proofs.YtihjgbhnlejhfaaGreatDoor
namespace Go.Proofs.YtihjgbhnlejhfaaGreatDoor
open Go.RowKit

theorem toList_eq {a b : ByteArray} (h : a.toList = b.toList) : a = b := by
  rw [Lib.toList_data, Lib.toList_data] at h
  cases a; cases b
  simp only [] at h
  rw [Array.toList_inj.1 h]

structure Nod where
  nm : ByteArray
  tk : List Nat
instance : Inhabited Nod := ⟨⟨⟨#[]⟩, []⟩⟩
theorem Nod.same {a b : Nod} : a = b ↔ a.nm = b.nm ∧ a.tk = b.tk := by cases a; cases b; simp
instance : DecidableEq Nod := fun a b => if h : a.nm = b.nm ∧ a.tk = b.tk then isTrue (Nod.same.2 h) else isFalse (fun e => h (Nod.same.1 e))

/-- a row of tokens: its address, its capacity, its numbers -/
structure Row where
  A : Option Addr
  c : Nat
  l : List Nat
instance : Inhabited Row := ⟨⟨none, 0, []⟩⟩
def Row.ok (w : World) (x : Row) : Prop := x.l.length ≤ x.c ∧ x.c ≤ maxLen ∧ (x.A = none → x.c = 0) ∧ Has w w.heap.size x.A (u64s x.l)
theorem Row.ok.next {w w' : World} {x : Row} (h : x.ok w) (hb : Below w.heap.size w w') : x.ok w' := ⟨h.1, h.2.1, h.2.2.1, h.2.2.2.next hb⟩
structure NodE where
  nm : ByteArray
  t : Row
instance : Inhabited NodE := ⟨⟨⟨#[]⟩, default⟩⟩
def NodE.x (e : NodE) : Nod := ⟨e.nm, e.t.l⟩
def nodC (e : NodE) : List Value := [.string e.nm, .slice e.t.A e.t.l.length e.t.c]
def nodCs (L : List NodE) : List Value := L.flatMap nodC
theorem nodCs_0 {l : List NodE} {k : Nat} (h : k < l.length) : (nodCs l)[k * 2]? = some (.string (at_ l k).nm) := flat_at (f := nodC) (C := 2) (fun _ => rfl) h (r := 0) (by decide)
theorem nodCs_1 {l : List NodE} {k : Nat} (h : k < l.length) : (nodCs l)[k * 2 + 1]? = some (.slice (at_ l k).t.A (at_ l k).t.l.length (at_ l k).t.c) := flat_at (f := nodC) (C := 2) (fun _ => rfl) h (r := 1) (by decide)

set_option maxRecDepth 1000000 in
set_option maxHeartbeats 4000000 in
theorem sameNode1_any (a b : ByteArray) (s t : Row) (w : World) (hs : s.ok w) (ht : t.ok w) :
    Calls Tryz.prog 50 #[.agg #[.string a, .slice s.A s.l.length s.c], .agg #[.string b, .slice t.A t.l.length t.c]] w (R1 (.bool (decide (a = b) && decide (s.l = t.l))) (Below w.heap.size w)) := by
  obtain ⟨A, c, l⟩ := s
  obtain ⟨B, d, m⟩ := t
  obtain ⟨h1, h2, h3, h4⟩ := hs
  obtain ⟨i1, i2, i3, i4⟩ := ht
  simp only [] at h1 h2 h3 h4 i1 i2 i3 i4 ⊢
  obtain ⟨w0, hw0⟩ : ∃ w0, (w.alloc (.cells #[.string a, .slice A l.length c] 36)).alloc (.cells #[.string b, .slice B m.length d] 36) = w0 := ⟨_, rfl⟩
  have hb0 : Below w.heap.size w w0 := by rw [← hw0]; exact ((Below.refl _ _).alloc (Nat.le_refl _) _).alloc (by simp) _
  have ka : Blk w0 w.heap.size 36 #[.string a, .slice A l.length c] := by rw [← hw0]; exact (Blk.new _ _ _).alloc _
  have kb : Blk w0 (w.heap.size + 1) 36 #[.string b, .slice B m.length d] := by rw [← hw0]; have := Blk.new (w.alloc (.cells #[.string a, .slice A l.length c] 36)) 36 #[.string b, .slice B m.length d]; simpa using this
  have H1 := Lib.hid (h4.next hb0)
  have H2 := Lib.hid (i4.next hb0)
  have HW := Lib.hid hw0; clear hw0
  have p0 : w0.cell? ⟨w.heap.size, 0, none⟩ = some (.string a) := ka.cell 0
  have p1 : w0.cell? ⟨w.heap.size, 1, none⟩ = some (.slice A l.length c) := ka.cell 1
  have q0 : w0.cell? ⟨w.heap.size + 1, 0, none⟩ = some (.string b) := kb.cell 0
  have q1 : w0.cell? ⟨w.heap.size + 1, 1, none⟩ = some (.slice B m.length d) := kb.cell 1
  by_cases hab : a = b
  · subst hab
    go_enter Tryz.func50, Tryz.ntmps50
    go_wp2_with fail
    rw [HW.out]
    refine (equalU64_any A B _ _ c d l m rfl rfl (by omega) (by omega) _ (by exact H1.out) (by exact H2.out)).mono ?_
    rintro e w3 ⟨rfl, n3, rfl⟩
    go_wp2_with fail
    go_ret
    exact R1.mk (bool_eq (by simp)) (below_drewN hb0 _)
  · have dab := Lib.hid (show decide (a = b) = false from decide_eq_false hab)
    have hab' : ¬ a.toList = b.toList := fun h => hab (toList_eq h)
    clear hab
    go_enter Tryz.func50, Tryz.ntmps50
    go_wp2_with fail
    go_ret
    exact R1.mk (bool_eq (by rw [dab.out]; rfl)) (by rw [HW.out]; exact hb0)

theorem two_allocs (w : World) (o p : Obj) : Below w.heap.size w ((w.alloc o).alloc p) := ((Below.refl _ _).alloc (Nat.le_refl _) _).alloc (by simp) _
theorem map_take_succ {E X : Type} [Inhabited E] {f : E → X} {L M : List E} {j : Nat} (h : (L.take j).map f = (M.take j).map f) (h1 : j < L.length) (h2 : j < M.length) (e : f (at_ L j) = f (at_ M j)) : (L.take (j + 1)).map f = (M.take (j + 1)).map f := by
  rw [take_at h1, take_at h2, List.map_append, List.map_append, h, List.map_cons, List.map_cons, e]
theorem map_ne {E X : Type} [Inhabited E] {f : E → X} {L M : List E} {j : Nat} (h1 : j < L.length) (h2 : j < M.length) (e : ¬ f (at_ L j) = f (at_ M j)) : ¬ L.map f = M.map f := by
  intro h
  apply e
  have := congrArg (fun l => l[j]?) h
  simp only [List.getElem?_map, get?_at h1, get?_at h2, Option.map_some] at this
  exact Option.some.inj this

set_option maxRecDepth 1000000 in
set_option maxHeartbeats 4000000 in
theorem equalNodes_any (A B : Option Addr) (n m c d : Nat) (L M : List NodE) (hn : L.length = n) (hm : M.length = m) (hl : n ≤ maxLen) (hk : m ≤ maxLen) (w : World) (h : Has w w.heap.size A (nodCs L)) (h' : Has w w.heap.size B (nodCs M))
    (hL : ∀ e ∈ L, e.t.ok w) (hM : ∀ e ∈ M, e.t.ok w) :
    Calls Tryz.prog 49 #[.slice A n c, .slice B m d, .func (.func 50) #[] #[]] w (R1 (.bool (decide (L.map NodE.x = M.map NodE.x))) (Below w.heap.size w)) := by
  unfold maxLen at hl hk
  by_cases hnm : n = m
  · subst hnm
    have Hn := Lib.hid hn; clear hn
    have Hm := Lib.hid hm; clear hm
    go_enter Tryz.func49, Tryz.ntmps49
    go_wp2_with fail
    go_loopw [17] (fun i wr => ∃ j : Nat, j ≤ n ∧ i = .int .i64 (j : Nat) ∧ Hid ((L.take j).map NodE.x = (M.take j).map NodE.x) ∧ Below w.heap.size w wr) (fun i _ => n - (intOf i).toNat)
    case atStart => exact ⟨0, by omega, rfl, Lib.hid rfl, Below.refl _ _⟩
    case round =>
      obtain ⟨j, hj, rfl, heq, hb⟩ := hrel
      by_cases hlt : (j : Int) < (n : Int)
      · have l1 := Lib.hid (show j < L.length by rw [Hn.out]; omega)
        have l2 := Lib.hid (show j < M.length by rw [Hm.out]; omega)
        obtain ⟨ad, rfl, _, c0⟩ := (h.below hb).at (nodCs_0 l1.out)
        obtain ⟨ad', e, _, c1⟩ := (h.below hb).at (nodCs_1 l1.out)
        injection e with e
        subst e
        obtain ⟨bd, rfl, hbd, d0⟩ := (h'.below hb).at (nodCs_0 l2.out)
        obtain ⟨bd', e, _, d1⟩ := (h'.below hb).at (nodCs_1 l2.out)
        injection e with e
        subst e
        have c1 := cell_off c1 (by decide)
        have d1 := cell_off d1 (by decide)
        have K1 := Lib.hid ((hL _ (at_mem l1.out)).next hb)
        have K2 := Lib.hid ((hM _ (at_mem l2.out)).next hb)
        obtain ⟨p, hp⟩ : ∃ p, at_ L j = p := ⟨_, rfl⟩
        obtain ⟨q, hq⟩ : ∃ q, at_ M j = q := ⟨_, rfl⟩
        have Hp := Lib.hid hp
        have Hq := Lib.hid hq
        rw [hp] at c0 c1 K1
        rw [hq] at d0 d1 K2
        clear hp hq
        obtain ⟨a, s⟩ := p
        obtain ⟨b, t⟩ := q
        simp only [] at c0 c1 d0 d1
        have hbd' : bd.block < wr.heap.size := Nat.lt_of_lt_of_le hbd hb.size
        have d0' : ∀ o, (wr.alloc o).cell? (bd.add (j * 2)) = some (.string b) := fun o => by rw [World.cell?_alloc_lt _ _ _ (by rw [add_block]; exact hbd')]; exact d0
        have d1' : ∀ o, (wr.alloc o).cell? ⟨(bd.add (j * 2)).block, (bd.add (j * 2)).off + 1, none⟩ = some (.slice t.A t.l.length t.c) := fun o => by rw [World.cell?_alloc_lt _ _ _ (by rw [add_block]; exact hbd')]; exact d1
        by_cases e : (⟨a, s.l⟩ : Nod) = ⟨b, t.l⟩
        · have ee := Lib.hid (show (decide (a = b) && decide (s.l = t.l)) = true by obtain ⟨e1, e2⟩ := Nod.same.1 e; rw [decide_eq_true e1, decide_eq_true e2]; rfl)
          have E := Lib.hid e; clear e
          go_wp2_with fail
          refine (sameNode1_any a b s t _ ?k1 ?k2).mono ?_
          case k1 => exact K1.out.next (two_allocs _ _ _)
          case k2 => exact K2.out.next (two_allocs _ _ _)
          rw [ee.out]
          rintro e w3 ⟨rfl, hb3⟩
          go_wp2_with fail
          go_roundw
          case rel => exact ⟨j + 1, by omega, by go_num, Lib.hid (map_take_succ heq.out l1.out l2.out (by rw [Hp.out, Hq.out]; exact E.out)), (hb.trans ((two_allocs _ _ _).mono hb.size)).trans (hb3.mono (by have := hb.size; simp; omega))⟩
          case measure => simp [intOf]; omega
        · have ee := Lib.hid (show (decide (a = b) && decide (s.l = t.l)) = false by
            rw [Bool.eq_false_iff]; intro h1; simp only [Bool.and_eq_true, decide_eq_true_eq] at h1; exact e (Nod.same.2 h1))
          have E := Lib.hid (map_ne (f := NodE.x) l1.out l2.out (by rw [Hp.out, Hq.out]; exact e)); clear e
          go_wp2_with fail
          refine (sameNode1_any a b s t _ ?k1 ?k2).mono ?_
          case k1 => exact K1.out.next (two_allocs _ _ _)
          case k2 => exact K2.out.next (two_allocs _ _ _)
          rw [ee.out]
          rintro e w3 ⟨rfl, hb3⟩
          go_wp2_with fail
          go_ret
          exact R1.mk (bool_eq (by rw [eq_comm, decide_eq_false_iff_not]; exact E.out)) ((hb.trans ((two_allocs _ _ _).mono hb.size)).trans (hb3.mono (by have := hb.size; simp; omega)))
      · go_wp2_with fail
        go_ret
        exact R1.mk (bool_eq (by rw [eq_comm, decide_eq_true_iff]; have := heq.out; rwa [List.take_of_length_le (by rw [Hn.out]; omega), List.take_of_length_le (by rw [Hm.out]; omega)] at this)) hb
  · have f0 : ((n : Int) != (m : Int)) = true := by rw [bne_iff_ne]; omega
    have E := Lib.hid hnm; clear hnm
    go_enter Tryz.func49, Tryz.ntmps49
    go_wp2_with fail
    go_ret
    exact R1.mk (bool_eq (by rw [eq_comm, decide_eq_false_iff_not]; intro h1; apply E.out; rw [← hn, ← hm]; simpa using congrArg List.length h1)) (Below.refl _ _)

set_option maxRecDepth 1000000 in
theorem sameNodes_any (A B : Option Addr) (n m c d : Nat) (L M : List NodE) (hn : L.length = n) (hm : M.length = m) (hl : n ≤ maxLen) (hk : m ≤ maxLen) (w : World) (h : Has w w.heap.size A (nodCs L)) (h' : Has w w.heap.size B (nodCs M))
    (hL : ∀ e ∈ L, e.t.ok w) (hM : ∀ e ∈ M, e.t.ok w) :
    Calls Tryz.prog 23 #[.slice A n c, .slice B m d] w (R1 (.bool (decide (L.map NodE.x = M.map NodE.x))) (Below w.heap.size w)) := by
  obtain ⟨r, hr⟩ : ∃ r, decide (L.map NodE.x = M.map NodE.x) = r := ⟨_, rfl⟩
  have step := equalNodes_any A B n m c d L M hn hm hl hk w h h' hL hM
  rw [hr] at step ⊢
  have Step := Lib.hid step; clear step hr
  go_enter Tryz.func23, Tryz.ntmps23
  go_wp2_with fail
  refine Step.out.mono ?_
  rintro e w1 ⟨rfl, hb1⟩
  go_wp2_with fail
  go_ret
  exact R1.mk rfl hb1

theorem has_new (w : World) (cs : Array Value) (e : TypeId) {g : Nat} (hg : g = w.heap.size) : Has (w.alloc (.cells cs e)) (w.alloc (.cells cs e)).heap.size (some ⟨g, 0, none⟩) cs.toList := by subst hg; exact Has.fresh w cs e
theorem one_alloc (w : World) (o : Obj) : Below w.heap.size w (w.alloc o) := (Below.refl _ _).alloc (Nat.le_refl _) _
theorem four_allocs (w : World) (o p q r : Obj) : Below w.heap.size w ((((w.alloc o).alloc p).alloc q).alloc r) := bnext (two_allocs w o p) (two_allocs _ q r)
end Go.Proofs.YtihjgbhnlejhfaaGreatDoor
namespace Go.Proofs.YtihjgbhnlejhfaaGreatDoor
open Go.RowKit

theorem eq_of_at {α : Type} [Inhabited α] {l m : List α} (hl : l.length = m.length) (h : ∀ i, i < l.length → at_ l i = at_ m i) : l = m := by
  apply List.ext_getElem hl
  intro i h1 h2
  have := h i h1
  rwa [at_eq h1, at_eq h2] at this

theorem foSmp : Tryz.prog.fieldsOf 26 = #[{ name := "T", type := 2, offset := 0, embedded := false, tag := "", pkgPath := "", byteOffset := 0 }, { name := "V", type := 2, offset := 1, embedded := false, tag := "", pkgPath := "", byteOffset := 8 }] := by kernel_rfl
theorem shSmp : Tryz.prog.stoodInHeld 26 = false := by kernel_rfl
theorem egSmp : Tryz.prog.eqGuardType Tryz.prog.depth 26 = false := by kernel_rfl
theorem unSmp : Tryz.prog.underlying 26 = some (.struct (Tryz.prog.fieldsOf 26)) := by kernel_rfl
theorem neqSmp (w : World) (a b c d : Int) : (binOp .neq 26 (.agg #[.int .i64 a, .int .i64 b]) (.agg #[.int .i64 c, .int .i64 d])).run Tryz.prog w = .ok (.bool (!(a == c && b == d))) w := by
  rw [run_neq_struct, run_equalIn_struct w 9999 26 _ _ unSmp shSmp, foSmp]
  simp [Op.eqFields, go_sem]
  by_cases h1 : a = c <;> by_cases h2 : b = d <;> simp [h1, h2]
theorem guardSmp (w : World) (op : BinOp) (x y : Operand) (xs ys : Array Value) : (eqGuard op 26 x y (.agg xs) (.agg ys)).run Tryz.prog w = .ok () w := run_eqGuard_agg w op _ x y xs ys egSmp

set_option maxRecDepth 1000000 in
set_option maxHeartbeats 1000000 in
theorem equalS_any (A B : Option Addr) (n m c d : Nat) (l k : List Smp) (hn : l.length = n) (hm : k.length = m) (hl : n ≤ maxLen) (hk : m ≤ maxLen) (w : World) (h : Has w w.heap.size A (smpCs l)) (h' : Has w w.heap.size B (smpCs k)) :
    Calls Tryz.prog 57 #[.slice A n c, .slice B m d] w (R1 (.bool (decide (l = k))) (Drawn w)) := by
  unfold maxLen at hl hk
  have hq1 := neqSmp
  have hq2 := guardSmp
  by_cases hnm : n = m
  · subst hnm
    go_enter Tryz.func57, Tryz.ntmps57
    go_wp2
    go_loopw [13] (fun i wr => ∃ j : Nat, j ≤ n ∧ i = .int .i64 (j : Nat) ∧ Hid (∀ q, q < j → at_ l q = at_ k q) ∧ Drawn w wr) (fun i _ => n - (intOf i).toNat)
    case atStart => exact ⟨0, by omega, rfl, Lib.hid (fun q hq => by omega), Drawn.refl _⟩
    case round =>
      obtain ⟨j, hj, rfl, heq, nd, rfl⟩ := hrel
      by_cases hlt : (j : Int) < (n : Int)
      · obtain ⟨ad, rfl, _, c1⟩ := h.at (smpCs_t (show j < l.length by omega))
        obtain ⟨ad', e, _, c2⟩ := h.at (smpCs_v (show j < l.length by omega))
        injection e with e
        subst e
        obtain ⟨bd, rfl, _, c3⟩ := h'.at (smpCs_t (show j < k.length by omega))
        obtain ⟨bd', e, _, c4⟩ := h'.at (smpCs_v (show j < k.length by omega))
        injection e with e
        subst e
        have c2 := cell_off c2 (by decide)
        have c4 := cell_off c4 (by decide)
        have q1 : (0 : Int) ≤ (j : Int) := by omega
        by_cases e : at_ l j = at_ k j
        · have f1 : (!((at_ l j).t == (at_ k j).t && (at_ l j).v == (at_ k j).v)) = false := by rw [e]; simp
          have E := Lib.hid e; clear e
          go_wp2
          go_quiet (fail)
          go_wp2
          go_roundw
          case rel => exact ⟨j + 1, by omega, by go_num, Lib.hid (fun q hq => by rcases Nat.lt_or_ge q j with h1 | h1; exact heq.out q h1; rw [show q = j by omega]; exact E.out), _, rfl⟩
          case measure => simp [intOf]; omega
        · have f1 : (!((at_ l j).t == (at_ k j).t && (at_ l j).v == (at_ k j).v)) = true := by
            rw [Bool.not_eq_true']
            cases hb : ((at_ l j).t == (at_ k j).t && (at_ l j).v == (at_ k j).v)
            · rfl
            · simp only [Bool.and_eq_true, beq_iff_eq] at hb
              exact absurd (by cases hx : at_ l j; cases hy : at_ k j; rw [hx, hy] at hb; simp at hb; simp [hb]) e
          have E := Lib.hid e; clear e
          go_wp2
          go_quiet (fail)
          go_wp2
          go_ret
          exact R1.mk (bool_eq (by rw [eq_comm, decide_eq_false_iff_not]; intro h1; exact E.out (by rw [h1]))) (Drawn.two _ _ _)
      · go_wp2
        go_ret
        exact R1.mk (bool_eq (by rw [eq_comm, decide_eq_true_iff]; exact eq_of_at (by omega) (fun i hi => heq.out i (by omega)))) ⟨_, rfl⟩
  · have f0 : ((n : Int) != (m : Int)) = true := by rw [bne_iff_ne]; omega
    have E := Lib.hid hnm; clear hnm
    go_enter Tryz.func57, Tryz.ntmps57
    go_wp2
    go_ret
    exact R1.mk (bool_eq (by rw [eq_comm, decide_eq_false_iff_not]; intro h1; exact E.out (by rw [← hn, ← hm, h1]))) (Drawn.refl _)

set_option maxRecDepth 1000000 in
theorem same_any (A B : Option Addr) (n m c d : Nat) (l k : List Smp) (hn : l.length = n) (hm : k.length = m) (hl : n ≤ maxLen) (hk : m ≤ maxLen) (w : World) (h : Has w w.heap.size A (smpCs l)) (h' : Has w w.heap.size B (smpCs k)) :
    Calls Tryz.prog 27 #[.slice A n c, .slice B m d] w (R1 (.bool (decide (l = k))) (Drawn w)) := by
  go_enter Tryz.func27, Tryz.ntmps27
  go_wp2_with fail
  refine (equalS_any A B n m c d l k hn hm hl hk _ (by exact h) (by exact h')).mono ?_
  rintro e w1 ⟨rfl, n1, rfl⟩
  go_wp2_with fail
  go_ret
  exact R1.mk rfl ⟨_, rfl⟩
end Go.Proofs.YtihjgbhnlejhfaaGreatDoor
