/- Texts of the proof of ExprBack, joined (by merge.py). Conditions: each theorem's own hypotheses. -/
import Derived.Test.YtnicbhmeigpjkaaGreatDoorExprOneP9
namespace Go.Proofs.YtnicbhmeigpjkaaGreatDoor
open Go.RowKit Go.ChangeShapes Go.WideShapes Go.Deep

theorem bulk_one {H : Type} (d : DataW H) : 1 ≤ Rows.uptoBulk d := by
  cases d with
  | lit l => cases l <;> simp [Rows.uptoBulk]
  | nil => simp [Rows.uptoBulk]
  | ptr d => simp [Rows.uptoBulk]
  | slice elems spare => simp [Rows.uptoBulk]
  | agg parts => simp [Rows.uptoBulk]
  | iface t d => simp [Rows.uptoBulk]
  | map entries => simp [Rows.uptoBulk]
  | held h => simp [Rows.uptoBulk]
theorem bulk_part {H : Type} {d : DataW H} {l : List (DataW H)} (h : d ∈ l) : Rows.uptoBulk d ≤ Rows.uptoBulkAll l := by
  induction l with
  | nil => cases h
  | cons x r ih =>
    simp only [Rows.uptoBulkAll]
    rcases List.mem_cons.1 h with e | e
    · subst e; omega
    · have := ih e; omega
theorem bulk_length {H : Type} (l : List (DataW H)) : l.length ≤ Rows.uptoBulkAll l := by
  induction l with
  | nil => simp [Rows.uptoBulkAll]
  | cons x r ih => have := bulk_one x; simp only [Rows.uptoBulkAll, List.length_cons]; omega
theorem bulk_small {H : Type} {ds gs : List (DataW H)} (hk : Rows.uptoSmall H (ds ++ gs) = true) {d : DataW H} (h : d ∈ ds) : Rows.uptoBulk d ≤ 1048576 := by
  have h1 : Rows.uptoBulkAll (ds ++ gs) ≤ 1048576 := by simpa [Rows.uptoSmall] using hk
  exact Nat.le_trans (bulk_part (List.mem_append_left _ h)) h1

section
variable {H : Type} {enc : TypeId × Value → H} {P : Program} {w : World} {base : Nat} {spare : Nat → Bool} {held : Bool}
theorem bulk_list {t e : TypeId} {E : Type} (f : E → List Value) (ok : E → Prop) {C : Nat} (ht : P.underlying t = some (.slice e)) (hC : P.cellsOf e = C) (hpos : 0 < C) (hf : ∀ x, (f x).length = C)
    (hE : ∀ n cs x, cs.length = C → DataW.trod enc P w base spare held n e cs = some x → ∃ el, cs = f el ∧ ok el)
    {r : Reach} {b0 : Nat} {v : Value} {d : DataW H} {p : List MemPlace} (hval : Value.okWide P w r b0 t v) (h : DataW.Trod enc P w base spare held t v d p) :
    ∃ (A : Option Addr) (c : Nat) (l : List E), v = .slice A l.length c ∧ (∀ y ∈ l, ok y) ∧ l.length ≤ c ∧ c ≤ maxLen ∧ (A = none → c = 0) ∧ Has w w.heap.size A (l.flatMap f) ∧ l.length ≤ Rows.uptoBulk d := by
  obtain ⟨a, len, cap, rfl⟩ := okWide_slice ht hval
  obtain ⟨fuel, hf'⟩ := h
  obtain ⟨A, c, l, h1, h2, h3, h4, h5, h6, h7⟩ := open_cells f ok ht hC hpos hf hE hf'
  simp [Value.cells] at h1
  obtain ⟨rfl, rfl, rfl⟩ := h1
  refine ⟨_, _, l, rfl, h2, h3, h4, h5, h6, ?_⟩
  rcases h7 with ⟨_, rfl⟩ | ⟨elems, rest, hx, he⟩
  · simp
  · have hd : d = .slice elems rest := hx
    have := bulk_length elems
    rw [hd, ← he]
    simp only [Rows.uptoBulk]
    omega
/-- []byte, with its bulk -/
theorem bulk_bytes {t e : TypeId} (ht : P.underlying t = some (.slice e)) (he : P.underlying e = some (.int .u8)) (hC : P.cellsOf e = 1)
    {r : Reach} {b0 : Nat} {v : Value} {d : DataW H} {p : List MemPlace} (hval : Value.okWide P w r b0 t v) (h : DataW.Trod enc P w base spare held t v d p) (hbk : Rows.uptoBulk d ≤ 1048576) :
    ∃ (A : Option Addr) (c : Nat) (l : List Nat), v = .slice A l.length c ∧ Bytes l ∧ l.length ≤ c ∧ c ≤ maxLen ∧ (A = none → c = 0) ∧ Has w w.heap.size A (u8s l) ∧ l.length ≤ 1048576 := by
  obtain ⟨A, c, l, h1, h2, h3, h4, h5, h6, h7⟩ := bulk_list (fun b => [u8v b]) (fun b : Nat => b < 256) ht hC (by omega) (fun _ => rfl) (elem_u8 he) hval h
  exact ⟨A, c, l, h1, h2, h3, h4, h5, by rw [← flat_u8]; exact h6, by omega⟩
/-- []int, []int64, with its bulk -/
theorem bulk_i64s {t e : TypeId} (ht : P.underlying t = some (.slice e)) (he : P.underlying e = some (.int .i64)) (hC : P.cellsOf e = 1)
    {r : Reach} {b0 : Nat} {v : Value} {d : DataW H} {p : List MemPlace} (hval : Value.okWide P w r b0 t v) (h : DataW.Trod enc P w base spare held t v d p) (hbk : Rows.uptoBulk d ≤ 1048576) :
    ∃ (A : Option Addr) (c : Nat) (l : List Int), v = .slice A l.length c ∧ (∀ x ∈ l, in64 x) ∧ l.length ≤ c ∧ c ≤ maxLen ∧ (A = none → c = 0) ∧ Has w w.heap.size A (l.map fun n => .int .i64 n) ∧ l.length ≤ 1048576 := by
  obtain ⟨A, c, l, h1, h2, h3, h4, h5, h6, h7⟩ := bulk_list (fun n : Int => [Value.int .i64 n]) in64 ht hC (by omega) (fun _ => rfl) (fun n cs x _ h => by obtain ⟨m, rfl, _, hw⟩ := DataW.trod_int he h; exact ⟨m, rfl, bounds_i64 hw⟩) hval h
  have e : l.flatMap (fun n : Int => [Value.int .i64 n]) = l.map fun n => .int .i64 n := by
    clear h1 h2 h3 h6 h7
    induction l with
    | nil => rfl
    | cons x l ih => rw [List.flatMap_cons, ih]; rfl
  rw [e] at h6
  exact ⟨A, c, l, h1, h2, h3, h4, h5, h6, by omega⟩
end
end Go.Proofs.YtnicbhmeigpjkaaGreatDoor
