/- What slices.Clone of nodes makes; ring nodes in their order: plain laws. Conditions: none beyond each theorem's own hypotheses. -/
import Derived.Test.YtmbpgenjjgepiaaRgOwn
import Derived.Test.YtmbpgenjjgepiaaRgFind
namespace Go.Proofs.Ytmbpgenjjgepiaa
open Go.RowKit

set_option maxRecDepth 1000000 in
set_option maxHeartbeats 400000 in
theorem cloneNd_any (A : Option Addr) (n c : Nat) (xs : List Value) (hl : xs.length = n * 2) (h1 : ∀ u ∈ xs, u.oneCell' = true) (hA : A = none → n = 0 ∧ c = 0) (hmax : n * 40 ≤ 140737488355328) (w : World) (h : Has w w.heap.size A xs) :
    Calls Try.prog 32 #[.slice A n c] w (RV fun v w' => ∃ A' c', v = .slice A' n c' ∧ w'.ownsRow w.heap.size 34 2 (.slice A' n c') n xs ∧ Below w.heap.size w w') := by
  have hq := fun (w : World) (a : Option Addr) (n c n' c' : Nat) => Lib.run_eql_slice_nil (P := Try.prog) w 22 34 a n c n' c' Try.underlying22
  cases A with
  | none =>
    obtain ⟨rfl, rfl⟩ := hA rfl
    go_enter Try.func32, Try.ntmps32
    go_wp2
    go_ret
    exact RV.mk ⟨none, 0, rfl, ⟨hl, .inl ⟨rfl, rfl⟩⟩, Below.refl _ _⟩
  | some ad =>
    go_enter Try.func32, Try.ntmps32
    go_wp2_with (at_builtin; refine wpList_spread rfl _ _ _ rfl elNod rfl (World.ownsRow_made (base := w.heap.size) w #[] 0 (Nat.le_refl _) (Nat.zero_le _) rfl) rfl ((h.keep fun p hp => World.cell?_alloc_lt w _ p hp)) ?_ ?c1 ?c2 ?c3 ?c4 ?c5; intro A' c' w1 hown hgrow hbel)
    case c1 => exact hl
    case c2 => exact h1
    case c3 => omega
    case c4 => unfold maxLen; omega
    case c5 => simp
    go_ret
    rw [Nat.zero_add, List.nil_append] at hown
    exact RV.mk ⟨A', c', rfl, hown, ((Below.refl _ _).alloc (Nat.le_refl _) _).trans hbel⟩

/-- a node as the ring wants it -/
def NdFit (x : Nod) : Prop := x.nm ≠ noName ∧ x.nm.size ≤ 20 ∧ x.tk.length ≤ 20 ∧ upT x.tk (x.tk.length - 1) = true
theorem ndErr_iff {last : ByteArray} {x : Nod} : ndErr last x = 0 ↔ NdFit x ∧ nlt last x.nm := by
  unfold ndErr NdFit
  by_cases h1 : x.nm = noName ∨ 20 < x.nm.size
  · rw [if_pos h1]
    constructor
    · intro h; cases h
    · rintro ⟨⟨h2, h3, _⟩, _⟩; rcases h1 with h1 | h1; exact absurd h1 h2; omega
  · rw [if_neg h1]
    simp only [not_or] at h1
    by_cases h2 : nlt last x.nm
    · rw [if_neg (fun h => h h2)]
      by_cases h3 : 20 < x.tk.length
      · rw [if_pos h3]
        constructor
        · intro h; cases h
        · rintro ⟨⟨_, _, h4, _⟩, _⟩; omega
      · rw [if_neg h3]
        by_cases h4 : upT x.tk (x.tk.length - 1) = false
        · rw [if_pos h4]
          constructor
          · intro h; cases h
          · rintro ⟨⟨_, _, _, h5⟩, _⟩; rw [h4] at h5; cases h5
        · rw [if_neg h4]
          exact ⟨fun _ => ⟨⟨h1.1, by omega, by omega, by simpa using h4⟩, h2⟩, fun _ => rfl⟩
    · rw [if_pos h2]
      constructor
      · intro h; cases h
      · rintro ⟨_, h3⟩; exact absurd h3 h2
theorem orE_iff {e r : Int} : orE e r = 0 ↔ e = 0 ∧ r = 0 := by
  unfold orE
  by_cases h : e = 0
  · rw [if_neg (fun g => g h)]; exact ⟨fun h2 => ⟨h, h2⟩, fun h2 => h2.2⟩
  · rw [if_pos h]; exact ⟨fun h2 => absurd h2 h, fun h2 => h2.1⟩
theorem chkGo_iff {l : List Nod} : ∀ {last : ByteArray}, chkGo last l = 0 ↔ (∀ x ∈ l, NdFit x) ∧ (last :: l.map (·.nm)).Pairwise nlt := by
  induction l with
  | nil => intro last; simp [chkGo]
  | cons x l ih =>
    intro last
    rw [chkGo, orE_iff, ndErr_iff, ih]
    simp only [List.map_cons, List.pairwise_cons, List.mem_cons, forall_eq_or_imp]
    constructor
    · rintro ⟨⟨h1, h2⟩, h3, h4, h5⟩
      exact ⟨⟨h1, h3⟩, ⟨h2, fun a ha => nlt_trans h2 (h4 a ha)⟩, h4, h5⟩
    · rintro ⟨⟨h1, h3⟩, ⟨h2, _⟩, h4, h5⟩
      exact ⟨⟨h1, h2⟩, h3, h4, h5⟩
theorem nlt_noName {a : ByteArray} (h : a ≠ noName) : nlt noName a := by
  unfold nlt
  rw [Lib.toList_data, show noName.data.toList = [] from rfl]
  cases hl : a.toList with
  | nil => exact absurd (bytes_ext (by rw [hl, Lib.toList_data]; rfl)) h
  | cons x l => exact List.nil_lt_cons _ _
/-- nodes that Check lets by -/
def RgOk (l : List Nod) : Prop := l.length ≤ 20 ∧ (∀ x ∈ l, NdFit x) ∧ (l.map (·.nm)).Pairwise nlt
theorem chkR_iff {l : List Nod} : chkR l = 0 ↔ RgOk l := by
  unfold chkR RgOk
  by_cases h : 20 < l.length
  · rw [if_pos h]
    constructor
    · intro h2; cases h2
    · rintro ⟨h2, _⟩; omega
  · rw [if_neg h, chkGo_iff, List.pairwise_cons]
    constructor
    · rintro ⟨h1, _, h2⟩; exact ⟨by omega, h1, h2⟩
    · rintro ⟨_, h1, h2⟩
      refine ⟨h1, fun a ha => ?_, h2⟩
      obtain ⟨x, hx, rfl⟩ := List.mem_map.1 ha
      exact nlt_noName (h1 x hx).1
/-- the place of a name -/
def PlaceR (l : List Nod) (a : ByteArray) (i : Nat) : Prop := i ≤ l.length ∧ (∀ q, q < i → nlt (at_ l q).nm a) ∧ (i < l.length → ¬ nlt (at_ l i).nm a)
def insR (l : List Nod) (x : Nod) (i : Nat) : List Nod := l.take i ++ x :: l.drop i
theorem insR_ok {l : List Nod} {x : Nod} {i : Nat} (h : RgOk l) (hx : NdFit x) (hp : PlaceR l x.nm i) (hn : ∀ y ∈ l, y.nm ≠ x.nm) (h20 : l.length < 20) : RgOk (insR l x i) := by
  obtain ⟨h1, h2, h3⟩ := h
  obtain ⟨p1, p2, p3⟩ := hp
  have hlow : ∀ y ∈ l.take i, nlt y.nm x.nm := fun y hy => by
    obtain ⟨q, hq, rfl⟩ := List.getElem_of_mem hy
    rw [List.length_take] at hq
    have := p2 q (by omega)
    rw [at_eq (show q < l.length by omega)] at this
    rw [List.getElem_take]
    exact this
  have hsplit : l = l.take i ++ l.drop i := (List.take_append_drop i l).symm
  have h3' := h3
  rw [hsplit, List.map_append, List.pairwise_append] at h3'
  obtain ⟨t1, t2, t3⟩ := h3'
  have hhigh : ∀ y ∈ l.drop i, nlt x.nm y.nm := fun y hy => by
    rcases Nat.lt_or_ge i l.length with g | g
    · have hi : nlt x.nm (at_ l i).nm := by
        rcases Decidable.em (nlt x.nm (at_ l i).nm) with g2 | g2
        · exact g2
        · exact absurd (nlt_tri (p3 g) g2) (hn _ (at_mem g))
      rw [List.drop_eq_getElem_cons g] at hy t2
      rcases List.mem_cons.1 hy with rfl | hy
      · rw [at_eq g] at hi; exact hi
      · rw [List.map_cons, List.pairwise_cons] at t2
        have := t2.1 y.nm (List.mem_map.2 ⟨y, hy, rfl⟩)
        rw [at_eq g] at hi
        exact nlt_trans hi this
    · rw [List.drop_of_length_le g] at hy; cases hy
  refine ⟨by unfold insR; rw [List.length_append, List.length_cons, List.length_take, List.length_drop]; omega, fun y hy => ?_, ?_⟩
  · unfold insR at hy
    rcases List.mem_append.1 hy with hy | hy
    · exact h2 y (List.mem_of_mem_take hy)
    · rcases List.mem_cons.1 hy with rfl | hy
      · exact hx
      · exact h2 y (List.mem_of_mem_drop hy)
  · unfold insR
    rw [List.map_append, List.map_cons, List.pairwise_append]
    refine ⟨t1, List.pairwise_cons.2 ⟨fun a ha => ?_, t2⟩, fun a ha b hb => ?_⟩
    · obtain ⟨y, hy, rfl⟩ := List.mem_map.1 ha
      exact hhigh y hy
    · obtain ⟨y, hy, rfl⟩ := List.mem_map.1 ha
      rcases List.mem_cons.1 hb with rfl | hb
      · exact hlow y hy
      · exact t3 _ ha _ hb
theorem insR_at {l : List Nod} {x : Nod} {i : Nat} (hi : i ≤ l.length) : at_ (insR l x i) i = x ∧ ∀ q, q < i → at_ (insR l x i) q = at_ l q := by
  unfold insR
  constructor
  · simp [at_, List.getD, Nat.min_eq_left hi]
  · intro q hq
    simp [at_, List.getD, List.getElem?_append_left, show q < min i l.length by omega, show q < l.length by omega]
theorem insR_len {l : List Nod} {x : Nod} {i : Nat} : (insR l x i).length = l.length + 1 := by unfold insR; rw [List.length_append, List.length_cons, List.length_take, List.length_drop]; omega
theorem insR_erase {l : List Nod} {x : Nod} {i : Nat} (hi : i ≤ l.length) : (insR l x i).eraseIdx i = l := by
  unfold insR
  rw [List.eraseIdx_append_of_length_le (by rw [List.length_take]; omega), List.length_take, Nat.min_eq_left hi, Nat.sub_self, List.eraseIdx_cons_zero, List.take_append_drop]
end Go.Proofs.Ytmbpgenjjgepiaa
