/- What build of strings.Replacer makes of label's three pairs: plain parts. No conditions. -/
import Derived.Test.YtmfndpkhcejffaaGreatDoorRpOnce
import Derived.Test.YtmfndpkhcejffaaGreatDoorOpenL
import Derived.Lib.ConvBytes
import Derived.Lib.SmallJoins
import Derived.Laws.BytesArg
namespace Go.Proofs.YtmfndpkhcejffaaGreatDoor
open Go.RowKit

def nilV : Value := .slice none 0 0
/-- the cells of label's replacer: what stands for a quote, a backslash and a new line; and the texts that are replaced -/
def cells4 (tr a b d : Value) : Array Value := ((((Array.replicate 257 (.slice none 0 0)).setIfInBounds 256 tr).setIfInBounds 10 a).setIfInBounds 34 b).setIfInBounds 92 d
theorem zero130 : Tryz.zeroCells118 = cells4 nilV nilV nilV nilV := by kernel_rfl
theorem cells4_tr (tr a b d t : Value) : (cells4 tr a b d).setIfInBounds 256 t = cells4 t a b d := by kernel_rfl
theorem cells4_a (tr a b d t : Value) : (cells4 tr a b d).setIfInBounds 10 t = cells4 tr t b d := by kernel_rfl
theorem cells4_b (tr a b d t : Value) : (cells4 tr a b d).setIfInBounds 34 t = cells4 tr a t d := by kernel_rfl
theorem cells4_d (tr a b d t : Value) : (cells4 tr a b d).setIfInBounds 92 t = cells4 tr a b t := by kernel_rfl
theorem cells4_256 (tr a b d : Value) : (cells4 tr a b d)[256]? = some tr := by kernel_rfl
theorem cells4_10 (tr a b d : Value) : (cells4 tr a b d)[10]? = some a := by kernel_rfl
theorem cells4_34 (tr a b d : Value) : (cells4 tr a b d)[34]? = some b := by kernel_rfl
theorem cells4_92 (tr a b d : Value) : (cells4 tr a b d)[92]? = some d := by kernel_rfl
theorem cells4_at (tr a b d : Value) (i : Nat) (h : i < 256) : (cells4 tr a b d)[i]? = some (if i = 10 then a else if i = 34 then b else if i = 92 then d else nilV) := by
  unfold cells4
  simp only [Array.getElem?_setIfInBounds, Array.size_setIfInBounds, Array.size_replicate, Array.getElem?_replicate]
  by_cases h1 : i = 92
  · subst h1; simp
  · by_cases h2 : i = 34
    · subst h2; simp
    · by_cases h3 : i = 10
      · subst h3; simp
      · have e1 : ¬ 92 = i := fun e => h1 e.symm
        have e2 : ¬ 34 = i := fun e => h2 e.symm
        have e3 : ¬ 10 = i := fun e => h3 e.symm
        have e4 : ¬ 256 = i := by omega
        simp [e1, e2, e3, e4, h1, h2, h3, nilV, show i < 257 by omega]
/-- a row of bytes that can be read -/
def SlB (W : World) (v : Value) (l : List Nat) : Prop := ∃ b c cs fr, v = .slice (some ⟨b, 0, none⟩) l.length c ∧ W.heap[b]? = some (.cells cs 5 fr) ∧ cs.toList.take l.length = u8s l
theorem SlB.next {W W' : World} {v : Value} {l : List Nat} (h : SlB W v l) (hb : Below W.heap.size W W') : SlB W' v l := by
  obtain ⟨b, c, cs, fr, e, h1, h2⟩ := h
  exact ⟨b, c, cs, fr, e, (hb.block b (Array.getElem?_eq_some_iff.1 h1).1).trans h1, h2⟩
theorem SlB.grown {W W' : World} {v : Value} {l : List Nat} (h : SlB W v l) {base n : Nat} {u : Value} {xs : List Value} {e : TypeId} (ho : W.ownsRow base e 1 u n xs) (he : e ≠ 5) (hg : W.grownBy W' u.ownBlock) : SlB W' v l := by
  obtain ⟨b, c, cs, fr, e1, h1, h2⟩ := h
  refine ⟨b, c, cs, fr, e1, (hg.block b (Array.getElem?_eq_some_iff.1 h1).1 ?_).trans h1, h2⟩
  rcases ho.2 with ⟨rfl, _⟩ | ⟨q, cap, cur, rfl, _, hq, _⟩
  · intro h'; cases h'
  · intro h'
    injection h' with h'
    subst h'
    rw [h1] at hq
    injection hq with hq
    injection hq with _ h5
    exact he h5.symm
theorem SlB.set {W : World} {v : Value} {l : List Nat} (h : SlB W v l) {g : Nat} {t : TypeId} {ds : Array Value} (hk : Blk W g t ds) (ht : t ≠ 5) (i : Nat) (u : Value) : SlB (W.setCell ⟨g, i, none⟩ u) v l := by
  obtain ⟨b, c, cs, fr, e1, h1, h2⟩ := h
  refine ⟨b, c, cs, fr, e1, (Below.heap_setCell _ ⟨g, i, none⟩ _ b (fun e => ?_)).trans h1, h2⟩
  have e : b = g := by first | exact e | exact e.symm
  subst e
  rw [Blk] at hk
  rw [hk] at h1
  injection h1 with h1
  injection h1 with _ h5
  exact ht h5
theorem SlB.has {W : World} {b : Nat} {n c : Nat} {l : List Nat} (h : SlB W (.slice (some ⟨b, 0, none⟩) n c) l) : Has W W.heap.size (some ⟨b, 0, none⟩) (u8s l) := fun _ => by
  obtain ⟨b', c', cs, fr, e1, h1, h2⟩ := h
  injection e1 with e1
  injection e1 with e1
  injection e1 with e1
  subst e1
  refine ⟨_, rfl, (Array.getElem?_eq_some_iff.1 h1).1, fun j u hu => ?_⟩
  have hadd : (⟨b, 0, none⟩ : Addr).add j = ⟨b, j, none⟩ := by unfold Addr.add; split <;> simp_all
  rw [hadd, cell_of_row W b j cs 5 fr h1]
  rw [← h2] at hu
  have hj : j < l.length := by
    have := (List.getElem?_eq_some_iff.1 hu).1
    rw [List.length_take] at this
    omega
  rw [List.getElem?_take_of_lt hj] at hu
  rw [← Array.getElem?_toList]
  exact hu
theorem SlB.new (W : World) (s : ByteArray) (c : Nat) : SlB (Lib.bytesWorld W 5 s) (.slice (some ⟨W.heap.size, 0, none⟩) s.size c) (sb s) := by
  refine ⟨_, c, _, _, by rw [sb_len], Lib.bytesWorld_at_new W _ s, ?_⟩
  have hl : s.data.toList.length = s.size := by rw [Array.length_toList]; rfl
  unfold Lib.bytesCells
  rw [Array.toList_append, sb_len, List.take_append_of_le_length (by simp), List.take_of_length_le (by simp)]
  unfold sb u8s u8v
  simp
theorem blk_stored {w : World} {b : Nat} {t : TypeId} : ∀ (vs pre post : List Value), post.length = vs.length → Blk w b t (pre ++ post).toArray → Blk (w.setCells b pre.length vs) b t (pre ++ vs).toArray
  | [], pre, post, hl, h => by
    obtain rfl : post = [] := List.length_eq_zero_iff.1 hl
    exact h
  | v :: vs, pre, post, hl, h => by
    cases post with
    | nil => cases hl
    | cons p ps =>
      have h1 := h.set pre.length v
      have e : ((pre ++ p :: ps).toArray).setIfInBounds pre.length v = (pre ++ [v] ++ ps).toArray := by
        apply Array.ext'
        simp
      rw [e] at h1
      have := blk_stored vs (pre ++ [v]) ps (by simpa using hl) h1
      rw [List.length_append] at this
      rw [World.setCells]
      have e2 : pre ++ v :: vs = pre ++ [v] ++ vs := by simp
      rw [e2]
      exact this
theorem z130_one : ∀ v ∈ (cells4 nilV nilV nilV nilV).toList, v.oneCell' = true := by
  have h : (cells4 nilV nilV nilV nilV).toList.all (fun v => v.oneCell') = true := by kernel_rfl
  exact fun v hv => List.all_eq_true.1 h v hv
/-- a new object's cells, stored at once -/
theorem run_store130 (W : World) (v : Value) (hv : v.oneCell' = true) :
    ∃ W', (storeCells ⟨W.heap.size, 0, none⟩ (Tryz.zeroCells118.toList.set 256 v)).run Tryz.prog (W.alloc (.cells Tryz.zeroCells118 118)) = .ok () W' ∧
      Blk W' W.heap.size 118 (cells4 v nilV nilV nilV) ∧ Below W.heap.size W W' ∧ W'.heap.size = W.heap.size + 1 := by
  rw [zero130]
  have hb : Blk (W.alloc (.cells (cells4 nilV nilV nilV nilV) 118)) W.heap.size 118 (cells4 nilV nilV nilV nilV) := Blk.new _ _ _
  have hsz : (cells4 nilV nilV nilV nilV).size = 257 := by simp [cells4]
  have hst := run_storeCells_cells (P := Tryz.prog) W.heap.size 0 ((cells4 nilV nilV nilV nilV).toList.set 256 v) 0 (W.alloc (.cells (cells4 nilV nilV nilV nilV) 118))
    (by intro j hj; simp [hsz] at hj; rw [hb.cell]; simp [hsz, hj]) (by intro j _; exact hb.frozen _) (by
      intro u hu
      rcases List.mem_or_eq_of_mem_set hu with h | h
      · exact z130_one u h
      · rw [h]; exact hv)
  refine ⟨_, hst, ?_, ?_, ?_⟩
  · have h2 := blk_stored ((cells4 nilV nilV nilV nilV).toList.set 256 v) [] (cells4 nilV nilV nilV nilV).toList (by simp) (by simpa using hb)
    have e : ((cells4 nilV nilV nilV nilV).toList.set 256 v).toArray = cells4 v nilV nilV nilV := by
      rw [← cells4_tr nilV nilV nilV nilV v]
      apply Array.ext'
      simp
    rw [List.nil_append, e] at h2
    exact h2
  · have h3 : ∀ (vs : List Value) (o : Nat) (w : World), Below W.heap.size W w → Below W.heap.size W (w.setCells W.heap.size o vs) := by
      intro vs
      induction vs with
      | nil => intro o w h; exact h
      | cons u vs ih => intro o w h; exact ih _ _ (h.setCell (Nat.le_refl _) _)
    exact h3 _ _ _ ((Below.refl _ _).alloc (Nat.le_refl _) _)
  · have h4 : ∀ (vs : List Value) (o : Nat) (w : World), (w.setCells W.heap.size o vs).heap.size = w.heap.size := by
      intro vs
      induction vs with
      | nil => intro o w; rfl
      | cons u vs ih => intro o w; rw [World.setCells, ih]; simp [World.setCell]
    rw [h4]; simp
end Go.Proofs.YtmfndpkhcejffaaGreatDoor
