/- Plain law: the owners of a number are the first unlike names on the way round; what becomes of them where a node's places are struck. No conditions. -/
import Derived.Test.YtmbpgenjjgepiaaRgUp
import Derived.Test.YtmbpgenjjgepiaaRgLaw
namespace Go.Proofs.Ytmbpgenjjgepiaa
open Go.RowKit Go.Sort

/-- each one once, where it comes first -/
def uq {α : Type} [DecidableEq α] : List α → List α
  | [] => []
  | x :: l => x :: (uq l).filter fun y => decide (y ≠ x)
theorem mem_uq {α : Type} [DecidableEq α] {l : List α} {y : α} : y ∈ uq l ↔ y ∈ l := by
  induction l with
  | nil => simp [uq]
  | cons x l ih =>
    by_cases h : y = x
    · simp [uq, h]
    · simp [uq, ih, h]
theorem uq_filter {α : Type} [DecidableEq α] (p : α → Bool) (l : List α) : uq (l.filter p) = (uq l).filter p := by
  induction l with
  | nil => rfl
  | cons x l ih =>
    cases hp : p x with
    | true =>
      rw [List.filter_cons_of_pos hp, uq, uq, ih, List.filter_cons_of_pos hp, List.filter_filter, List.filter_filter]
      congr 1; congr 1; funext y; exact Bool.and_comm _ _
    | false =>
      rw [List.filter_cons_of_neg (by rw [hp]; decide), uq, List.filter_cons_of_neg (by rw [hp]; decide), ih, List.filter_filter]
      apply List.filter_congr
      intro y _
      by_cases h : y = x
      · subst h; simp [hp]
      · simp [h]
theorem uq_nodup {α : Type} [DecidableEq α] (l : List α) : (uq l).Nodup := by
  induction l with
  | nil => exact List.nodup_nil
  | cons x l ih => exact List.nodup_cons.2 ⟨by simp, ih.filter _⟩
theorem uq_app {α : Type} [DecidableEq α] (l m : List α) : uq (l ++ m) = uq l ++ (uq m).filter (fun y => decide (y ∉ l)) := by
  induction l with
  | nil => simp only [uq, List.nil_append]; exact (List.filter_eq_self.2 (by simp)).symm
  | cons x l ih =>
    rw [List.cons_append, uq, uq, ih, List.filter_append, List.cons_append, List.filter_filter]
    congr 2
    apply List.filter_congr
    intro y _
    by_cases h : y = x <;> by_cases h2 : y ∈ l <;> simp [h, h2]
theorem uq_app1 {α : Type} [DecidableEq α] (l : List α) (x : α) : uq (l ++ [x]) = if x ∈ uq l then uq l else uq l ++ [x] := by
  rw [uq_app]
  by_cases h : x ∈ l
  · rw [if_pos (mem_uq.2 h)]; simp [uq, h]
  · rw [if_neg (fun g => h (mem_uq.1 g))]; simp [uq, h]

/-- the places on the way round from a number on -/
def rot (P : List Plc) (a : Nat) : List Plc := P.filter (fun x => decide (a ≤ x.t)) ++ P.filter fun x => decide (¬ a ≤ x.t)
theorem rot_filter (P : List Plc) (a : Nat) (q : Plc → Bool) : rot (P.filter q) a = (rot P a).filter q := by
  unfold rot
  rw [List.filter_append]
  simp only [List.filter_filter]
  congr 1 <;> (apply List.filter_congr; intro y _; exact Bool.and_comm _ _)
theorem rot_fall {P : List Plc} {a i : Nat} (h : FallP P a i) : rot P a = P.drop i ++ P.take i := by
  obtain ⟨h0, h1, h2⟩ := h
  have hlo : ∀ x ∈ P.take i, ¬ a ≤ x.t := fun x hx => by
    obtain ⟨q, hq, rfl⟩ := List.getElem_of_mem hx
    rw [List.length_take] at hq
    have := h1 q (by omega)
    rw [at_eq (show q < P.length by omega)] at this
    rw [List.getElem_take]; omega
  have hhi : ∀ x ∈ P.drop i, a ≤ x.t := fun x hx => by
    obtain ⟨q, hq, rfl⟩ := List.getElem_of_mem hx
    rw [List.length_drop] at hq
    have := h2 (i + q) (by omega) (by omega)
    rw [at_eq (show i + q < P.length by omega)] at this
    rw [List.getElem_drop]; exact this
  unfold rot
  conv => lhs; rw [← List.take_append_drop i P]
  rw [List.filter_append, List.filter_append, List.filter_eq_nil_iff.2 (fun x hx => by simpa using hlo x hx), List.filter_eq_self.2 (fun x hx => by simpa using hhi x hx), List.filter_eq_self.2 (fun x hx => by simpa using hlo x hx), List.filter_eq_nil_iff.2 (fun x hx => by simpa using hhi x hx), List.nil_append, List.append_nil]
theorem rot_at {P : List Plc} {i k : Nat} (h0 : i ≤ P.length) (hk : k < P.length) : at_ (P.drop i ++ P.take i) k = at_ P ((i + k) % P.length) := by
  have hl : (P.drop i ++ P.take i).length = P.length := by rw [List.length_append, List.length_drop, List.length_take]; omega
  have hm : (i + k) % P.length < P.length := Nat.mod_lt _ (by omega)
  rw [at_eq (by omega), at_eq hm]
  by_cases h : i + k < P.length
  · have hm2 : (i + k) % P.length = i + k := Nat.mod_eq_of_lt h
    rw [List.getElem_append_left (by rw [List.length_drop]; omega), List.getElem_drop]
    simp only [hm2]
  · have hm2 : (i + k) % P.length = i + k - P.length := by
      rw [Nat.mod_eq_sub_mod (by omega), Nat.mod_eq_of_lt (by omega)]
    rw [List.getElem_append_right (by rw [List.length_drop]; omega), List.getElem_take]
    simp only [hm2, List.length_drop]
    congr 1
    omega
/-- all owners, in order -/
def ownU (P : List Plc) (a : Nat) : List ByteArray := uq ((rot P a).map (·.nm))
theorem ownGo_take {P : List Plc} {a i : Nat} (h : FallP P a i) (m : Nat) : ∀ k, k ≤ P.length → ownGo P i m k = (uq (((rot P a).take k).map (·.nm))).take m := by
  intro k
  induction k with
  | zero => intro _; simp [ownGo, uq]
  | succ k ih =>
    intro hk
    have hl : (rot P a).length = P.length := by rw [rot_fall h, List.length_append, List.length_drop, List.length_take]; have := h.1; omega
    have e1 : ((rot P a).take (k + 1)).map (·.nm) = ((rot P a).take k).map (·.nm) ++ [(at_ P ((i + k) % P.length)).nm] := by
      rw [take_at (show k < (rot P a).length by omega), List.map_append, List.map_cons, List.map_nil, rot_fall h, rot_at h.1 (by omega)]
    rw [e1, uq_app1]
    simp only [ownGo]
    rw [ih (by omega)]
    obtain ⟨U, hU⟩ : ∃ U, uq (((rot P a).take k).map (·.nm)) = U := ⟨_, rfl⟩
    obtain ⟨x, hx⟩ : ∃ x, (at_ P ((i + k) % P.length)).nm = x := ⟨_, rfl⟩
    rw [hU, hx]
    by_cases hm : U.length < m
    · rw [List.take_of_length_le (by omega)]
      by_cases hxu : x ∈ U
      · rw [if_pos hxu, if_neg (fun g => by have := g.2; rw [(hasS_iff x U).2 hxu] at this; cases this), List.take_of_length_le (by omega)]
      · rw [if_neg hxu, if_pos ⟨hm, by rw [Bool.eq_false_iff]; exact fun g => hxu ((hasS_iff x U).1 g)⟩, List.take_of_length_le (by rw [List.length_append]; simp; omega)]
    · rw [if_neg (fun g => by have := g.1; rw [List.length_take] at this; omega)]
      by_cases hxu : x ∈ U
      · rw [if_pos hxu]
      · rw [if_neg hxu, List.take_append_of_le_length (by omega)]
theorem ownGo_all {P : List Plc} {a i : Nat} (h : FallP P a i) (m k : Nat) (hk : k = P.length) : ownGo P i m k = (ownU P a).take m := by
  subst hk
  have hl : (rot P a).length = P.length := by rw [rot_fall h, List.length_append, List.length_drop, List.length_take]; have := h.1; omega
  rw [ownGo_take h m _ (Nat.le_refl _), ← hl, List.take_length]; rfl

theorem plcs_filter (M : List Plc) (q : Plc → Bool) : plcs (M.filter q) = (plcs M).filter q := by
  have tr : ∀ x y z : Plc, (!(ltOf cfP) y x) = true → (!(ltOf cfP) z y) = true → (!(ltOf cfP) z x) = true := fun x y z h1 h2 => by
    simp only [Bool.not_eq_true'] at h1 h2 ⊢
    exact swoP.ntrans z y x h2 h1
  have tot : ∀ x y : Plc, ((!(ltOf cfP) y x) || (!(ltOf cfP) x y)) = true := fun x y => by
    cases h1 : ltOf cfP y x with
    | false => rfl
    | true =>
      cases h2 : ltOf cfP x y with
      | false => rfl
      | true => have := swoP.trans _ _ _ h1 h2; rw [swoP.irrefl] at this; cases this
  refine List.Perm.eq_of_pairwise (le := fun x y => (!(ltOf cfP) y x) = true) (fun x y _ _ h1 h2 => totP x y (by simpa using h2) (by simpa using h1)) (List.pairwise_mergeSort tr tot _) ((List.pairwise_mergeSort tr tot M).filter q) ?_
  exact (List.mergeSort_perm _ _).trans ((List.mergeSort_perm M _).filter q).symm
theorem ownU_filter (M : List Plc) (a : Nat) (x : ByteArray) : ownU (plcs (M.filter fun y => decide (y.nm ≠ x))) a = (ownU (plcs M) a).filter fun y => decide (y ≠ x) := by
  unfold ownU
  rw [plcs_filter, rot_filter, ← uq_filter, List.filter_map]
  rfl
theorem plAll_erase {l : List Nod} {x : ByteArray} {p : Nod → Bool} (hp : ∀ y, p y = decide (y.nm ≠ x)) : plAll (l.filter p) = (plAll l).filter fun y => decide (y.nm ≠ x) := by
  induction l with
  | nil => rfl
  | cons z l ih =>
    have e : plAll (z :: l) = ndPl z ++ plAll l := by simp [plAll]
    rw [e, List.filter_append, ← ih]
    by_cases h : z.nm = x
    · have e3 : (ndPl z).filter (fun y => decide (y.nm ≠ x)) = [] := List.filter_eq_nil_iff.2 (fun y hy => by
        unfold ndPl at hy
        obtain ⟨t, _, rfl⟩ := List.mem_map.1 hy
        simp [h])
      rw [List.filter_cons_of_neg (by rw [hp]; simp [h]), e3, List.nil_append]
    · have e3 : (ndPl z).filter (fun y => decide (y.nm ≠ x)) = ndPl z := List.filter_eq_self.2 (fun y hy => by
        unfold ndPl at hy
        obtain ⟨t, _, rfl⟩ := List.mem_map.1 hy
        simp [h])
      have e2 : plAll (z :: l.filter p) = ndPl z ++ plAll (l.filter p) := by simp [plAll]
      rw [List.filter_cons_of_pos (by rw [hp]; simp [h]), e2, e3]
theorem insR_filter {l : List Nod} {x : Nod} {i : Nat} (hn : ∀ y ∈ l, y.nm ≠ x.nm) : (insR l x i).filter (fun y => decide (y.nm ≠ x.nm)) = l := by
  unfold insR
  rw [List.filter_append, List.filter_cons_of_neg (by simp), ← List.filter_append, List.take_append_drop]
  exact List.filter_eq_self.2 (fun y hy => by simpa using hn y hy)
/-- who joins takes a number for itself alone -/
theorem ownU_ins {l : List Nod} {x : Nod} {i : Nat} (hn : ∀ y ∈ l, y.nm ≠ x.nm) (a : Nat) : ownU (plcs (plAll l)) a = (ownU (plcs (plAll (insR l x i))) a).filter fun y => decide (y ≠ x.nm) := by
  rw [← ownU_filter, ← plAll_erase (p := fun y => decide (y.nm ≠ x.nm)) (fun _ => rfl), insR_filter hn]
theorem ownU_mem {l : List Nod} {a : Nat} {o : ByteArray} (h : o ∈ ownU (plcs (plAll l)) a) : ∃ x ∈ l, x.nm = o ∧ 0 < x.tk.length := by
  unfold ownU at h
  rw [mem_uq] at h
  obtain ⟨y, hy, rfl⟩ := List.mem_map.1 h
  have h2 : y ∈ plcs (plAll l) := by
    unfold rot at hy
    rcases List.mem_append.1 hy with g | g <;> exact (List.mem_filter.1 g).1
  have h3 : y ∈ plAll l := (List.mergeSort_perm _ _).mem_iff.1 h2
  unfold plAll at h3
  obtain ⟨x, hx, h4⟩ := List.mem_flatMap.1 h3
  unfold ndPl at h4
  obtain ⟨t, ht, rfl⟩ := List.mem_map.1 h4
  exact ⟨x, hx, rfl, List.length_pos_of_mem ht⟩
/-- of a row that has each once: what stays of the first m behind a strike -/
theorem strike_none {U : List ByteArray} {x : ByteArray} {m : Nat} (h : x ∉ U.take m) : (U.filter fun y => decide (y ≠ x)).take m = U.take m := by
  conv => lhs; rw [← List.take_append_drop m U]
  rw [List.filter_append, List.filter_eq_self.2 (fun y hy => by simp only [decide_eq_true_eq]; rintro rfl; exact h hy)]
  by_cases hm : m ≤ U.length
  · rw [List.take_append_of_le_length (by rw [List.length_take]; omega), List.take_of_length_le (by rw [List.length_take]; omega)]
  · rw [List.drop_of_length_le (by omega), List.filter_nil, List.append_nil, List.take_take, Nat.min_self]
theorem eraseIdx_nodup {α : Type} [DecidableEq α] {x : α} : ∀ {l : List α} {i : Nat}, l.Nodup → (h : i < l.length) → l[i] = x → l.eraseIdx i = l.filter fun y => decide (y ≠ x)
  | [], i, _, h, _ => absurd h (Nat.not_lt_zero _)
  | y :: l, 0, hn, _, hx => by
    have hx : y = x := hx
    subst hx
    rw [List.eraseIdx_cons_zero, List.filter_cons_of_neg (by simp)]
    exact (List.filter_eq_self.2 (fun z hz => by simp only [decide_eq_true_eq]; rintro rfl; exact (List.nodup_cons.1 hn).1 hz)).symm
  | y :: l, i + 1, hn, h, hx => by
    have hx : l[i]'(Nat.lt_of_succ_lt_succ h) = x := hx
    have hy : y ≠ x := by rintro rfl; exact (List.nodup_cons.1 hn).1 (hx ▸ List.getElem_mem _)
    rw [List.eraseIdx_cons_succ, List.filter_cons_of_pos (by simp [hy]), eraseIdx_nodup (List.nodup_cons.1 hn).2 _ hx]
theorem strike_some {U : List ByteArray} {x : ByteArray} {m i : Nat} (hu : U.Nodup) (hi : i < (U.take m).length) (hx : (U.take m)[i] = x) :
    ((U.filter fun y => decide (y ≠ x)).take m).take ((U.take m).length - 1) = (U.take m).eraseIdx i ∧ ((U.filter fun y => decide (y ≠ x)).take m).length - ((U.take m).length - 1) ≤ 1 ∧ (U.take m).length - 1 ≤ ((U.filter fun y => decide (y ≠ x)).take m).length := by
  have hn : (U.take m).Nodup := hu.sublist (List.take_sublist _ _)
  have he : (U.take m).eraseIdx i = (U.take m).filter fun y => decide (y ≠ x) := eraseIdx_nodup hn hi hx
  have hl : ((U.take m).eraseIdx i).length = (U.take m).length - 1 := by rw [List.length_eraseIdx, if_pos hi]
  have hs : U.filter (fun y => decide (y ≠ x)) = (U.take m).eraseIdx i ++ (U.drop m).filter fun y => decide (y ≠ x) := by
    rw [he, ← List.filter_append, List.take_append_drop]
  have hlm : (U.take m).length = min m U.length := List.length_take
  have hd : ((U.drop m).filter fun y => decide (y ≠ x)).length ≤ U.length - m := by
    have := List.length_filter_le (fun y => decide (y ≠ x)) (U.drop m)
    rw [List.length_drop] at this; exact this
  have h3 : (((U.take m).eraseIdx i ++ (U.drop m).filter fun y => decide (y ≠ x)).take m).length = min m (((U.take m).eraseIdx i).length + ((U.drop m).filter fun y => decide (y ≠ x)).length) := by rw [List.length_take, List.length_append]
  rw [hs]
  refine ⟨?_, ?_, ?_⟩
  · rw [List.take_take, Nat.min_eq_left (by omega), ← hl, List.take_left]
  · rw [h3, hl]; omega
  · rw [h3, hl]; omega
end Go.Proofs.Ytmbpgenjjgepiaa
