/- A shard's hand: plain laws. No program in sight. -/
import Derived.Test.YtmfndpkhcejffaaKit
namespace Go.Proofs.Ytmfndpkhcejffaa
open Go.RowKit

/-- a rising row -/
def UpI (l : List Int) : Prop := l.Pairwise (· < ·)
def insI : List Int → Int → List Int
  | [], x => [x]
  | y :: l, x => if y < x then y :: insI l x else x :: y :: l
def withI (l : List Int) (x : Int) : List Int := if x ∈ l then l else insI l x
theorem insI_mem (l : List Int) (x y : Int) : y ∈ insI l x ↔ y = x ∨ y ∈ l := by
  induction l with
  | nil => simp [insI]
  | cons z l ih =>
    unfold insI
    split
    · simp only [List.mem_cons, ih]; constructor
      · rintro (h | h | h) <;> simp [h]
      · rintro (h | h | h) <;> simp [h]
    · simp only [List.mem_cons]
theorem insI_len (l : List Int) (x : Int) : (insI l x).length = l.length + 1 := by
  induction l with
  | nil => rfl
  | cons z l ih => unfold insI; split <;> simp [ih]
theorem withI_mem (l : List Int) (x y : Int) : y ∈ withI l x ↔ y = x ∨ y ∈ l := by
  unfold withI
  split
  · rename_i h
    constructor
    · exact fun h => .inr h
    · rintro (rfl | h')
      · exact h
      · exact h'
  · exact insI_mem _ _ _
theorem insI_up {l : List Int} (h : UpI l) {x : Int} (hx : ¬ x ∈ l) : UpI (insI l x) := by
  induction l with
  | nil => exact List.pairwise_singleton _ _
  | cons z l ih =>
    have h1 := List.pairwise_cons.1 h
    unfold insI
    split
    · rename_i hz
      refine List.pairwise_cons.2 ⟨fun y hy => ?_, ih h1.2 (fun g => hx (List.mem_cons_of_mem _ g))⟩
      rcases (insI_mem _ _ _).1 hy with rfl | hy
      · exact hz
      · exact h1.1 y hy
    · rename_i hz
      have hzx : x < z := by
        have : ¬ x = z := fun e => hx (by rw [e]; exact List.mem_cons_self)
        omega
      refine List.pairwise_cons.2 ⟨fun y hy => ?_, h⟩
      rcases List.mem_cons.1 hy with rfl | hy
      · exact hzx
      · exact Int.lt_trans hzx (h1.1 y hy)
theorem withI_up {l : List Int} (h : UpI l) (x : Int) : UpI (withI l x) := by
  unfold withI
  split
  · exact h
  · rename_i hx; exact insI_up h hx
theorem insI_at {l : List Int} (x : Int) {i : Nat} (hi : i ≤ l.length) (h1 : ∀ j, j < i → at_ l j < x) (h2 : i < l.length → ¬ at_ l i < x) : insI l x = l.take i ++ x :: l.drop i := by
  induction l generalizing i with
  | nil => obtain rfl : i = 0 := by simpa using hi
           rfl
  | cons z l ih =>
    unfold insI
    cases i with
    | zero =>
      have : ¬ z < x := h2 (by simp)
      rw [if_neg this]; rfl
    | succ i =>
      have : z < x := h1 0 (by omega)
      rw [if_pos this, ih (i := i) (by simpa using hi) (fun j hj => h1 (j + 1) (by omega)) (fun hj => h2 (by simpa using hj))]
      rfl
theorem at_UpI {l : List Int} (h : UpI l) {i j : Nat} (hij : i < j) (hj : j < l.length) : at_ l i < at_ l j := by
  rw [at_eq (by omega), at_eq hj]
  exact List.pairwise_iff_getElem.1 h i j (by omega) hj hij
/-- rising rows of the same numbers are one -/
theorem up_ext : ∀ {a b : List Int}, UpI a → UpI b → (∀ x, x ∈ a ↔ x ∈ b) → a = b
  | [], [], _, _, _ => rfl
  | [], y :: b, _, _, h => by have := (h y).2 List.mem_cons_self; cases this
  | x :: a, [], _, _, h => by have := (h x).1 List.mem_cons_self; cases this
  | x :: a, y :: b, ha, hb, h => by
    have ha' := List.pairwise_cons.1 ha
    have hb' := List.pairwise_cons.1 hb
    have exy : x = y := by
      rcases List.mem_cons.1 ((h x).1 List.mem_cons_self) with e | e
      · exact e
      · rcases List.mem_cons.1 ((h y).2 List.mem_cons_self) with g | g
        · exact g.symm
        · have h1 := hb'.1 x e
          have h2 := ha'.1 y g
          omega
    subst exy
    rw [up_ext (a := a) (b := b) ha'.2 hb'.2 (fun z => ?_)]
    constructor
    · intro hz
      rcases List.mem_cons.1 ((h z).1 (List.mem_cons_of_mem _ hz)) with e | e
      · have := ha'.1 z hz; omega
      · exact e
    · intro hz
      rcases List.mem_cons.1 ((h z).2 (List.mem_cons_of_mem _ hz)) with e | e
      · have := hb'.1 z hz; omega
      · exact e
theorem up_nodup {l : List Int} (h : UpI l) : l.Nodup := h.imp (fun h => by omega)
theorem sub_len : ∀ {a b : List Int}, a.Nodup → (∀ x ∈ a, x ∈ b) → a.length ≤ b.length
  | [], _, _, _ => Nat.zero_le _
  | x :: a, b, ha, h => by
    have h1 := List.nodup_cons.1 ha
    have hx := h x List.mem_cons_self
    have h2 := sub_len (a := a) (b := b.erase x) h1.2 (fun y hy => by
      have : y ≠ x := fun e => h1.1 (by rw [← e]; exact hy)
      exact (List.mem_erase_of_ne this).2 (h y (List.mem_cons_of_mem _ hy)))
    have h3 := List.length_erase_of_mem hx
    have h4 : 0 < b.length := List.length_pos_of_mem hx
    simp only [List.length_cons]
    omega

structure Hnd where
  ep : Int
  ow : ByteArray
  to : ByteArray
  has : List Int
  next : List Int
  left : List Int
instance : Inhabited Hnd := ⟨⟨0, ⟨#[]⟩, ⟨#[]⟩, [], [], []⟩⟩
def emptyS : ByteArray := ⟨#[]⟩
def nameB (s : ByteArray) : Bool := decide (s ≠ emptyS ∧ s.size ≤ 20)
def newH (ow : ByteArray) : Hnd := ⟨1, ow, emptyS, [], [], []⟩
def wrH (s : Hnd) (ep id : Int) : Hnd × Int :=
  if ep ≠ s.ep then (s, 10) else if id ∈ s.has then (s, 8) else if s.has.length = 1000 then (s, 9)
  else (⟨s.ep, s.ow, s.to, insI s.has id, if s.to = emptyS then s.next else withI s.next id, s.left⟩, 0)
def prepH (s : Hnd) (to : ByteArray) : Hnd × Int :=
  if nameB to = false then (s, 4) else if s.to ≠ emptyS then (s, 11) else if to = s.ow then (s, 8) else (⟨s.ep, s.ow, to, s.has, [], s.has⟩, 0)
def copyH (s : Hnd) (n : Int) : Hnd × (Nat × Int) :=
  if n < 0 then (s, (0, 1)) else if s.to = emptyS then (s, (0, 11))
  else (⟨s.ep, s.ow, s.to, s.has, (s.left.take (min n s.left.length).toNat).foldl withI s.next, s.left.drop (min n s.left.length).toNat⟩, ((s.left.drop (min n s.left.length).toNat).length, 0))
def crashH (s : Hnd) : Hnd := ⟨s.ep, s.ow, emptyS, s.has, [], []⟩
def cutH (s : Hnd) : Hnd × Int :=
  if s.to = emptyS then (s, 11) else if 0 < s.left.length then (s, 13) else (⟨wrap64 (s.ep + 1), s.to, emptyS, s.next, [], []⟩, 0)
def abortH (s : Hnd) : Hnd × Int := if s.to = emptyS then (s, 15) else (crashH s, 0)
def readH (s : Hnd) (ep : Int) : List Int × Int := if ep ≠ s.ep then ([], 10) else (s.has, 0)

/-- what always holds of a hand -/
structure OkH (s : Hnd) : Prop where
  up : UpI s.has
  upn : UpI s.next
  upl : UpI s.left
  len : s.has.length ≤ 1000
  nxt : ∀ x ∈ s.next, x ∈ s.has
  lft : ∀ x ∈ s.left, x ∈ s.has
  all : s.to ≠ emptyS → ∀ x ∈ s.has, x ∈ s.next ∨ x ∈ s.left
  non : s.to = emptyS → s.next = [] ∧ s.left = []
theorem OkH.lenn {s : Hnd} (h : OkH s) : s.next.length ≤ 1000 := Nat.le_trans (sub_len (up_nodup h.upn) h.nxt) h.len
theorem OkH.lenl {s : Hnd} (h : OkH s) : s.left.length ≤ 1000 := Nat.le_trans (sub_len (up_nodup h.upl) h.lft) h.len
theorem okH_new (ow : ByteArray) : OkH (newH ow) := ⟨.nil, .nil, .nil, Nat.zero_le _, fun _ h => h, fun _ h => h, fun h => absurd rfl h, fun _ => ⟨rfl, rfl⟩⟩
theorem okH_wr {s : Hnd} (h : OkH s) (ep id : Int) : OkH (wrH s ep id).1 := by
  unfold wrH
  split
  · exact h
  split
  · exact h
  split
  · exact h
  rename_i h1 h2 h3
  have hl := h.len
  refine ⟨insI_up h.up h2, ?_, h.upl, by simp only [insI_len]; omega, ?_, fun x hx => (insI_mem _ _ _).2 (.inr (h.lft x hx)), ?_, ?_⟩
  · simp only []
    split
    · exact h.upn
    · exact withI_up h.upn _
  · intro x hx
    refine (insI_mem _ _ _).2 ?_
    simp only [] at hx
    split at hx
    · exact .inr (h.nxt x hx)
    · rcases (withI_mem _ _ _).1 hx with e | e
      · exact .inl e
      · exact .inr (h.nxt x e)
  · intro ht x hx
    simp only [] at ht ⊢
    rw [if_neg ht]
    rcases (insI_mem _ _ _).1 hx with rfl | e
    · exact .inl ((withI_mem _ _ _).2 (.inl rfl))
    · rcases h.all ht x e with g | g
      · exact .inl ((withI_mem _ _ _).2 (.inr g))
      · exact .inr g
  · intro ht
    simp only [] at ht ⊢
    rw [if_pos ht]
    exact h.non ht
theorem okH_prep {s : Hnd} (h : OkH s) (to : ByteArray) : OkH (prepH s to).1 := by
  unfold prepH
  split
  · exact h
  split
  · exact h
  split
  · exact h
  rename_i h1 _ _
  refine ⟨h.up, .nil, h.up, h.len, (fun x hx => by cases hx), fun x hx => hx, fun _ x hx => .inr hx, fun ht => ?_⟩
  exfalso
  have h1 : nameB to = true := by simpa using h1
  unfold nameB at h1
  exact (of_decide_eq_true h1).1 ht
theorem fold_withI_up (m : List Int) : ∀ {l : List Int}, UpI l → UpI (m.foldl withI l) := by
  induction m with
  | nil => intro l h; exact h
  | cons x m ih => intro l h; exact ih (withI_up h x)
theorem fold_withI_mem (m : List Int) : ∀ (l : List Int) (y : Int), y ∈ m.foldl withI l ↔ y ∈ m ∨ y ∈ l := by
  induction m with
  | nil => intro l y; simp
  | cons x m ih =>
    intro l y
    rw [List.foldl_cons, ih, withI_mem, List.mem_cons]
    constructor
    · rintro (h | h | h) <;> simp [h]
    · rintro ((h | h) | h) <;> simp [h]
theorem okH_copy {s : Hnd} (h : OkH s) (n : Int) : OkH (copyH s n).1 := by
  unfold copyH
  split
  · exact h
  split
  · exact h
  rename_i h1 h2
  generalize (min n (s.left.length : Int)).toNat = m
  refine ⟨h.up, fold_withI_up _ h.upn, h.upl.sublist (List.drop_sublist _ _), h.len, ?_, fun x hx => h.lft x (List.mem_of_mem_drop hx), ?_, fun ht => absurd ht h2⟩
  · intro x hx
    rcases (fold_withI_mem _ _ _).1 hx with e | e
    · exact h.lft x (List.mem_of_mem_take e)
    · exact h.nxt x e
  · intro _ x hx
    rcases h.all h2 x hx with e | e
    · exact .inl ((fold_withI_mem _ _ _).2 (.inr e))
    · rw [← List.take_append_drop m s.left] at e
      rcases List.mem_append.1 e with g | g
      · exact .inl ((fold_withI_mem _ _ _).2 (.inl g))
      · exact .inr g
theorem okH_crash {s : Hnd} (h : OkH s) : OkH (crashH s) := ⟨h.up, .nil, .nil, h.len, (fun x hx => by cases hx), (fun x hx => by cases hx), fun ht => absurd rfl ht, fun _ => ⟨rfl, rfl⟩⟩
theorem okH_cut {s : Hnd} (h : OkH s) : OkH (cutH s).1 := by
  unfold cutH
  split
  · exact h
  split
  · exact h
  exact ⟨h.upn, .nil, .nil, h.lenn, (fun x hx => by cases hx), (fun x hx => by cases hx), fun ht => absurd rfl ht, fun _ => ⟨rfl, rfl⟩⟩
theorem okH_abort {s : Hnd} (h : OkH s) : OkH (abortH s).1 := by
  unfold abortH
  split
  · exact h
  · exact okH_crash h
/-- a cut that is taken hands over all -/
theorem cut_has {s : Hnd} (h : OkH s) : (cutH s).1.has = s.has := by
  unfold cutH
  split
  · rfl
  split
  · rfl
  rename_i h1 h2
  show s.next = s.has
  refine up_ext h.upn h.up (fun x => ⟨h.nxt x, fun hx => ?_⟩)
  rcases h.all h1 x hx with e | e
  · exact e
  · rw [List.eq_nil_of_length_eq_zero (show s.left.length = 0 by omega)] at e; cases e

/-- a move at a shard -/
structure Mv where
  k : Int
  ep : Int
  id : Int
  to : ByteArray
  n : Int
instance : Inhabited Mv := ⟨⟨0, 0, 0, ⟨#[]⟩, 0⟩⟩
def actH (s : Hnd) (a : Mv) : Hnd × Int :=
  if a.k = 1 then wrH s a.ep a.id else if a.k = 2 then prepH s a.to else if a.k = 3 then ((copyH s a.n).1, (copyH s a.n).2.2) else if a.k = 4 then cutH s else if a.k = 5 then abortH s else (crashH s, 0)
theorem okH_act {s : Hnd} (h : OkH s) (a : Mv) : OkH (actH s a).1 := by
  unfold actH
  split
  · exact okH_wr h _ _
  split
  · exact okH_prep h _
  split
  · exact okH_copy h _
  split
  · exact okH_cut h
  split
  · exact okH_abort h
  · exact okH_crash h
/-- an epoch is one more when an owner goes, and never else -/
theorem act_moved {s : Hnd} {a : Mv} (h : a.k = 4 ∧ (actH s a).2 = 0) : (actH s a).1.ep = wrap64 (s.ep + 1) ∧ (actH s a).1.ow = s.to := by
  obtain ⟨h4, h0⟩ := h
  unfold actH at h0 ⊢
  rw [if_neg (by omega), if_neg (by omega), if_neg (by omega), if_pos h4] at h0 ⊢
  unfold cutH at h0 ⊢
  split
  · rename_i g; rw [if_pos g] at h0; cases h0
  · rename_i g1; rw [if_neg g1] at h0
    split
    · rename_i g; rw [if_pos g] at h0; cases h0
    · exact ⟨rfl, rfl⟩
theorem act_stays {s : Hnd} {a : Mv} (h : ¬ (a.k = 4 ∧ (actH s a).2 = 0)) : (actH s a).1.ep = s.ep ∧ (actH s a).1.ow = s.ow := by
  unfold actH at h ⊢
  split
  · unfold wrH; split
    · exact ⟨rfl, rfl⟩
    split
    · exact ⟨rfl, rfl⟩
    split <;> exact ⟨rfl, rfl⟩
  split
  · unfold prepH; split
    · exact ⟨rfl, rfl⟩
    split
    · exact ⟨rfl, rfl⟩
    split <;> exact ⟨rfl, rfl⟩
  split
  · unfold copyH; split
    · exact ⟨rfl, rfl⟩
    split <;> exact ⟨rfl, rfl⟩
  split
  · rename_i g1 g2 g3 g4
    rw [if_neg g1, if_neg g2, if_neg g3, if_pos g4] at h
    unfold cutH at h ⊢
    split
    · exact ⟨rfl, rfl⟩
    split
    · exact ⟨rfl, rfl⟩
    rename_i g5 g6
    rw [if_neg g5, if_neg g6] at h
    exact absurd ⟨g4, rfl⟩ h
  split
  · unfold abortH; split <;> exact ⟨rfl, rfl⟩
  · exact ⟨rfl, rfl⟩
end Go.Proofs.Ytmfndpkhcejffaa
