/- Texts of the proof of HouseAcks, joined (by merge.py). Conditions: each theorem's own hypotheses. -/
import Derived.Test.YtihjgbhnlejhfaaGreatDoorHouseAcksP12
import Derived.Lib.IndexMore
import Derived.Lib.Strings
namespace Go.Proofs.YtihjgbhnlejhfaaGreatDoor
open Go.RowKit

/-- a label -/
structure Lab where
  nm : ByteArray
  v : ByteArray
deriving DecidableEq
instance : Inhabited Lab := ⟨⟨⟨#[]⟩, ⟨#[]⟩⟩⟩
/-- a match -/
structure Mt where
  k : Int
  nm : ByteArray
  v : ByteArray
deriving DecidableEq
instance : Inhabited Mt := ⟨⟨0, ⟨#[]⟩, ⟨#[]⟩⟩⟩
def noS : ByteArray := ⟨#[]⟩
/-- a string's bytes -/
def sb (s : ByteArray) : List Nat := s.data.toList.map (·.toNat)
theorem sb_len (s : ByteArray) : (sb s).length = s.size := by rw [sb, List.length_map, Array.length_toList]; rfl
theorem sb_lt (s : ByteArray) : ∀ b ∈ sb s, b < 256 := by
  intro b hb
  obtain ⟨x, _, rfl⟩ := List.mem_map.1 hb
  exact x.toNat_lt
theorem sb_at (s : ByteArray) (k : Nat) (h : k < s.size) : at_ (sb s) k = s[k].toNat := by
  have h' : k < (sb s).length := by rw [sb_len]; exact h
  rw [at_eq h']
  simp [sb]; rfl
/-- a letter that a name may have -/
def chOk (c : Nat) : Bool := !((decide (c < 97) || decide (122 < c)) && (decide (c < 48) || decide (57 < c)) && c != 95)
def nameOk (s : ByteArray) : Bool := decide (s ≠ noS) && decide (s.size ≤ 20) && !(decide (48 ≤ at_ (sb s) 0) && decide (at_ (sb s) 0 ≤ 57)) && (sb s).all chOk
theorem nameOk_le {s : ByteArray} (h : nameOk s = true) : s.size ≤ 20 := by
  unfold nameOk at h
  simp only [Bool.and_eq_true, decide_eq_true_eq] at h
  exact h.1.1.2
theorem nameOk_ne {s : ByteArray} (h : nameOk s = true) : s ≠ noS := by
  unfold nameOk at h
  simp only [Bool.and_eq_true, decide_eq_true_eq] at h
  exact h.1.1.1
/-- the first of two errors -/
def fstE (e r : Int) : Int := if e ≠ 0 then e else r
def labErr (last : ByteArray) (x : Lab) : Int := if nameOk x.nm = false then 4 else if ¬ nlt last x.nm then 5 else if 40 < x.v.size then 2 else 0
def chkLGo (last : ByteArray) : List Lab → Int
  | [] => 0
  | x :: l => fstE (labErr last x) (chkLGo x.nm l)
/-- what Check tells of labels -/
def chkL (l : List Lab) : Int := if 10 < l.length then 2 else chkLGo noS l
def mtErr (x : Mt) : Int := if x.k < 1 ∨ 4 < x.k then 1 else if nameOk x.nm = false then 4 else if 40 < x.v.size then 2 else 0
def chkMGo : List Mt → Int
  | [] => 0
  | x :: l => fstE (mtErr x) (chkMGo l)
/-- what CheckMatch tells of matches -/
def chkM (l : List Mt) : Int := if 10 < l.length then 2 else chkMGo l
/-- the value of a name -/
def valL : List Lab → ByteArray → ByteArray
  | [], _ => noS
  | x :: l, a => if x.nm = a then x.v else valL l a
def fitL (l : List Lab) (m : Mt) : Bool :=
  if m.k = 1 then decide (valL l m.nm = m.v) else if m.k = 2 then decide (valL l m.nm ≠ m.v) else if m.k = 3 then Lib.hasPrefix (valL l m.nm).data.toList m.v.data.toList else Lib.contains (valL l m.nm).data.toList m.v.data.toList
/-- do labels fit them all: the answer, and the error -/
def fitsL (l : List Lab) (m : List Mt) : Bool := decide (chkL l = 0) && decide (chkM m = 0) && m.all (fitL l)
def fitsE (l : List Lab) (m : List Mt) : Int := if chkL l ≠ 0 then chkL l else chkM m

theorem fstE_iff {e r : Int} : fstE e r = 0 ↔ e = 0 ∧ r = 0 := by
  unfold fstE
  by_cases h : e = 0
  · rw [if_neg (fun g => g h)]; exact ⟨fun h2 => ⟨h, h2⟩, fun h2 => h2.2⟩
  · rw [if_pos h]; exact ⟨fun h2 => absurd h2 h, fun h2 => h2.1⟩
theorem chkMGo_iff {l : List Mt} : chkMGo l = 0 ↔ ∀ x ∈ l, mtErr x = 0 := by
  induction l with
  | nil => simp [chkMGo]
  | cons x l ih => rw [chkMGo, fstE_iff, ih]; simp
theorem chkM_iff {l : List Mt} : chkM l = 0 ↔ l.length ≤ 10 ∧ ∀ x ∈ l, mtErr x = 0 := by
  unfold chkM
  by_cases h : 10 < l.length
  · rw [if_pos h]
    constructor
    · intro g; cases g
    · intro g; omega
  · rw [if_neg h, chkMGo_iff]; exact ⟨fun g => ⟨by omega, g⟩, fun g => g.2⟩
theorem mtErr_iff {x : Mt} : mtErr x = 0 ↔ (1 ≤ x.k ∧ x.k ≤ 4) ∧ nameOk x.nm = true ∧ x.v.size ≤ 40 := by
  unfold mtErr
  by_cases h1 : x.k < 1 ∨ 4 < x.k
  · rw [if_pos h1]
    constructor
    · intro g; cases g
    · intro g; omega
  · rw [if_neg h1]
    cases h2 : nameOk x.nm with
    | false =>
      rw [if_pos rfl]
      constructor
      · intro g; cases g
      · intro g; cases g.2.1
    | true =>
      rw [if_neg (by decide)]
      by_cases h3 : 40 < x.v.size
      · rw [if_pos h3]
        constructor
        · intro g; cases g
        · intro g; omega
      · rw [if_neg h3]; exact ⟨fun _ => ⟨by omega, rfl, by omega⟩, fun _ => rfl⟩
theorem labErr_iff {last : ByteArray} {x : Lab} : labErr last x = 0 ↔ nameOk x.nm = true ∧ nlt last x.nm ∧ x.v.size ≤ 40 := by
  unfold labErr
  cases h2 : nameOk x.nm with
  | false =>
    rw [if_pos rfl]
    constructor
    · intro g; cases g
    · intro g; cases g.1
  | true =>
    rw [if_neg (by decide)]
    by_cases h3 : nlt last x.nm
    · rw [if_neg (fun g => g h3)]
      by_cases h4 : 40 < x.v.size
      · rw [if_pos h4]
        constructor
        · intro g; cases g
        · intro g; omega
      · rw [if_neg h4]; exact ⟨fun _ => ⟨rfl, h3, by omega⟩, fun _ => rfl⟩
    · rw [if_pos h3]
      constructor
      · intro g; cases g
      · intro g; exact absurd g.2.1 h3
theorem chkLGo_iff {l : List Lab} : ∀ {last : ByteArray}, chkLGo last l = 0 ↔ (∀ x ∈ l, nameOk x.nm = true ∧ x.v.size ≤ 40) ∧ (last :: l.map (·.nm)).Pairwise nlt := by
  induction l with
  | nil => intro last; simp [chkLGo]
  | cons x l ih =>
    intro last
    rw [chkLGo, fstE_iff, labErr_iff, ih]
    simp only [List.map_cons, List.pairwise_cons, List.mem_cons, forall_eq_or_imp]
    constructor
    · rintro ⟨⟨h1, h2, h3⟩, h4, h5, h6⟩
      exact ⟨⟨⟨h1, h3⟩, h4⟩, ⟨h2, fun a ha => nlt_trans h2 (h5 a ha)⟩, h5, h6⟩
    · rintro ⟨⟨⟨h1, h3⟩, h4⟩, ⟨h2, _⟩, h5, h6⟩
      exact ⟨⟨h1, h2, h3⟩, h4, h5, h6⟩
theorem nlt_noS {a : ByteArray} (h : a ≠ noS) : nlt noS a := by
  unfold nlt
  rw [Lib.toList_data, show noS.data.toList = [] from rfl]
  cases hl : a.toList with
  | nil => exact absurd (bytes_ext (by rw [hl, Lib.toList_data]; rfl)) h
  | cons x l => exact List.nil_lt_cons _ _
theorem chkL_iff {l : List Lab} : chkL l = 0 ↔ l.length ≤ 10 ∧ (∀ x ∈ l, nameOk x.nm = true ∧ x.v.size ≤ 40) ∧ (l.map (·.nm)).Pairwise nlt := by
  unfold chkL
  by_cases h : 10 < l.length
  · rw [if_pos h]
    constructor
    · intro g; cases g
    · intro g; omega
  · rw [if_neg h, chkLGo_iff, List.pairwise_cons]
    constructor
    · rintro ⟨h1, _, h2⟩; exact ⟨by omega, h1, h2⟩
    · rintro ⟨_, h1, h2⟩
      refine ⟨h1, fun a ha => ?_, h2⟩
      obtain ⟨x, hx, rfl⟩ := List.mem_map.1 ha
      exact nlt_noS (nameOk_ne (h1 x hx).1)
theorem valL_le {l : List Lab} (h : ∀ x ∈ l, x.v.size ≤ 40) (a : ByteArray) : (valL l a).size ≤ 40 := by
  induction l with
  | nil => exact Nat.zero_le _
  | cons x l ih =>
    unfold valL
    split
    · exact h x (List.mem_cons_self ..)
    · exact ih (fun y hy => h y (List.mem_cons_of_mem _ hy))
end Go.Proofs.YtihjgbhnlejhfaaGreatDoor
