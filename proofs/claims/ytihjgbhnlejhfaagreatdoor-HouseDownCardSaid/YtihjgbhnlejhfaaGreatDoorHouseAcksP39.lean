/- Texts of the proof of HouseAcks, joined (by merge.py). Conditions: each theorem's own hypotheses. -/
import Derived.Test.YtihjgbhnlejhfaaGreatDoorHouseAcksP3
import Derived.Test.YtihjgbhnlejhfaaGreatDoorHouseAcksP18
import Derived.Test.YtihjgbhnlejhfaaGreatDoorHouseAcksP37
import Derived.Test.YtihjgbhnlejhfaaGreatDoorHouseAcksP38
namespace Go.Proofs.YtihjgbhnlejhfaaGreatDoor

/-- a peer: its name, what its store took (all synced), whether it is up -/
structure Peer where
  nm : ByteArray
  qs : List Pt
  up : Bool
/-- a house -/
structure Hse where
  nodes : List Nod
  copies : Nat
  write : Nat
  read : Nat
  ps : List Peer
def Peer.st (p : Peer) : StD := (runN ([], []) p.qs).1
def Peer.dk (p : Peer) : List Nat := (runN ([], []) p.qs).2
def findP (ps : List Peer) (nm : ByteArray) : Option Peer := ps.find? fun p : Peer => decide (p.nm = nm)
def upP' (ps : List Peer) (nm : ByteArray) : Bool := match findP ps nm with | none => false | some p => p.up
/-- the number of a key -/
def keyN (key : ByteArray) : Nat := ofN 0 (sb key)
/-- who owns a key, up or not -/
def ownK (nodes : List Nod) (copies : Nat) (key : ByteArray) : List ByteArray := (ownAll nodes (keyN key)).take copies
/-- who of them is up -/
def liveK (nodes : List Nod) (copies : Nat) (ps : List Peer) (key : ByteArray) : List ByteArray := (ownK nodes copies key).filter (upP' ps)
def isIn (names : List ByteArray) (nm : ByteArray) : Bool := names.any fun n => decide (n = nm)
theorem isIn_iff {names : List ByteArray} {nm : ByteArray} : isIn names nm = true ↔ nm ∈ names := by
  unfold isIn
  rw [List.any_eq_true]
  constructor
  · rintro ⟨n, h1, h2⟩; rw [← of_decide_eq_true h2]; exact h1
  · intro h; exact ⟨nm, h, decide_eq_true rfl⟩
/-- one more put at some peers -/
def addAt (ps : List Peer) (names : List ByteArray) (q : Pt) : List Peer := ps.map fun p : Peer => if isIn names p.nm then { p with qs := p.qs ++ [q] } else p
/-- Put: how many took it, its error, the house behind it -/
def putH (h : Hse) (L : List Lab) (x : Smp) : Hse × Nat × Int :=
  if (encN L x).2 ≠ 0 then (h, 0, (encN L x).2) else
  let l := liveK h.nodes h.copies h.ps (txL L)
  ({ h with ps := addAt h.ps l (L, x) }, l.length, if l.length < h.write then 13 else 0)
/-- what a peer has of a key -/
def hasK (p : Peer) (key : ByteArray) : List Smp := match findSt p.st key with | none => [] | some y => y.2
def hasN (ps : List Peer) (key nm : ByteArray) : List Smp := match findP ps nm with | none => [] | some p => hasK p key
/-- what is read of a key -/
def getK (h : Hse) (key : ByteArray) : Option (List Smp) :=
  let l := liveK h.nodes h.copies h.ps key
  if l.length < h.read then none else some (l.foldl (fun out nm => mergeUp out (hasN h.ps key nm)) [])
/-- what a peer lacks of samples -/
def lacks (had : List Smp) (all : List Smp) : List Smp := all.filter fun x => match look had x.t with | none => true | some v => decide (v < x.v)
/-- give samples of labels to some peers -/
def giveTo (ps : List Peer) (names : List ByteArray) (L : List Lab) (all : List Smp) : List Peer :=
  ps.map fun p : Peer => if isIn names p.nm then { p with qs := p.qs ++ (lacks (hasK p (txL L)) all).map fun x => (L, x) } else p
def setUp (ps : List Peer) (nm : ByteArray) (up : Bool) : List Peer := ps.map fun p : Peer => if p.nm = nm then { p with up := up } else p
theorem find_setUp (ps : List Peer) (nm : ByteArray) (up : Bool) (k : ByteArray) : findP (setUp ps nm up) k = (findP ps k).map fun p => if p.nm = nm then { p with up := up } else p := by
  unfold findP setUp
  induction ps with
  | nil => rfl
  | cons p ps ih =>
    rw [List.map_cons, List.find?_cons, List.find?_cons]
    have e : (if p.nm = nm then { p with up := up } else p).nm = p.nm := by split <;> rfl
    rw [e]
    by_cases h : p.nm = k
    · simp [h]
    · simp only [h, decide_false]
      exact ih
theorem live_sub (nodes : List Nod) (copies : Nat) (ps : List Peer) (key : ByteArray) : (liveK nodes copies ps key).length ≤ copies := by
  unfold liveK ownK
  exact Nat.le_trans (List.length_filter_le _ _) (by rw [List.length_take]; exact Nat.min_le_left _ _)
/-- a put is taken by no more than the copies, and has no error just if by enough -/
theorem put_acks (h : Hse) (L : List Lab) (x : Smp) : let r := putH h L x; (r.2.2 ≠ 0 ∧ r.2.2 ≠ 13 → r.2.1 = 0) ∧ r.2.1 ≤ h.copies ∧ (encN L x = (recN L x, 0) → (r.2.2 = 0 ↔ h.write ≤ r.2.1)) := by
  unfold putH
  by_cases he : (encN L x).2 ≠ 0
  · rw [if_pos he]
    exact ⟨fun _ => rfl, Nat.zero_le _, fun e => absurd (by rw [e]) he⟩
  · rw [if_neg he]
    refine ⟨fun hh => ?_, live_sub _ _ _ _, fun _ => ?_⟩
    · exfalso
      obtain ⟨h1, h2⟩ := hh
      simp only [] at h1 h2
      split at h1
      · rename_i h3
        rw [if_pos h3] at h2
        exact h2 rfl
      · exact h1 rfl
    · simp only []
      split
      · rename_i h3
        constructor
        · intro h4; cases h4
        · intro h4; omega
      · rename_i h3
        exact ⟨fun _ => by omega, fun _ => rfl⟩
end Go.Proofs.YtihjgbhnlejhfaaGreatDoor
