/- Slices of claims, and what Merge and sameClaims give of them. Conditions: none beyond each theorem's own hypotheses. -/
import Derived.Test.YtokilodekbjpnaaMergeC
import Derived.Test.YtokilodekbjpnaaKeepC
import Derived.Test.YtokilodekbjpnaaGood
namespace Go.Proofs.Ytokilodekbjpnaa
open Go.RowKit

/-- a slice of claims in its cells -/
def LsAt (w : World) (A : Option Addr) (n c : Nat) (L : List ClE) : Prop := L.length = n ∧ n ≤ c ∧ c ≤ maxLen ∧ Has w w.heap.size A (clCs L) ∧ ∀ e ∈ L, e.t.ok w
theorem LsAt.next {w w' : World} {A : Option Addr} {n c : Nat} {L : List ClE} (h : LsAt w A n c L) (hb : Below w.heap.size w w') : LsAt w' A n c L :=
  ⟨h.1, h.2.1, h.2.2.1, h.2.2.2.1.next hb, fun e he => (h.2.2.2.2 e he).next hb⟩
theorem LsAt.drewN {w : World} {A : Option Addr} {n c : Nat} {L : List ClE} (h : LsAt w A n c L) (k : Nat) : LsAt (w.drewN k) A n c L := h.next (below_drewN (Below.refl _ _) k)
theorem LsAt.of {w : World} {B c : Nat} {A : Option Addr} {O : List ClE} (h : w.ownsRow B 34 4 (.slice A O.length c) O.length (clCs O)) (hr : RowsOwn w B O) : LsAt w A O.length c O :=
  ⟨rfl, (own_len h).1, (own_len h).2, Has.of_own h, hr.good⟩
def MergeQ (r : List Clm × Int) (w : World) (v : Value) (w' : World) : Prop :=
  ∃ (O : List ClE) (A : Option Addr) (c : Nat), v = .tuple #[.slice A O.length c, .int .i64 r.2] ∧ O.map ClE.x = r.1 ∧ LsAt w' A O.length c O ∧ Below w.heap.size w w'
theorem cmergeQ {A B : Option Addr} {n c m d : Nat} {L M : List ClE} {a b : List Clm} {r : List Clm × Int} (w : World) (ha : L.map ClE.x = a) (hb : M.map ClE.x = b) (hr : mergeN a b = r) (hL : LsAt w A n c L) (hM : LsAt w B m d M) :
    Calls Try.prog 22 #[.slice A n c, .slice B m d] w (RV (MergeQ r w)) := by
  subst ha hb hr
  refine (cmerge_any A n c L hL.1 hL.2.1 hL.2.2.1 B m d M hM.1 hM.2.1 hM.2.2.1 w hL.2.2.2.1 hM.2.2.2.1 hL.2.2.2.2 hM.2.2.2.2).mono ?_
  rintro e w' ⟨v, rfl, O, A', c', rfl, h1, h2, h3, h4⟩
  exact RV.mk ⟨O, A', c', rfl, h1, LsAt.of h2 h3, h4⟩
theorem sameQ {A B : Option Addr} {n c m d : Nat} {L M : List ClE} {r : Bool} (w : World) (hr : decide (L.map ClE.x = M.map ClE.x) = r) (hL : LsAt w A n c L) (hM : LsAt w B m d M) :
    Calls Try.prog 19 #[.slice A n c, .slice B m d] w (R1 (.bool r) (Below w.heap.size w)) := by
  subst hr
  exact sameClaims_any A B n m c d L M hL.1 hM.1 (Nat.le_trans hL.2.1 hL.2.2.1) (Nat.le_trans hM.2.1 hM.2.2.1) w hL.2.2.2.1 hM.2.2.2.1 hL.2.2.2.2 hM.2.2.2.2

theorem lat_bad {a b : List Clm} (h : (mergeN a b).2 ≠ 0) : (mergeN b a).2 ≠ 0 ∧ (mergeN a b).1 = [] ∧ (mergeN b a).1 = [] := by
  have h2 : (mergeN b a).2 ≠ 0 := fun e => h (mergeN_comm_zero.1 e)
  exact ⟨h2, mergeN_bad h, mergeN_bad h2⟩
theorem lat_ok {a b : List Clm} (h : (mergeN a b).2 = 0) : mergeN b a = mergeN a b ∧ mergeN (mergeN a b).1 b = mergeN a b := by
  have h2 : (mergeN b a).2 = 0 := mergeN_comm_zero.1 h
  obtain ⟨ka, kb, kl⟩ := mergeN_zero.1 h
  have ua := (checkC_zero.1 ka).2.2
  have ub := (checkC_zero.1 kb).2.2
  rw [mergeN_ok h, mergeN_ok h2, mergeC_comm ub ua]
  refine ⟨rfl, ?_⟩
  have hz : (mergeN (mergeC a b) b).2 = 0 := mergeN_zero.2 ⟨mergeC_ok ka kb kl, kb, by rw [mergeC_again ua ub]; exact kl⟩
  rw [mergeN_ok hz, mergeC_again ua ub]
theorem lat_assoc {a b c : List Clm} (h0 : (mergeN a b).2 = 0) (h1 : (mergeN b c).2 = 0) (h2 : (mergeN (mergeN a b).1 c).2 = 0) (h3 : (mergeN a (mergeN b c).1).2 = 0) : (mergeN (mergeN a b).1 c).1 = (mergeN a (mergeN b c).1).1 := by
  obtain ⟨ka, kb, _⟩ := mergeN_zero.1 h0
  obtain ⟨_, kc, _⟩ := mergeN_zero.1 h1
  rw [mergeN_ok h2, mergeN_ok h3, mergeN_ok h0, mergeN_ok h1]
  exact mergeC_assoc (checkC_zero.1 ka).2.2 (checkC_zero.1 kb).2.2 (checkC_zero.1 kc).2.2

end Go.Proofs.Ytokilodekbjpnaa
