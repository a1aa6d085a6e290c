/- What Owners answers, told plainly: its first owners; plain law. No conditions. -/
import Derived.Test.YtmbpgenjjgepiaaRgRings
import Derived.Test.YtmbpgenjjgepiaaRgUq
import Derived.Test.YtmbpgenjjgepiaaEqS
namespace Go.Proofs.Ytmbpgenjjgepiaa
open Go.RowKit Go.Sort

theorem nodOk_tk {w : World} {l : List NodE} (_hL : ∀ e ∈ l, NodOk w e) (h : chkR (l.map NodE.x) = 0) : l.length ≤ 1000 ∧ ∀ e ∈ l, e.t.l.length ≤ 1000 := by
  have h1 := chkR_iff.1 h
  have h2 := h1.1
  rw [List.length_map] at h2
  exact ⟨by omega, fun e he => by have h3 : e.t.l.length ≤ 20 := (h1.2.1 e.x (List.mem_map.2 ⟨e, he, rfl⟩)).2.2.1; omega⟩
/-- all owners of a number, in order -/
def ownAll (l : List Nod) (a : Nat) : List ByteArray := ownU (plcs (plAll l)) a
/-- what Owners answers, plainly -/
def OwnersQ (l : List Nod) (a : Nat) (m : Int) (w : World) (v : Value) (w' : World) : Prop :=
  ∃ A' n' c' o e, v = .tuple #[.slice A' n' c', .int .i64 e] ∧ n' = o.length ∧ w'.ownsRow w.heap.size 9 1 (.slice A' n' c') n' (strCs o) ∧ Below w.heap.size w w' ∧
    ((chkR l ≠ 0 ∧ e = chkR l ∧ o = []) ∨ (chkR l = 0 ∧ m < 0 ∧ e = 1 ∧ o = []) ∨ (chkR l = 0 ∧ 0 ≤ m ∧ e = 0 ∧ o = (ownAll l a).take m.toNat))
theorem ownersQ_any (A : Option Addr) (n c : Nat) (L : List NodE) (hn : L.length = n) (hl : n ≤ maxLen) (a : Nat) (m : Int) (w : World) (h : Has w w.heap.size A (nodCs L)) (hL : ∀ e ∈ L, NodOk w e) :
    Calls Try.prog 9 #[.slice A n c, .int .u64 (a : Nat), .int .i64 m] w (RV (OwnersQ (L.map NodE.x) a m w)) := by
  refine (owners_any A n c L hn hl a m w h hL (fun h0 => by have := nodOk_tk hL h0; rw [hn] at this; exact this)).mono ?_
  rintro e w' ⟨v, rfl, A', n', c', o, er, hv, hn', hown, hb, hc⟩
  refine RV.mk ⟨A', n', c', o, er, hv, hn', hown, hb, ?_⟩
  rcases hc with hc | hc | ⟨h1, h2, h3, i, hf, ho⟩
  · exact .inl hc
  · exact .inr (.inl hc)
  · exact .inr (.inr ⟨h1, h2, h3, by rw [ho]; exact ownGo_all hf _ _ (plcs_len _).symm⟩)
end Go.Proofs.Ytmbpgenjjgepiaa
