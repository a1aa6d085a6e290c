/- The sort of a ring's places. No conditions beyond SortC's own. -/
import Derived.Test.YtmbpgenjjgepiaaRgSrt
import Derived.Test.YtmbpgenjjgepiaaShP
import Derived.Sort.LotA
import Derived.Shelf.SlSortCmp.NoneTotal
namespace Go.Proofs.Ytmbpgenjjgepiaa
open Go.RowKit Go.Sort

theorem places1_lays (blk off size : Nat) (w : World) : CmpLays Try.prog 40 #[] encP 2 cfP blk off size w := fun _ _ _ _ x y => places1_any x y _
theorem encP_one (x : Plc) : ∀ v ∈ encP x, v.oneCell' = true := by
  intro v hv
  simp [encP] at hv
  rcases hv with rfl | rfl <;> rfl
theorem sortC : SortC Try.prog := by
  intro w base A n c M hM hn hown hb
  rcases hown.2 with ⟨hv, hn0⟩ | ⟨g, cap, cur, hv, hbg, hgc, h1, h2, h3, h4⟩
  · injection hv with e1 e2 e3
    subst e1 hn0 e3
    obtain rfl : M = [] := List.length_eq_zero_iff.1 hM
    refine (AnyF.slices_SortFunc_none Try.laysSortP none 0 (.func (.func 40) #[] #[]) w).mono ?_
    rintro e w' ⟨rfl, rfl⟩
    exact ⟨rfl, by rw [show plcs [] = [] from List.length_eq_zero_iff.1 (plcs_len [])]; exact hown, Below.refl _ _⟩
  · injection hv with e1 e2 e3
    subst e1 e3
    have eg : ∀ args w, (callFunc 40 args).run Try.prog w = .ok (.enter 40 args) w := enters_of Try.func40 (by kernel_rfl) rfl
    have hH : HoldsK encP 2 w g 0 M.toArray := sortP_holds hM hgc h4
    have hcon := AnyQ.slices_SortFunc Try.laysSortP 2 Try.isAgg57 Try.sizeOf57 encP (fun _ => rfl) encP_one cfP swoP 40 #[] g 0 c M.toArray w eg (places1_lays g 0 _ w) hH (Array.getElem?_eq_some_iff.1 hgc).1 (by simp [hM]; omega)
    rw [List.size_toArray, hM] at hcon
    refine hcon.mono ?_
    rintro e w' ⟨rfl, d', q, os, hp, hs, rfl⟩
    have hu := sorted_unique_holds swoP totP M.toArray d' (by rw [List.size_toArray, hM]; exact hp) (by rw [List.size_toArray, hM]; exact hs)
    have hu : d' = (plcs M).toArray := by rw [← Array.toList_inj]; exact hu
    subst hu
    exact ⟨rfl, sortP_own (by rw [plcs_len, hM]) hbg hgc h1 h2 h3, sortP_below hbg hb⟩

theorem places_any (A : Option Addr) (n c : Nat) (L : List NodE) (hn : L.length = n) (hl : n ≤ 1000) (w : World) (h : Has w w.heap.size A (nodCs L)) (hL : ∀ e ∈ L, NodOk w e) (hs : ∀ e ∈ L, e.t.l.length ≤ 1000) :
    Calls Try.prog 23 #[.slice A n c] w (RV (PlcP L w)) := places_of sortC A n c L hn hl w h hL hs
end Go.Proofs.Ytmbpgenjjgepiaa
