/- Small plain laws on worlds and claims. Conditions: none beyond each theorem's own hypotheses. -/
import Derived.Test.YtokilodekbjpnaaNewerLaw
import Derived.Test.YtokilodekbjpnaaOpenC
import Derived.Deep.RegionHeld3
namespace Go.Proofs.Ytokilodekbjpnaa
open Go.RowKit

theorem below_drew {B : Nat} {a w : World} (h : Below B a w) : Below B a w.drew := below_drewN h 1
theorem Has.drewA {w : World} {A : Option Addr} {xs : List Value} (h : Has w w.heap.size A xs) : Has w.drew w.drew.heap.size A xs := h
theorem Has.drewB {w : World} {A : Option Addr} {xs : List Value} (h : Has w w.heap.size A xs) (n : Nat) : Has (w.drewN n) (w.drewN n).heap.size A xs := h
theorem keep8 {w W : World} {B g h : Nat} {x0 x1 x2 x3 y0 y1 y2 y3 : Value} (k : Below B w W) (hg : g < B) (hh : h < B) (c0 : w.cell? ⟨g, 0, none⟩ = some x0) (c1 : w.cell? ⟨g, 1, none⟩ = some x1) (c2 : w.cell? ⟨g, 2, none⟩ = some x2) (c3 : w.cell? ⟨g, 3, none⟩ = some x3) (c4 : w.cell? ⟨h, 0, none⟩ = some y0) (c5 : w.cell? ⟨h, 1, none⟩ = some y1) (c6 : w.cell? ⟨h, 2, none⟩ = some y2) (c7 : w.cell? ⟨h, 3, none⟩ = some y3) : W.cell? ⟨g, 0, none⟩ = some x0 ∧ W.cell? ⟨g, 1, none⟩ = some x1 ∧ W.cell? ⟨g, 2, none⟩ = some x2 ∧ W.cell? ⟨g, 3, none⟩ = some x3 ∧ W.cell? ⟨h, 0, none⟩ = some y0 ∧ W.cell? ⟨h, 1, none⟩ = some y1 ∧ W.cell? ⟨h, 2, none⟩ = some y2 ∧ W.cell? ⟨h, 3, none⟩ = some y3 :=
  ⟨(k.cell (p := ⟨g, 0, none⟩) hg).trans c0, (k.cell (p := ⟨g, 1, none⟩) hg).trans c1, (k.cell (p := ⟨g, 2, none⟩) hg).trans c2, (k.cell (p := ⟨g, 3, none⟩) hg).trans c3, (k.cell (p := ⟨h, 0, none⟩) hh).trans c4, (k.cell (p := ⟨h, 1, none⟩) hh).trans c5, (k.cell (p := ⟨h, 2, none⟩) hh).trans c6, (k.cell (p := ⟨h, 3, none⟩) hh).trans c7⟩
theorem Blk.far {w : World} {k : Nat} {t : TypeId} {cs : Array Value} (h : Blk w k t cs) (p : Addr) (u : Value) (hne : p.block ≠ k) : Blk (w.setCell p u) k t cs := (Below.heap_setCell w p u k (fun e => hne (by rw [e]))).trans h
abbrev clA (v s : Int) (a : ByteArray) (x : Row) : Array Value := #[.int .i64 v, .int .i64 s, .string a, .slice x.A x.l.length x.c]

end Go.Proofs.Ytokilodekbjpnaa
