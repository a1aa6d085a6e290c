/- Bits that are put one behind the other: what the walks of packers share. Conditions: none of its own. -/
import Derived.Test.YtmbpgenjjgepiaaDoorWriter
import Derived.Test.YtmbpgenjjgepiaaDoorI64s
import Derived.Test.YtmbpgenjjgepiaaDoorOwn
namespace Go.Proofs.YtmbpgenjjgepiaaDoor
open Go.RowKit

theorem Has.allocA {w : World} {A : Option Addr} {xs : List Value} (h : Has w w.heap.size A xs) (o : Obj) : Has (w.alloc o) (w.alloc o).heap.size A xs := (h.alloc (Nat.le_refl _) o).more (by simp)
def BitsP (r : (List Nat × Int) × Int) (w : World) (v : Value) (w' : World) : Prop :=
  ∃ A c, v = .tuple #[.agg #[.slice A r.1.1.length c, .int .i64 r.1.2], .int .i64 r.2] ∧ w'.ownsRow w.heap.size 5 1 (.slice A r.1.1.length c) r.1.1.length (u8s r.1.1) ∧ Below w.heap.size w w'
theorem WrAt.alloc {w : World} {base g : Nat} {bs : List Bool} (h : WrAt w base g bs) (o : Obj) : WrAt (w.alloc o) base g bs := by
  obtain ⟨A, c, hB, ho⟩ := h
  exact ⟨A, c, hB.alloc o, ho.alloc o⟩
theorem wput_i (base g : Nat) (bs : List Bool) (v n : Nat) (x y : Int) (hx : x = (v : Int)) (hy : y = (n : Int)) (hv : v < 18446744073709551616) (hn : n ≤ 64) (hlen : bs.length + n ≤ 1099511627776) (w : World) (hg : base ≤ g) (h : WrAt w base g bs) :
    Calls Tryd.prog 23 #[.pointer (some ⟨g, 0, none⟩), .int .u64 x, .int .i64 y] w (R1 (.tuple #[]) (WPut base g bs v n w)) := by
  subst hx hy
  exact wput_any base g bs v n hv hn hlen w hg h
end Go.Proofs.YtmbpgenjjgepiaaDoor
