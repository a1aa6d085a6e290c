/- Texts of the proof of HouseAcks, joined (by merge.py). Conditions: each theorem's own hypotheses. -/
import Derived.Test.YtihjgbhnlejhfaaGreatDoorHouseAcksP14
import Derived.Lib.ConvBytes
import Derived.Lib.SmallJoins
namespace Go.Proofs.YtihjgbhnlejhfaaGreatDoor
open Go.RowKit

theorem has_bytesS (w : World) (e : TypeId) (s : ByteArray) : Has (Lib.bytesWorld w e s) (Lib.bytesWorld w e s).heap.size (some ⟨w.heap.size, 0, none⟩) (u8s (sb s)) := fun _ => by
  refine ⟨_, rfl, by rw [Lib.bytesWorld_size]; exact Nat.lt_succ_self _, fun j u hu => ?_⟩
  have hadd : (⟨w.heap.size, 0, none⟩ : Addr).add j = ⟨w.heap.size, j, none⟩ := by unfold Addr.add; split <;> simp_all
  have hj : j < s.size := by
    have := (List.getElem?_eq_some_iff.1 hu).1
    rw [u8s_len, sb_len] at this
    exact this
  rw [hadd, Lib.bytesWorld_cell w e s j hj, ← hu]
  have hj' : j < s.data.toList.length := by rw [Array.length_toList]; exact hj
  show some (Value.int .u8 (((s.data.toList.getD j 0).toNat : Nat) : Int)) = ((s.data.toList.map (·.toNat)).map u8v)[j]?
  rw [List.getElem?_map, List.getElem?_map, List.getElem?_eq_getElem hj', List.getD, List.getElem?_eq_getElem hj']
  rfl
theorem below_bytesS {B : Nat} {a w : World} (h : Below B a w) (hB : B ≤ a.heap.size) (e : TypeId) (s : ByteArray) : Below B a (Lib.bytesWorld w e s) := h.trans (Joins.below_bytesWorld B w e s (Nat.le_trans hB h.size))
theorem below_bytesT {a w : World} {e : TypeId} {s : ByteArray} (h : Below a.heap.size a w) : Below a.heap.size a (Lib.bytesWorld w e s) := below_bytesS h (Nat.le_refl _) e s
theorem bytes_later {W W' : World} {e : TypeId} {s : ByteArray} (hb : Below (Lib.bytesWorld W e s).heap.size (Lib.bytesWorld W e s) W') : Has W' W'.heap.size (some ⟨W.heap.size, 0, none⟩) (u8s (sb s)) := (has_bytesS W e s).next hb
theorem below_drewB {B : Nat} {a w : World} (h : Below B a w) : Below B a w.drew := below_drewN h 1
theorem below_drewsB {B : Nat} {a w : World} {n : Nat} (h : Below B a w) : Below B a (w.drewN n) := below_drewN h n
theorem below_allocB {a w : World} {o : Obj} (h : Below a.heap.size a w) : Below a.heap.size a (w.alloc o) := h.alloc h.size o
theorem one_allocB (w : World) (o : Obj) : Below w.heap.size w (w.alloc o) := (Below.refl _ _).alloc (Nat.le_refl _) _
theorem sb_bytes (s : ByteArray) : Bytes (sb s) := sb_lt s
end Go.Proofs.YtihjgbhnlejhfaaGreatDoor
