/- What quoted of package label makes. Conditions: the text is short. -/
import Derived.Test.YtmfndpkhcejffaaGreatDoorRpAll
namespace Go.Proofs.YtmfndpkhcejffaaGreatDoor
open Go.RowKit

def quoB (s : ByteArray) : ByteArray := (⟨#[34]⟩ : ByteArray) ++ bsOf (repL (sb s)) ++ (⟨#[34]⟩ : ByteArray)
theorem bsOf_size (l : List Nat) : (bsOf l).size = l.length := by
  unfold bsOf strOfNums ByteArray.size
  simp
theorem quoB_size (s : ByteArray) : (quoB s).size ≤ 2 * s.size + 2 := by
  unfold quoB
  rw [ByteArray.size_append, ByteArray.size_append, bsOf_size, repL_len]
  have := cntS_le (sb s)
  rw [sb_len] at this ⊢
  show 1 + (s.size + cntS (sb s)) + 1 ≤ _
  omega
set_option maxRecDepth 1000000 in
set_option maxHeartbeats 4000000 in
theorem lquoted_any (s : ByteArray) (hs : s.size ≤ 4294967296) (w : World) : Calls Tryz.prog 20 #[.string s] w (R1 (.string (quoB s)) (Below w.heap.size w)) := by
  have hw : ∃ W1, w.alloc (.cells #[.string ⟨#[92]⟩, .string ⟨#[92, 92]⟩, .string ⟨#[34]⟩, .string ⟨#[92, 34]⟩, .string ⟨#[10]⟩, .string ⟨#[92, 110]⟩] 9) = W1 := ⟨_, rfl⟩
  obtain ⟨W1, hW1⟩ := hw
  have hB : Blk W1 w.heap.size 9 #[.string ⟨#[92]⟩, .string ⟨#[92, 92]⟩, .string ⟨#[34]⟩, .string ⟨#[92, 34]⟩, .string ⟨#[10]⟩, .string ⟨#[92, 110]⟩] := by rw [← hW1]; exact Blk.new _ _ _
  have hb1 : Below w.heap.size w W1 := by rw [← hW1]; exact one_allocP _ _
  have hHas : Has W1 W1.heap.size (some ⟨w.heap.size, 0, none⟩) (strCs rpPairs) := fun _ => by
    refine ⟨_, rfl, hB.lt, fun j u hu => ?_⟩
    rw [show (⟨w.heap.size, 0, none⟩ : Addr).add j = ⟨w.heap.size, j, none⟩ from by unfold Addr.add; split <;> simp_all, hB.cell j]
    rw [← Array.getElem?_toList]
    exact hu
  have HN := Lib.hid (newReplacer_any (some ⟨w.heap.size, 0, none⟩) 6 W1 hHas)
  have HW := Lib.hid hW1
  clear hW1 hB hHas
  go_enter Tryz.func20, Tryz.ntmps20
  go_wp2_with fail
  rw [HW.out]
  refine HN.out.mono ?_
  rintro e w2 ⟨v, rfl, hN⟩
  have hb2 : Below W1.heap.size W1 w2 := by
    obtain ⟨g, o, c, _, _, _, _, _, _, h⟩ := hN
    exact h
  have hRR := rrep_any W1 w2 v hb2 hN s hs
  have hq := quoB_size s
  unfold quoB at hq
  obtain ⟨R, hR⟩ : ∃ R, bsOf (repL (sb s)) = R := ⟨_, rfl⟩
  rw [hR] at hRR hq
  have HQ := Lib.hid hR
  rw [ByteArray.size_append, ByteArray.size_append] at hq
  have hq2 : R.size ≤ 9000000000 := by omega
  have HR := Lib.hid hRR
  clear hq hR hRR
  clear hN
  go_wp2_with fail
  refine HR.out.mono ?_
  rintro e w3 ⟨rfl, hb3⟩
  go_wp2_with fail
  go_ret
  exact R1.mk (by rw [quoB, HQ.out]; rfl) (bnext hb1 hb3)
end Go.Proofs.YtmfndpkhcejffaaGreatDoor
