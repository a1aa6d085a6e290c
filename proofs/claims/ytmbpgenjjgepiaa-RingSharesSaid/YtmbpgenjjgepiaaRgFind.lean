/- What find of package ring finds. Conditions: nodes lie in their cells. -/
import Derived.Test.YtmbpgenjjgepiaaRgChk
namespace Go.Proofs.Ytmbpgenjjgepiaa
open Go.RowKit

theorem name_eq (a b : ByteArray) : (a.toList == b.toList) = decide (a = b) := by
  by_cases h : a = b
  · rw [h, decide_eq_true rfl, beq_iff_eq]
  · rw [decide_eq_false h, beq_eq_false_iff_ne]; exact fun e => h (bytes_ext e)

set_option maxRecDepth 1000000 in
set_option maxHeartbeats 1000000 in
theorem find1_any (nm name : ByteArray) (T : Option Addr) (p tc b : Nat) (w : World) (hb : w.cell? ⟨b, 0, none⟩ = some (.string name)) :
    Calls Try.prog 44 #[.agg #[.string nm, .slice T p tc], .pointer (some ⟨b, 0, none⟩)] w (R1 (.bool (decide (nm = name))) (Below w.heap.size w)) := by
  have e := Lib.hid (name_eq nm name)
  have hlt : b < w.heap.size := World.block_lt_of_cell? w ⟨b, 0, none⟩ hb
  have hne : b ≠ w.heap.size := by omega
  have hne2 : w.heap.size ≠ b := by omega
  go_enter Try.func44, Try.ntmps44
  go_wp2_with fail
  go_ret
  exact R1.mk (by first | (rw [← e.out]; done) | (simp [e.out]) | (rw [← e.out]; rfl)) ((Below.refl _ _).alloc (Nat.le_refl _) _)

/-- where a node of a name stands first -/
def FindP (L : List NodE) (name : ByteArray) (v : Value) : Prop :=
  (∃ i : Nat, v = .int .i64 (i : Nat) ∧ i < L.length ∧ (at_ L i).nm = name ∧ ∀ q, q < i → (at_ L q).nm ≠ name) ∨ (v = .int .i64 (-1) ∧ ∀ q, q < L.length → (at_ L q).nm ≠ name)

set_option maxRecDepth 1000000 in
set_option maxHeartbeats 4000000 in
theorem indexNode_any (A : Option Addr) (n c : Nat) (L : List NodE) (hn : L.length = n) (hl : n ≤ maxLen) (name : ByteArray) (b : Nat) (w : World) (h : Has w w.heap.size A (nodCs L)) (hb : w.cell? ⟨b, 0, none⟩ = some (.string name)) :
    Calls Try.prog 26 #[.slice A n c, .func (.func 44) #[] #[.pointer (some ⟨b, 0, none⟩)]] w (RV fun v w' => FindP L name v ∧ Below w.heap.size w w') := by
  unfold maxLen at hl
  have Hn := Lib.hid hn
  have Hh := Lib.hid h
  have Hb := Lib.hid hb
  have hblt : b < w.heap.size := World.block_lt_of_cell? w ⟨b, 0, none⟩ hb
  clear hn h hb
  go_enter Try.func26, Try.ntmps26
  go_wp2_with fail
  go_loopw [8] (fun iv wr => ∃ k : Nat, k ≤ n ∧ iv = .int .i64 (k : Nat) ∧ Hid (∀ q, q < k → (at_ L q).nm ≠ name) ∧ Below w.heap.size w wr) (fun iv _ => n + 5 - (intOf iv).toNat)
  case atStart => exact ⟨0, by omega, rfl, Lib.hid (fun q hq => by omega), Below.refl _ _⟩
  case round =>
    obtain ⟨k, hk, rfl, hq, hbr⟩ := hrel
    by_cases hlt : (k : Int) < (n : Int)
    · have hkL : k < L.length := by rw [Hn.out]; omega
      obtain ⟨ad, rfl, _, c0⟩ := (Hh.out.next hbr).at (nodCs_0 hkL)
      obtain ⟨ad', e', _, c1⟩ := (Hh.out.next hbr).at (nodCs_1 hkL)
      injection e' with e'
      subst e'
      have c1 := cell_off c1 (by decide)
      obtain ⟨x, hx⟩ : ∃ x, at_ L k = x := ⟨_, rfl⟩
      rw [hx] at c0 c1
      obtain ⟨nm, ⟨T, tc, tl⟩⟩ := x
      simp only [] at c0 c1
      have Hx := Lib.hid hx
      have h0k : (0 : Int) ≤ (k : Int) := by omega
      have HF := Lib.hid (find1_any nm name T tl.length tc b wr ((hbr.cell (p := ⟨b, 0, none⟩) hblt).trans Hb.out))
      have hbs := hbr.size
      clear hx
      go_wp2_with fail
      refine HF.out.mono ?_
      rintro e9 w2 ⟨rfl, hb2⟩
      have hb02 := hbr.trans (hb2.mono hbs)
      by_cases hnm : nm = name
      · have HP := Lib.hid (show FindP L name (.int .i64 (k : Nat)) from .inl ⟨k, rfl, hkL, by rw [Hx.out]; exact hnm, hq.out⟩)
        have hd : decide (nm = name) = true := decide_eq_true hnm
        clear hnm
        rw [hd]
        go_wp2_with fail
        go_ret
        exact RV.mk ⟨HP.out, hb02⟩
      · have hd : decide (nm = name) = false := decide_eq_false hnm
        have Hnm := Lib.hid hnm
        clear hnm
        rw [hd]
        go_wp2_with fail
        go_roundw
        case rel => exact ⟨k + 1, by omega, by go_num, Lib.hid (fun q hq2 => by
          rcases Nat.lt_or_ge q k with g | g
          · exact hq.out q g
          · obtain rfl : q = k := by omega
            rw [Hx.out]; exact Hnm.out), hb02⟩
        case measure => simp [intOf]; omega
    · obtain rfl : k = n := by omega
      have HP := Lib.hid (show FindP L name (.int .i64 (-1)) from .inr ⟨rfl, fun q hq2 => hq.out q (by rw [← Hn.out]; exact hq2)⟩)
      go_wp2_with fail
      go_ret
      exact RV.mk ⟨HP.out, hbr⟩

set_option maxRecDepth 1000000 in
set_option maxHeartbeats 1000000 in
theorem find_any (A : Option Addr) (n c : Nat) (L : List NodE) (hn : L.length = n) (hl : n ≤ maxLen) (name : ByteArray) (w : World) (h : Has w w.heap.size A (nodCs L)) :
    Calls Try.prog 27 #[.slice A n c, .string name] w (RV fun v w' => FindP L name v ∧ Below w.heap.size w w') := by
  have hb1 : Below w.heap.size w (w.alloc (.cells #[.string name] 9)) := (Below.refl _ _).alloc (Nat.le_refl _) _
  have hk1 : Blk (w.alloc (.cells #[.string name] 9)) w.heap.size 9 #[.string name] := Blk.new _ _ _
  have HI := Lib.hid (indexNode_any A n c L hn hl name w.heap.size _ (h.next hb1) (hk1.cell 0))
  clear hn h hk1
  go_enter Try.func27, Try.ntmps27
  go_wp2_with fail
  refine HI.out.mono ?_
  rintro e9 w2 ⟨v, rfl, hp, hb2⟩
  have HP := Lib.hid hp
  clear hp
  go_wp2_with fail
  go_ret
  exact RV.mk ⟨HP.out, bnext hb1 hb2⟩
end Go.Proofs.Ytmbpgenjjgepiaa
