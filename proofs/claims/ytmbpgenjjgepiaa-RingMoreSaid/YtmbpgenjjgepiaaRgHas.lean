/- RingMore's question: has a node of this name tokens? Conditions: nodes lie in their cells, and one is so. -/
import Derived.Test.YtmbpgenjjgepiaaRgFind
namespace Go.Proofs.Ytmbpgenjjgepiaa
open Go.RowKit

def hasTk (x : NodE) (name : ByteArray) : Bool := decide (x.nm = name) && decide (0 < x.t.l.length)
set_option maxRecDepth 1000000 in
set_option maxHeartbeats 1000000 in
theorem more1_any (nm name : ByteArray) (T : Option Addr) (tl : List Nat) (p tc b : Nat) (hp : tl.length = p) (w : World) (hb : w.cell? ⟨b, 0, none⟩ = some (.string name)) :
    Calls Try.prog 13 #[.agg #[.string nm, .slice T p tc], .pointer (some ⟨b, 0, none⟩)] w (R1 (.bool (hasTk ⟨nm, ⟨T, tc, tl⟩⟩ name)) (Below w.heap.size w)) := by
  have hlt : b < w.heap.size := World.block_lt_of_cell? w ⟨b, 0, none⟩ hb
  have hne : b ≠ w.heap.size := by omega
  have hne2 : w.heap.size ≠ b := by omega
  by_cases h : nm = name
  · subst h
    have f1 : (nm.toList == nm.toList) = true := by rw [beq_iff_eq]
    by_cases h0 : 0 < p
    · have d0 : decide (0 < p) = true := decide_eq_true h0
      have E := Lib.hid (show hasTk ⟨nm, ⟨T, tc, tl⟩⟩ nm = true by unfold hasTk; rw [decide_eq_true rfl, decide_eq_true (by rw [hp]; omega)]; rfl)
      rw [E.out]
      go_enter Try.func13, Try.ntmps13
      go_wp2_with fail
      go_ret
      exact R1.mk rfl ((Below.refl _ _).alloc (Nat.le_refl _) _)
    · have d0 : decide (0 < p) = false := decide_eq_false h0
      have E := Lib.hid (show hasTk ⟨nm, ⟨T, tc, tl⟩⟩ nm = false by unfold hasTk; rw [decide_eq_true rfl, decide_eq_false (by rw [hp]; omega)]; rfl)
      rw [E.out]
      go_enter Try.func13, Try.ntmps13
      go_wp2_with fail
      go_ret
      exact R1.mk rfl ((Below.refl _ _).alloc (Nat.le_refl _) _)
  · have E := Lib.hid (show hasTk ⟨nm, ⟨T, tc, tl⟩⟩ name = false by unfold hasTk; rw [decide_eq_false h]; rfl)
    have f1 : (nm.toList == name.toList) = false := by rw [name_eq, decide_eq_false h]
    clear h
    rw [E.out]
    go_enter Try.func13, Try.ntmps13
    go_wp2_with fail
    go_ret
    exact R1.mk rfl ((Below.refl _ _).alloc (Nat.le_refl _) _)

set_option maxRecDepth 1000000 in
set_option maxHeartbeats 4000000 in
theorem indexTk_any (A : Option Addr) (n c : Nat) (L : List NodE) (hn : L.length = n) (hl : n ≤ maxLen) (name : ByteArray) (b : Nat) (w : World) (h : Has w w.heap.size A (nodCs L)) (hb : w.cell? ⟨b, 0, none⟩ = some (.string name)) (hx : ∃ e ∈ L, hasTk e name = true) :
    Calls Try.prog 26 #[.slice A n c, .func (.func 13) #[] #[.pointer (some ⟨b, 0, none⟩)]] w (RV fun v w' => (∃ i : Int, v = .int .i64 i ∧ 0 ≤ i) ∧ Below w.heap.size w w') := by
  unfold maxLen at hl
  have Hn := Lib.hid hn
  have Hh := Lib.hid h
  have Hb := Lib.hid hb
  have HX := Lib.hid hx
  have hblt : b < w.heap.size := World.block_lt_of_cell? w ⟨b, 0, none⟩ hb
  clear hn h hb hx
  go_enter Try.func26, Try.ntmps26
  go_wp2_with fail
  go_loopw [8] (fun iv wr => ∃ k : Nat, k ≤ n ∧ iv = .int .i64 (k : Nat) ∧ Hid (∀ q, q < k → hasTk (at_ L q) name = false) ∧ Below w.heap.size w wr) (fun iv _ => n + 5 - (intOf iv).toNat)
  case atStart => exact ⟨0, by omega, rfl, Lib.hid (fun q hq => by omega), Below.refl _ _⟩
  case round =>
    obtain ⟨k, hk, rfl, hq, hbr⟩ := hrel
    by_cases hlt : (k : Int) < (n : Int)
    · have hkL : k < L.length := by rw [Hn.out]; omega
      obtain ⟨ad, rfl, _, c0⟩ := (Hh.out.next hbr).at (nodCs_0 hkL)
      obtain ⟨ad', e', _, c1⟩ := (Hh.out.next hbr).at (nodCs_1 hkL)
      injection e' with e'
      subst e'
      have c1 := cell_off c1 (by decide)
      obtain ⟨x, hx⟩ : ∃ x, at_ L k = x := ⟨_, rfl⟩
      rw [hx] at c0 c1
      obtain ⟨nm, ⟨T, tc, tl⟩⟩ := x
      simp only [] at c0 c1
      obtain ⟨p, hp⟩ : ∃ p, tl.length = p := ⟨_, rfl⟩
      rw [hp] at c1
      have Hx := Lib.hid hx
      have h0k : (0 : Int) ≤ (k : Int) := by omega
      have hF := more1_any nm name T tl p tc b hp wr ((hbr.cell (p := ⟨b, 0, none⟩) hblt).trans Hb.out)
      have hbs := hbr.size
      obtain ⟨r, hr⟩ : ∃ r, hasTk ⟨nm, ⟨T, tc, tl⟩⟩ name = r := ⟨_, rfl⟩
      rw [hr] at hF
      have HF := Lib.hid hF
      have Hr := Lib.hid hr
      clear hx hF hr hp
      go_wp2_with fail
      refine HF.out.mono ?_
      rintro e9 w2 ⟨rfl, hb2⟩
      have hb02 := hbr.trans (hb2.mono hbs)
      cases r with
      | true =>
        go_wp2_with fail
        go_ret
        exact RV.mk ⟨⟨(k : Nat), rfl, by omega⟩, hb02⟩
      | false =>
        go_wp2_with fail
        go_roundw
        case rel => exact ⟨k + 1, by omega, by go_num, Lib.hid (fun q hq2 => by
          rcases Nat.lt_or_ge q k with g | g
          · exact hq.out q g
          · obtain rfl : q = k := by omega
            rw [Hx.out]; exact Hr.out), hb02⟩
        case measure => simp [intOf]; omega
    · exfalso
      obtain ⟨e, he, h2⟩ := HX.out
      obtain ⟨q, hq2, rfl⟩ := List.getElem_of_mem he
      have h3 := hq.out q (by rw [Hn.out] at hq2; omega)
      rw [at_eq hq2, h2] at h3
      cases h3

set_option maxRecDepth 1000000 in
set_option maxHeartbeats 1000000 in
theorem containsTk_any (A : Option Addr) (n c : Nat) (L : List NodE) (hn : L.length = n) (hl : n ≤ maxLen) (name : ByteArray) (b : Nat) (w : World) (h : Has w w.heap.size A (nodCs L)) (hb : w.cell? ⟨b, 0, none⟩ = some (.string name)) (hx : ∃ e ∈ L, hasTk e name = true) :
    Calls Try.prog 12 #[.slice A n c, .func (.func 13) #[] #[.pointer (some ⟨b, 0, none⟩)]] w (R1 (.bool true) (Below w.heap.size w)) := by
  have HI := Lib.hid (indexTk_any A n c L hn hl name b w h hb hx)
  clear hn h hb hx
  go_enter Try.func12, Try.ntmps12
  go_wp2_with fail
  refine HI.out.mono ?_
  rintro e9 w2 ⟨v, rfl, ⟨i, rfl, hi⟩, hb2⟩
  have hd : decide (i ≥ 0) = true := decide_eq_true hi
  go_wp2_with fail
  go_ret
  exact R1.mk rfl hb2
end Go.Proofs.Ytmbpgenjjgepiaa
