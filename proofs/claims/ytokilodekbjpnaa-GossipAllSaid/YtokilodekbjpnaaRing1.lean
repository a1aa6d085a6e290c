/- What Check of package ring tells of one node. Conditions: the row lies in its cells. -/
import Derived.Test.YtokilodekbjpnaaSameD
import Derived.Test.YtokilodekbjpnaaLessI
namespace Go.Proofs.Ytokilodekbjpnaa
open Go.RowKit

/-- tokens rise -/
def risU (l : List Nat) : Bool := (List.range (l.length - 1)).all fun i => decide (at_ l i < at_ l (i + 1))
theorem risU_true {l : List Nat} : risU l = true ↔ ∀ q, q + 1 < l.length → at_ l q < at_ l (q + 1) := by
  unfold risU
  rw [List.all_eq_true]
  constructor
  · intro h q hq; simpa using h q (by rw [List.mem_range]; omega)
  · intro h q hq; rw [List.mem_range] at hq; simpa using h q (by omega)
def nodeN (nm : ByteArray) (tk : List Nat) : Int := if nm.toList = [] ∨ 20 < nm.size then 4 else if 20 < tk.length then 2 else if risU tk = true then 0 else 5

set_option maxRecDepth 1000000 in
set_option maxHeartbeats 4000000 in
theorem node_any (g : Nat) (nm : ByteArray) (x : Row) (w : World) (hx : x.ok w) (hg : g < w.heap.size) (c0 : w.cell? ⟨g, 0, none⟩ = some (.string nm)) (c1 : w.cell? ⟨g, 1, none⟩ = some (.slice x.A x.l.length x.c)) :
    Calls Try.prog 44 #[.slice (some ⟨g, 0, none⟩) 1 1] w (R1 (.int .i64 (nodeN nm x.l)) (Below w.heap.size w)) := by
  obtain ⟨A, c, l⟩ := x
  obtain ⟨h1, h2, h3, h4⟩ := hx
  simp only [] at h1 h2 h3 h4 c1 ⊢
  obtain ⟨z, hz⟩ : ∃ z, nodeN nm l = z := ⟨_, rfl⟩
  rw [hz]
  rcases (show (nm.toList = []) ∨ (nm.toList ≠ [] ∧ 20 < nm.size) ∨ (nm.toList ≠ [] ∧ nm.size ≤ 20) by
    by_cases h : nm.toList = []
    · exact .inl h
    · rcases Nat.lt_or_ge 20 nm.size with h1 | h1
      · exact .inr (.inl ⟨h, h1⟩)
      · exact .inr (.inr ⟨h, h1⟩)) with hn | ⟨hn, hl⟩ | ⟨hn, hl⟩
  · have ez := Lib.hid (show z = 4 by rw [← hz, nodeN, if_pos (.inl hn)])
    clear hz
    go_enter Try.func44, Try.ntmps44
    go_wp2_with fail
    go_loopw [3, 12] (fun last i wr => ∃ (k : Nat) (s : ByteArray), k ≤ 1 ∧ i = .int .i64 (k : Nat) ∧ last = .string s ∧ (k = 0 → s = ⟨#[]⟩) ∧ (k = 1 → z = 0) ∧ Below w.heap.size w wr) (fun _ i _ => 1 - (intOf i).toNat)
    case atStart => exact ⟨0, ⟨#[]⟩, by omega, rfl, rfl, fun _ => rfl, fun h => by omega, Below.refl _ _⟩
    case round =>
      obtain ⟨k, s, hk, rfl, rfl, hs, hz1, hbr⟩ := hrel
      have v0 : wr.cell? ⟨g, 0, none⟩ = some (.string nm) := (hbr.cell (p := ⟨g, 0, none⟩) hg).trans c0
      have v1 : wr.cell? ⟨g, 1, none⟩ = some (.slice A l.length c) := (hbr.cell (p := ⟨g, 1, none⟩) hg).trans c1
      rcases (show k = 0 ∨ k = 1 by omega) with rfl | rfl
      · have hs0 := hs rfl
        subst hs0
        clear hs hz1
        go_wp2_with fail
        go_ret
        exact R1.mk (int_eq ez.out.symm) (bnext hbr ((Below.refl _ _).alloc (Nat.le_refl _) _))
      · have hz0 := Lib.hid (hz1 rfl)
        clear hz1 hs
        go_wp2_with fail
        go_ret
        exact R1.mk (int_eq hz0.out.symm) hbr
  · have ez := Lib.hid (show z = 4 by rw [← hz, nodeN, if_pos (.inr hl)])
    clear hz
    have hl' : (20 : Int) < (nm.size : Int) := by omega
    go_enter Try.func44, Try.ntmps44
    go_wp2_with fail
    go_loopw [3, 12] (fun last i wr => ∃ (k : Nat) (s : ByteArray), k ≤ 1 ∧ i = .int .i64 (k : Nat) ∧ last = .string s ∧ (k = 0 → s = ⟨#[]⟩) ∧ (k = 1 → z = 0) ∧ Below w.heap.size w wr) (fun _ i _ => 1 - (intOf i).toNat)
    case atStart => exact ⟨0, ⟨#[]⟩, by omega, rfl, rfl, fun _ => rfl, fun h => by omega, Below.refl _ _⟩
    case round =>
      obtain ⟨k, s, hk, rfl, rfl, hs, hz1, hbr⟩ := hrel
      have v0 : wr.cell? ⟨g, 0, none⟩ = some (.string nm) := (hbr.cell (p := ⟨g, 0, none⟩) hg).trans c0
      have v1 : wr.cell? ⟨g, 1, none⟩ = some (.slice A l.length c) := (hbr.cell (p := ⟨g, 1, none⟩) hg).trans c1
      rcases (show k = 0 ∨ k = 1 by omega) with rfl | rfl
      · have hs0 := hs rfl
        subst hs0
        clear hs hz1
        go_wp2_with fail
        go_ret
        exact R1.mk (int_eq ez.out.symm) (bnext hbr ((Below.refl _ _).alloc (Nat.le_refl _) _))
      · have hz0 := Lib.hid (hz1 rfl)
        clear hz1 hs
        go_wp2_with fail
        go_ret
        exact R1.mk (int_eq hz0.out.symm) hbr
  · have hl' : ¬ (20 : Int) < (nm.size : Int) := by omega
    have he : nm.toList.isEmpty = false := by cases h : nm.toList with
      | nil => exact absurd h hn
      | cons a l => rfl
    have hbl : Op.bytesLess nm.toList [] = false := by cases nm.toList <;> rfl
    by_cases hll : 20 < l.length
    · have ez := Lib.hid (show z = 2 by rw [← hz, nodeN, if_neg (by rintro (h | h); exact hn h; omega), if_pos hll])
      have hll' : (20 : Int) < (l.length : Int) := by omega
      clear hz
      go_enter Try.func44, Try.ntmps44
      go_wp2_with fail
      go_loopw [3, 12] (fun last i wr => ∃ (k : Nat) (s : ByteArray), k ≤ 1 ∧ i = .int .i64 (k : Nat) ∧ last = .string s ∧ (k = 0 → s = ⟨#[]⟩) ∧ (k = 1 → z = 0) ∧ Below w.heap.size w wr) (fun _ i _ => 1 - (intOf i).toNat)
      case atStart => exact ⟨0, ⟨#[]⟩, by omega, rfl, rfl, fun _ => rfl, fun h => by omega, Below.refl _ _⟩
      case round =>
        obtain ⟨k, s, hk, rfl, rfl, hs, hz1, hbr⟩ := hrel
        have v0 : wr.cell? ⟨g, 0, none⟩ = some (.string nm) := (hbr.cell (p := ⟨g, 0, none⟩) hg).trans c0
        have v1 : wr.cell? ⟨g, 1, none⟩ = some (.slice A l.length c) := (hbr.cell (p := ⟨g, 1, none⟩) hg).trans c1
        rcases (show k = 0 ∨ k = 1 by omega) with rfl | rfl
        · have hs0 := hs rfl
          subst hs0
          clear hs hz1
          go_wp2_with fail
          go_ret
          exact R1.mk (int_eq ez.out.symm) (bnext hbr ((Below.refl _ _).alloc (Nat.le_refl _) _))
        · have hz0 := Lib.hid (hz1 rfl)
          clear hz1 hs
          go_wp2_with fail
          go_ret
          exact R1.mk (int_eq hz0.out.symm) hbr
    · have HZ := Lib.hid hz
      have hll' : ¬ (20 : Int) < (l.length : Int) := by omega
      clear hz
      go_enter Try.func44, Try.ntmps44
      go_wp2_with fail
      go_loopw [3, 12] (fun last i wr => ∃ (k : Nat) (s : ByteArray), k ≤ 1 ∧ i = .int .i64 (k : Nat) ∧ last = .string s ∧ (k = 0 → s = ⟨#[]⟩) ∧ (k = 1 → z = 0) ∧ Below w.heap.size w wr) (fun _ i _ => 1 - (intOf i).toNat)
      case atStart => exact ⟨0, ⟨#[]⟩, by omega, rfl, rfl, fun _ => rfl, fun h => by omega, Below.refl _ _⟩
      case round =>
        obtain ⟨k, s, hk, rfl, rfl, hs, hz1, hbr⟩ := hrel
        have v0 : wr.cell? ⟨g, 0, none⟩ = some (.string nm) := (hbr.cell (p := ⟨g, 0, none⟩) hg).trans c0
        have v1 : wr.cell? ⟨g, 1, none⟩ = some (.slice A l.length c) := (hbr.cell (p := ⟨g, 1, none⟩) hg).trans c1
        rcases (show k = 0 ∨ k = 1 by omega) with rfl | rfl
        · have hs0 := hs rfl
          subst hs0
          clear hs hz1
          have kN : Blk (wr.alloc (.cells #[.string nm, .slice A l.length c] 32)) wr.heap.size 32 #[.string nm, .slice A l.length c] := Blk.new _ _ _
          have hbN := bnext hbr ((Below.refl wr.heap.size wr).alloc (Nat.le_refl _) (.cells #[.string nm, .slice A l.length c] 32))
          go_wp2_with fail
          obtain ⟨W1, hW1⟩ : ∃ W1, wr.alloc (.cells #[.string nm, .slice A l.length c] 32) = W1 := ⟨_, rfl⟩
          obtain ⟨gb, hgb⟩ : ∃ gb, wr.heap.size = gb := ⟨_, rfl⟩
          rw [hW1] at kN hbN ⊢
          rw [hgb] at kN ⊢
          clear hW1 hgb
          go_loopw [6] (fun i wr => ∃ j : Nat, 1 ≤ j ∧ i = .int .i64 (j : Nat) ∧ Hid (∀ q, q + 1 < j → q + 1 < l.length → at_ l q < at_ l (q + 1)) ∧ Drawn W1 wr) (fun i _ => l.length + 1 - (intOf i).toNat)
          case atStart => exact ⟨1, by omega, rfl, Lib.hid (fun q h => by omega), Drawn.refl _⟩
          case round =>
            obtain ⟨j, hj, rfl, hris, hd⟩ := hrel
            have hdb := drawn_below hd
            have kN2 := kN.next hdb
            have b0 : wr.cell? ⟨gb, 0, none⟩ = some (.string nm) := kN2.cell 0
            have b1 : wr.cell? ⟨gb, 1, none⟩ = some (.slice A l.length c) := kN2.cell 1
            by_cases hlt : (j : Int) < (l.length : Int)
            · obtain ⟨i, hi⟩ : ∃ i : Nat, j = i + 1 := ⟨j - 1, by omega⟩
              have hH := (h4.next hbN).next hdb
              obtain ⟨ad, rfl, _, t1⟩ := hH.at (u64s_at (show i < l.length by omega))
              obtain ⟨ad', e, _, t2⟩ := hH.at (u64s_at (show j < l.length by omega))
              injection e with e
              subst e
              have e1 : IntKind.i64.wrap ((j : Int) - 1) = (i : Int) := IntWalk.i64_in _ (by omega) |>.trans (by omega)
              have q0 : (0 : Int) ≤ (i : Int) := by omega
              have q1 : (i : Int) < (l.length : Int) := by omega
              have q2 : (0 : Int) ≤ (j : Int) := by omega
              have HI := Lib.hid hi
              clear hi
              by_cases hge : at_ l j ≤ at_ l i
              · have f1 : decide (((at_ l j : Nat) : Int) ≤ ((at_ l i : Nat) : Int)) = true := decide_eq_true (by omega)
                have ez := Lib.hid (show z = 5 by rw [← HZ.out, nodeN, if_neg (by rintro (h | h); exact hn h; omega), if_neg hll, if_neg (by intro h; have := risU_true.1 h i (by have := HI.out; omega); rw [← HI.out] at this; omega)])
                go_wp2_with fail
                go_quiet (fail)
                go_wp2_with fail
                go_ret
                exact R1.mk (int_eq ez.out.symm) (hbN.trans ((drawn_below (drawn_more hd _)).mono hbN.size))
              · have f1 : decide (((at_ l j : Nat) : Int) ≤ ((at_ l i : Nat) : Int)) = false := decide_eq_false (by omega)
                go_wp2_with fail
                go_quiet (fail)
                go_wp2_with fail
                go_roundw
                case rel => exact ⟨j + 1, by omega, by go_num, Lib.hid (fun q h1 h2 => by rcases (show q + 1 < j ∨ q = i by have := HI.out; omega) with h3 | rfl; exact hris.out q h3 h2; rw [← HI.out]; omega), drawn_more hd _⟩
                case measure => simp [intOf]; omega
            · have hz0 : z = 0 := by rw [← HZ.out, nodeN, if_neg (by rintro (h | h); exact hn h; omega), if_neg hll, if_pos (risU_true.2 (fun q hq => hris.out q (by omega) hq))]
              go_wp2_with fail
              go_roundw
              case rel => exact ⟨1, nm, by omega, by go_num, rfl, fun h => by omega, fun _ => hz0, hbN.trans (hdb.mono hbN.size)⟩
              case measure => simp [intOf]
        · have hz0 := Lib.hid (hz1 rfl)
          clear hz1 hs
          go_wp2_with fail
          go_ret
          exact R1.mk (int_eq hz0.out.symm) hbr
end Go.Proofs.Ytokilodekbjpnaa
