
/- What Pack of package delta makes. Conditions: times fit their kind; the table of widths lies in its cells. -/
import Derived.Test.YtmbpgenjjgepiaaDoorFits
import Derived.Test.YtmbpgenjjgepiaaDoorPutBits
import Derived.Test.YtmbpgenjjgepiaaDoorWriter
import Derived.Test.YtmbpgenjjgepiaaDoorI64s
import Derived.Test.YtmbpgenjjgepiaaDoorOwn
namespace Go.Proofs.YtmbpgenjjgepiaaDoor
open Go.RowKit

/-- the table of widths in its cells -/
def TabAt (w : World) : Prop := w.cell? ⟨0, 0, none⟩ = some (.int .u64 0) ∧ w.cell? ⟨0, 1, none⟩ = some (.int .i64 1) ∧ w.cell? ⟨0, 2, none⟩ = some (.int .i64 0) ∧ w.cell? ⟨0, 3, none⟩ = some (.int .u64 2) ∧ w.cell? ⟨0, 4, none⟩ = some (.int .i64 2) ∧ w.cell? ⟨0, 5, none⟩ = some (.int .i64 7) ∧ w.cell? ⟨0, 6, none⟩ = some (.int .u64 6) ∧ w.cell? ⟨0, 7, none⟩ = some (.int .i64 3) ∧ w.cell? ⟨0, 8, none⟩ = some (.int .i64 9) ∧ w.cell? ⟨0, 9, none⟩ = some (.int .u64 14) ∧ w.cell? ⟨0, 10, none⟩ = some (.int .i64 4) ∧ w.cell? ⟨0, 11, none⟩ = some (.int .i64 12) ∧ w.cell? ⟨0, 12, none⟩ = some (.int .u64 15) ∧ w.cell? ⟨0, 13, none⟩ = some (.int .i64 4) ∧ w.cell? ⟨0, 14, none⟩ = some (.int .i64 64)
theorem TabAt.below {w w' : World} {B : Nat} (h : TabAt w) (hB : 0 < B) (hb : Below B w w') : TabAt w' := by
  unfold TabAt at *
  obtain ⟨t0, t1, t2, t3, t4, t5, t6, t7, t8, t9, t10, t11, t12, t13, t14⟩ := h
  exact ⟨(hb.cell (p := ⟨0, 0, none⟩) hB).trans t0, (hb.cell (p := ⟨0, 1, none⟩) hB).trans t1, (hb.cell (p := ⟨0, 2, none⟩) hB).trans t2, (hb.cell (p := ⟨0, 3, none⟩) hB).trans t3, (hb.cell (p := ⟨0, 4, none⟩) hB).trans t4, (hb.cell (p := ⟨0, 5, none⟩) hB).trans t5, (hb.cell (p := ⟨0, 6, none⟩) hB).trans t6, (hb.cell (p := ⟨0, 7, none⟩) hB).trans t7, (hb.cell (p := ⟨0, 8, none⟩) hB).trans t8, (hb.cell (p := ⟨0, 9, none⟩) hB).trans t9, (hb.cell (p := ⟨0, 10, none⟩) hB).trans t10, (hb.cell (p := ⟨0, 11, none⟩) hB).trans t11, (hb.cell (p := ⟨0, 12, none⟩) hB).trans t12, (hb.cell (p := ⟨0, 13, none⟩) hB).trans t13, (hb.cell (p := ⟨0, 14, none⟩) hB).trans t14⟩
theorem wrap_u64I (t : Int) : IntKind.u64.wrap t = ((u64I t : Nat) : Int) := by rw [IntKind.wrap_u64]; unfold u64I; omega
def fitB : Nat → Int → Bool
  | 0, c => c == 0
  | 1, c => decide (-64 ≤ c ∧ c < 64)
  | 2, c => decide (-256 ≤ c ∧ c < 256)
  | 3, c => decide (-2048 ≤ c ∧ c < 2048)
  | _, _ => true
theorem fit_no {i : Nat} {c : Int} (h : i < rowOf c) : fitB i c = false := by
  unfold rowOf at h
  split at h
  · omega
  · split at h
    · obtain rfl : i = 0 := by omega
      simp only [fitB, beq_eq_false_iff_ne]; assumption
    · split at h
      · rcases (show i = 0 ∨ i = 1 by omega) with rfl | rfl
        · simp only [fitB, beq_eq_false_iff_ne]; assumption
        · simp only [fitB, decide_eq_false_iff_not]; assumption
      · split at h
        · rcases (show i = 0 ∨ i = 1 ∨ i = 2 by omega) with rfl | rfl | rfl
          · simp only [fitB, beq_eq_false_iff_ne]; assumption
          · simp only [fitB, decide_eq_false_iff_not]; assumption
          · simp only [fitB, decide_eq_false_iff_not]; assumption
        · rcases (show i = 0 ∨ i = 1 ∨ i = 2 ∨ i = 3 by omega) with rfl | rfl | rfl | rfl
          · simp only [fitB, beq_eq_false_iff_ne]; assumption
          · simp only [fitB, decide_eq_false_iff_not]; assumption
          · simp only [fitB, decide_eq_false_iff_not]; assumption
          · simp only [fitB, decide_eq_false_iff_not]; assumption
theorem fit_yes {i : Nat} {c : Int} (h : i = rowOf c) : fitB i c = true := by
  unfold rowOf at h
  repeat' split at h
  all_goals subst h
  · simp only [fitB, beq_iff_eq]; assumption
  · simp only [fitB, decide_eq_true_iff]; assumption
  · simp only [fitB, decide_eq_true_iff]; assumption
  · simp only [fitB, decide_eq_true_iff]; assumption
  · rfl
theorem ix0 (w : World) : (Instr.index 62 (.agg #[.int .u64 0, .int .i64 1, .int .i64 0, .int .u64 2, .int .i64 2, .int .i64 7, .int .u64 6, .int .i64 3, .int .i64 9, .int .u64 14, .int .i64 4, .int .i64 12, .int .u64 15, .int .i64 4, .int .i64 64]) (.int .i64 0)).run Tryd.prog w = .ok (.agg #[.int .u64 0, .int .i64 1, .int .i64 0]) w := by kernel_rfl
theorem ix1 (w : World) : (Instr.index 62 (.agg #[.int .u64 0, .int .i64 1, .int .i64 0, .int .u64 2, .int .i64 2, .int .i64 7, .int .u64 6, .int .i64 3, .int .i64 9, .int .u64 14, .int .i64 4, .int .i64 12, .int .u64 15, .int .i64 4, .int .i64 64]) (.int .i64 1)).run Tryd.prog w = .ok (.agg #[.int .u64 2, .int .i64 2, .int .i64 7]) w := by kernel_rfl
theorem ix2 (w : World) : (Instr.index 62 (.agg #[.int .u64 0, .int .i64 1, .int .i64 0, .int .u64 2, .int .i64 2, .int .i64 7, .int .u64 6, .int .i64 3, .int .i64 9, .int .u64 14, .int .i64 4, .int .i64 12, .int .u64 15, .int .i64 4, .int .i64 64]) (.int .i64 2)).run Tryd.prog w = .ok (.agg #[.int .u64 6, .int .i64 3, .int .i64 9]) w := by kernel_rfl
theorem ix3 (w : World) : (Instr.index 62 (.agg #[.int .u64 0, .int .i64 1, .int .i64 0, .int .u64 2, .int .i64 2, .int .i64 7, .int .u64 6, .int .i64 3, .int .i64 9, .int .u64 14, .int .i64 4, .int .i64 12, .int .u64 15, .int .i64 4, .int .i64 64]) (.int .i64 3)).run Tryd.prog w = .ok (.agg #[.int .u64 14, .int .i64 4, .int .i64 12]) w := by kernel_rfl
theorem ix4 (w : World) : (Instr.index 62 (.agg #[.int .u64 0, .int .i64 1, .int .i64 0, .int .u64 2, .int .i64 2, .int .i64 7, .int .u64 6, .int .i64 3, .int .i64 9, .int .u64 14, .int .i64 4, .int .i64 12, .int .u64 15, .int .i64 4, .int .i64 64]) (.int .i64 4)).run Tryd.prog w = .ok (.agg #[.int .u64 15, .int .i64 4, .int .i64 64]) w := by kernel_rfl
theorem bits_le {l : List Int} (h : l.length ≤ 1000) (k : Nat) : (toB l.length 16 ++ packF (l.take k)).length ≤ 70000 := by
  have h1 := packF_len (l.take k)
  have h2 : (l.take k).length ≤ l.length := by rw [List.length_take]; omega
  rw [List.length_append, toB_len]
  omega
theorem last_step (l : List Int) (k : Nat) : lastOf l (k + 1) = at_ l k := by simp [lastOf]
theorem step_step (l : List Int) {k : Nat} (h : k ≠ 0) : stepOf l (k + 1) = wrap64 (at_ l k - lastOf l k) := by
  unfold stepOf lastOf
  rw [if_neg (by omega), if_neg h]
  rfl
theorem chg_row {C : Int} {i : Nat} (h : i = rowOf C) : chg C = toB (markOf i).1 (markOf i).2.1 ++ toB (u64I C) (markOf i).2.2 := by subst h; rfl
def I64s (l : List Int) : Prop := ∀ x ∈ l, -9223372036854775808 ≤ x ∧ x ≤ 9223372036854775807

set_option maxRecDepth 1000000 in
set_option maxHeartbeats 4000000 in
theorem dpack_any (A : Option Addr) (c : Nat) (l : List Int) (hl : l.length ≤ maxLen) (hi : I64s l) (w : World) (h : Has w w.heap.size A (i64s l)) (ht : TabAt w) (hw0 : 0 < w.heap.size) :
    Calls Tryd.prog 13 #[.slice A l.length c] w (RV (BitsP (packN l) w)) := by
  have hbx : Below w.heap.size w (w.alloc (.cells #[.slice none 0 0, .int .i64 0] 43)) := (Below.refl _ _).alloc (Nat.le_refl _) _
  have kR0 : Blk (w.alloc (.cells #[.slice none 0 0, .int .i64 0] 43)) w.heap.size 43 #[.slice none 0 0, .int .i64 0] := Blk.new _ _ _
  by_cases h1000 : (1000 : Int) < (l.length : Int)
  · have E := Lib.hid (show packN l = (([], 0), 2) by unfold packN; rw [if_pos (by omega)])
    rw [E.out]
    go_enter Tryd.func13, Tryd.ntmps13
    go_wp2_with fail
    refine bodyPost_ret (v := .tuple #[.agg #[.slice none 0 0, .int .i64 0], .int .i64 2]) (by simp [results, Tryd.results13, go_sem, *]) rfl (RV.mk ⟨none, 0, rfl, ⟨rfl, .inl ⟨rfl, rfl⟩⟩, hbx⟩)
  · have hle : l.length ≤ 1000 := by omega
    have E := Lib.hid (show packN l = ((packB (packT l), ((packT l).length : Int)), 0) by unfold packN; rw [if_neg (by omega)])
    rw [E.out]
    have h1000' : (l.length : Int) ≤ 1000 := by omega
    have hbx2 := hbx.alloc (by simp) (.cells #[.slice none 0 0, .int .i64 0] 58)
    have kR1 := kR0.alloc (.cells #[.slice none 0 0, .int .i64 0] 58)
    have hk0 : Blk ((w.alloc (.cells #[.slice none 0 0, .int .i64 0] 43)).alloc (.cells #[.slice none 0 0, .int .i64 0] 58)) (w.heap.size + 1) 58 #[.slice none 0 0, .int .i64 0] := by simpa using Blk.new (w.alloc (.cells #[.slice none 0 0, .int .i64 0] 43)) 58 #[.slice none 0 0, .int .i64 0]
    have hwr0 : WrAt ((w.alloc (.cells #[.slice none 0 0, .int .i64 0] 43)).alloc (.cells #[.slice none 0 0, .int .i64 0] 58)) w.heap.size (w.heap.size + 1) [] :=
      ⟨none, 0, hk0, ⟨rfl, .inl ⟨rfl, rfl⟩⟩⟩
    have ewl : IntKind.u64.wrap (l.length : Int) = (l.length : Int) := IntWalk.u64_in _ (by omega)
    go_enter Tryd.func13, Tryd.ntmps13
    go_wp2_with fail
    refine (wput_any w.heap.size (w.heap.size + 1) [] l.length 16 (by omega) (by omega) (by simp) _ (by omega) hwr0).mono ?_
    rintro e w1 ⟨rfl, hwr1, hb1, hm1⟩
    have hb1' := hbx2.trans hb1
    have kR2 := kR1.mod hm1 (by omega) (by decide)
    rw [List.nil_append] at hwr1
    go_wp2_with fail
    obtain ⟨g, hg⟩ : ∃ g, w.heap.size + 1 = g := ⟨_, rfl⟩
    have hgb : w.heap.size ≤ g := by omega
    have hgr : w.heap.size ≠ g := by omega
    rw [hg] at hwr1 hm1 ⊢
    clear hwr0 hk0 hm1 hb1 ewl hbx2 hg kR0 kR1
    have HI := Lib.hid hi; clear hi
    have HT := Lib.hid (ht.below hw0 hb1'); clear ht
    go_loopw [5, 6, 22] (fun x y i wr => ∃ k : Nat, k ≤ l.length ∧ i = .int .i64 (k : Nat) ∧ x = .int .i64 (lastOf l k) ∧ y = .int .i64 (stepOf l k) ∧ Hid (WrAt wr w.heap.size g (toB l.length 16 ++ packF (l.take k))) ∧ Blk wr w.heap.size 43 #[.slice none 0 0, .int .i64 0] ∧ Hid (TabAt wr) ∧ Below w.heap.size w wr) (fun _ _ i _ => l.length + 5 - (intOf i).toNat)
    case atStart => exact ⟨0, by omega, rfl, rfl, rfl, Lib.hid (by simpa [packF] using hwr1), kR2, HT, hb1'⟩
    case round =>
      obtain ⟨k, hk, rfl, rfl, rfl, hwr, kR, hT, hbr⟩ := hrel
      have hbs := hbr.size
      by_cases hlt : (k : Int) < (l.length : Int)
      · obtain ⟨ad, rfl, _, c0⟩ := (h.below hbr).at (i64s_at (show k < l.length by omega))
        have hxk := HI.out _ (at_mem (show k < l.length by omega))
        by_cases hk0 : k = 0
        · subst hk0
          have c0 : wr.cell? ad = some (.int .i64 (at_ l 0)) := by simpa [Addr.add] using c0
          obtain ⟨t, ht⟩ : ∃ t, at_ l 0 = t := ⟨_, rfl⟩
          rw [ht] at c0 hxk
          go_wp2_with fail
          refine (wput_i w.heap.size g _ (u64I t) 64 _ _ (wrap_u64I t) rfl (u64I_lt t) (by omega) (by simp [packF, toB_len]) _ hgb hwr.out).mono ?_
          rintro e w2 ⟨rfl, hwr2, hb2, hm2⟩
          have kR2 := kR.mod hm2 hgr (by decide)
          have hwr2 := Lib.hid hwr2
          have ht := Lib.hid ht
          go_wp2_with fail
          go_roundw
          case rel => exact ⟨1, by omega, rfl, by rw [show lastOf l 1 = at_ l 0 from rfl, ht.out], rfl, Lib.hid (by rw [packF_one (by omega), ht.out]; simpa [packF] using hwr2.out), kR2, Lib.hid (hT.out.below hw0 hb2), hbr.trans hb2⟩
          case measure => first | (simp [intOf]; done) | (simp [intOf]; omega)
        · have hk1 : ((k : Int) == 0) = false := by rw [beq_eq_false_iff_ne]; omega
          have hT2 := hT.out
          unfold TabAt at hT2
          obtain ⟨t0, t1, t2, t3, t4, t5, t6, t7, t8, t9, t10, t11, t12, t13, t14⟩ := hT2
          obtain ⟨t, ht⟩ : ∃ t, at_ l k = t := ⟨_, rfl⟩
          obtain ⟨x, hx⟩ : ∃ x, lastOf l k = x := ⟨_, rfl⟩
          obtain ⟨y, hy⟩ : ∃ y, stepOf l k = y := ⟨_, rfl⟩
          rw [ht] at c0 hxk
          rw [hx, hy]
          have Ht := Lib.hid ht; clear ht
          have Hx := Lib.hid hx; clear hx
          have Hy := Lib.hid hy; clear hy
          go_wp2_with fail
          obtain ⟨C, hC⟩ : ∃ C, wrap64 (wrap64 (t - x) - y) = C := ⟨_, rfl⟩
          rw [hC]
          have hCb : -9223372036854775808 ≤ C ∧ C ≤ 9223372036854775807 := by rw [← hC]; unfold wrap64; omega
          have HC := Lib.hid (show chgOf x y t = C from hC); clear hC
          clear t0 t1 t2 t3 t4 t5 t6 t7 t8 t9 t10 t11 t12 t13 t14
          obtain ⟨wo, hwo⟩ : ∃ wo : World, wo = wr := ⟨_, rfl⟩
          rw [← hwo] at hwr kR hT hbr c0 hbs ⊢
          clear hwo
          go_loopw [39] (fun i wr => ∃ j : Nat, j ≤ rowOf C ∧ i = .int .i64 (j : Nat) ∧ Hid (WrAt wr w.heap.size g (toB l.length 16 ++ packF (l.take k))) ∧ Blk wr w.heap.size 43 #[.slice none 0 0, .int .i64 0] ∧ Hid (TabAt wr) ∧ Below w.heap.size w wr) (fun i _ => 10 - (intOf i).toNat)
          case atStart => exact ⟨0, by omega, rfl, hwr, kR, hT, hbr⟩
          case round =>
            obtain ⟨j, hj, rfl, hwq, kq, hTq, hbq⟩ := hrel
            have hj4 := rowOf_le C
            have hqs := hbq.size
            have hgq : g < wr.heap.size := by obtain ⟨_, _, hB, _⟩ := hwq.out; exact hB.lt
            rcases (show j = 0 ∨ j = 1 ∨ j = 2 ∨ j = 3 ∨ j = 4 by omega) with rfl | rfl | rfl | rfl | rfl
            · by_cases heq : 0 = rowOf C
              · have hf : (C == 0) = true := fit_yes (i := 0) heq
                have HEQ := Lib.hid heq; clear heq
                have hix := ix0
                rw [show (((0 : Nat)) : Int) = 0 from rfl]
                go_wp2_with fail
                refine (fits0_any C _).mono ?_
                rintro e w3 ⟨rfl, rfl⟩
                rw [hf]
                have kx : Blk (wr.alloc (.cells #[.int .u64 0, .int .i64 1, .int .i64 0] 61)) wr.heap.size 61 #[.int .u64 0, .int .i64 1, .int .i64 0] := Blk.new _ _ _
                have hwx := WrAt.alloc hwq.out (.cells #[.int .u64 0, .int .i64 1, .int .i64 0] 61)
                have kqx := kq.alloc (.cells #[.int .u64 0, .int .i64 1, .int .i64 0] 61)
                have hbx3 := hbq.alloc hqs (.cells #[.int .u64 0, .int .i64 1, .int .i64 0] 61)
                go_wp2_with fail
                refine (wput_i w.heap.size g _ 0 1 _ _ rfl rfl (by omega) (by omega) (by have := bits_le hle k; omega) _ hgb hwx).mono ?_
                rintro e w4 ⟨rfl, hwr4, hb4, hm4⟩
                have kx4 := kx.mod hm4 (by omega) (by decide)
                have kq4 := kqx.mod hm4 hgr (by decide)
                have x2 : w4.cell? ⟨wr.heap.size, 2, none⟩ = some (.int .i64 0) := kx4.cell 2
                go_wp2_with fail
                refine (wput_i w.heap.size g _ (u64I C) 0 _ _ (wrap_u64I C) rfl (u64I_lt C) (by omega) (by rw [List.length_append, toB_len]; have := bits_le hle k; omega) _ hgb hwr4).mono ?_
                rintro e w5 ⟨rfl, hwr5, hb5, hm5⟩
                have kq5 := kq4.mod hm5 hgr (by decide)
                have hwr5 := Lib.hid hwr5
                have hb45 := (hbx3.trans hb4).trans hb5
                have hT5 := Lib.hid (hTq.out.below hw0 (((((Below.refl w.heap.size wr).alloc hqs _).trans hb4).trans hb5)))
                go_wp2_with fail
                go_roundw
                case rel => exact ⟨k + 1, by omega, by go_num, by rw [last_step, Ht.out], by rw [step_step l hk0, Ht.out, Hx.out], Lib.hid (by rw [packT_step (by omega) hk0, Hx.out, Hy.out, Ht.out, HC.out, chg_row HEQ.out]; have := hwr5.out; simpa [markOf, List.append_assoc] using this), kq5, hT5, hb45⟩
                case measure => simp [intOf]; omega
              · have hf : (C == 0) = false := fit_no (i := 0) (by omega)
                have HEQ := Lib.hid heq; clear heq
                have hix := ix0
                rw [show (((0 : Nat)) : Int) = 0 from rfl]
                go_wp2_with fail
                refine (fits0_any C _).mono ?_
                rintro e w3 ⟨rfl, rfl⟩
                rw [hf]
                go_wp2_with fail
                go_roundw
                case rel => exact ⟨1, by have := HEQ.out; omega, rfl, Lib.hid (WrAt.alloc hwq.out _), kq.alloc _, Lib.hid (hTq.out.below hw0 ((Below.refl _ _).alloc hqs _)), hbq.alloc hqs _⟩
                case measure => simp [intOf]
            · by_cases heq : 1 = rowOf C
              · have hf : (decide (-64 ≤ C ∧ C < 64)) = true := fit_yes (i := 1) heq
                have HEQ := Lib.hid heq; clear heq
                have hix := ix1
                rw [show (((1 : Nat)) : Int) = 1 from rfl]
                go_wp2_with fail
                refine (fits7_any C hCb _).mono ?_
                rintro e w3 ⟨rfl, rfl⟩
                rw [hf]
                have kx : Blk (wr.alloc (.cells #[.int .u64 2, .int .i64 2, .int .i64 7] 61)) wr.heap.size 61 #[.int .u64 2, .int .i64 2, .int .i64 7] := Blk.new _ _ _
                have hwx := WrAt.alloc hwq.out (.cells #[.int .u64 2, .int .i64 2, .int .i64 7] 61)
                have kqx := kq.alloc (.cells #[.int .u64 2, .int .i64 2, .int .i64 7] 61)
                have hbx3 := hbq.alloc hqs (.cells #[.int .u64 2, .int .i64 2, .int .i64 7] 61)
                go_wp2_with fail
                refine (wput_i w.heap.size g _ 2 2 _ _ rfl rfl (by omega) (by omega) (by have := bits_le hle k; omega) _ hgb hwx).mono ?_
                rintro e w4 ⟨rfl, hwr4, hb4, hm4⟩
                have kx4 := kx.mod hm4 (by omega) (by decide)
                have kq4 := kqx.mod hm4 hgr (by decide)
                have x2 : w4.cell? ⟨wr.heap.size, 2, none⟩ = some (.int .i64 7) := kx4.cell 2
                go_wp2_with fail
                refine (wput_i w.heap.size g _ (u64I C) 7 _ _ (wrap_u64I C) rfl (u64I_lt C) (by omega) (by rw [List.length_append, toB_len]; have := bits_le hle k; omega) _ hgb hwr4).mono ?_
                rintro e w5 ⟨rfl, hwr5, hb5, hm5⟩
                have kq5 := kq4.mod hm5 hgr (by decide)
                have hwr5 := Lib.hid hwr5
                have hb45 := (hbx3.trans hb4).trans hb5
                have hT5 := Lib.hid (hTq.out.below hw0 (((((Below.refl w.heap.size wr).alloc hqs _).trans hb4).trans hb5)))
                go_wp2_with fail
                go_roundw
                case rel => exact ⟨k + 1, by omega, by go_num, by rw [last_step, Ht.out], by rw [step_step l hk0, Ht.out, Hx.out], Lib.hid (by rw [packT_step (by omega) hk0, Hx.out, Hy.out, Ht.out, HC.out, chg_row HEQ.out]; have := hwr5.out; simpa [markOf, List.append_assoc] using this), kq5, hT5, hb45⟩
                case measure => simp [intOf]; omega
              · have hf : (decide (-64 ≤ C ∧ C < 64)) = false := fit_no (i := 1) (by omega)
                have HEQ := Lib.hid heq; clear heq
                have hix := ix1
                rw [show (((1 : Nat)) : Int) = 1 from rfl]
                go_wp2_with fail
                refine (fits7_any C hCb _).mono ?_
                rintro e w3 ⟨rfl, rfl⟩
                rw [hf]
                go_wp2_with fail
                go_roundw
                case rel => exact ⟨2, by have := HEQ.out; omega, rfl, Lib.hid (WrAt.alloc hwq.out _), kq.alloc _, Lib.hid (hTq.out.below hw0 ((Below.refl _ _).alloc hqs _)), hbq.alloc hqs _⟩
                case measure => simp [intOf]
            · by_cases heq : 2 = rowOf C
              · have hf : (decide (-256 ≤ C ∧ C < 256)) = true := fit_yes (i := 2) heq
                have HEQ := Lib.hid heq; clear heq
                have hix := ix2
                rw [show (((2 : Nat)) : Int) = 2 from rfl]
                go_wp2_with fail
                refine (fits9_any C hCb _).mono ?_
                rintro e w3 ⟨rfl, rfl⟩
                rw [hf]
                have kx : Blk (wr.alloc (.cells #[.int .u64 6, .int .i64 3, .int .i64 9] 61)) wr.heap.size 61 #[.int .u64 6, .int .i64 3, .int .i64 9] := Blk.new _ _ _
                have hwx := WrAt.alloc hwq.out (.cells #[.int .u64 6, .int .i64 3, .int .i64 9] 61)
                have kqx := kq.alloc (.cells #[.int .u64 6, .int .i64 3, .int .i64 9] 61)
                have hbx3 := hbq.alloc hqs (.cells #[.int .u64 6, .int .i64 3, .int .i64 9] 61)
                go_wp2_with fail
                refine (wput_i w.heap.size g _ 6 3 _ _ rfl rfl (by omega) (by omega) (by have := bits_le hle k; omega) _ hgb hwx).mono ?_
                rintro e w4 ⟨rfl, hwr4, hb4, hm4⟩
                have kx4 := kx.mod hm4 (by omega) (by decide)
                have kq4 := kqx.mod hm4 hgr (by decide)
                have x2 : w4.cell? ⟨wr.heap.size, 2, none⟩ = some (.int .i64 9) := kx4.cell 2
                go_wp2_with fail
                refine (wput_i w.heap.size g _ (u64I C) 9 _ _ (wrap_u64I C) rfl (u64I_lt C) (by omega) (by rw [List.length_append, toB_len]; have := bits_le hle k; omega) _ hgb hwr4).mono ?_
                rintro e w5 ⟨rfl, hwr5, hb5, hm5⟩
                have kq5 := kq4.mod hm5 hgr (by decide)
                have hwr5 := Lib.hid hwr5
                have hb45 := (hbx3.trans hb4).trans hb5
                have hT5 := Lib.hid (hTq.out.below hw0 (((((Below.refl w.heap.size wr).alloc hqs _).trans hb4).trans hb5)))
                go_wp2_with fail
                go_roundw
                case rel => exact ⟨k + 1, by omega, by go_num, by rw [last_step, Ht.out], by rw [step_step l hk0, Ht.out, Hx.out], Lib.hid (by rw [packT_step (by omega) hk0, Hx.out, Hy.out, Ht.out, HC.out, chg_row HEQ.out]; have := hwr5.out; simpa [markOf, List.append_assoc] using this), kq5, hT5, hb45⟩
                case measure => simp [intOf]; omega
              · have hf : (decide (-256 ≤ C ∧ C < 256)) = false := fit_no (i := 2) (by omega)
                have HEQ := Lib.hid heq; clear heq
                have hix := ix2
                rw [show (((2 : Nat)) : Int) = 2 from rfl]
                go_wp2_with fail
                refine (fits9_any C hCb _).mono ?_
                rintro e w3 ⟨rfl, rfl⟩
                rw [hf]
                go_wp2_with fail
                go_roundw
                case rel => exact ⟨3, by have := HEQ.out; omega, rfl, Lib.hid (WrAt.alloc hwq.out _), kq.alloc _, Lib.hid (hTq.out.below hw0 ((Below.refl _ _).alloc hqs _)), hbq.alloc hqs _⟩
                case measure => simp [intOf]
            · by_cases heq : 3 = rowOf C
              · have hf : (decide (-2048 ≤ C ∧ C < 2048)) = true := fit_yes (i := 3) heq
                have HEQ := Lib.hid heq; clear heq
                have hix := ix3
                rw [show (((3 : Nat)) : Int) = 3 from rfl]
                go_wp2_with fail
                refine (fits12_any C hCb _).mono ?_
                rintro e w3 ⟨rfl, rfl⟩
                rw [hf]
                have kx : Blk (wr.alloc (.cells #[.int .u64 14, .int .i64 4, .int .i64 12] 61)) wr.heap.size 61 #[.int .u64 14, .int .i64 4, .int .i64 12] := Blk.new _ _ _
                have hwx := WrAt.alloc hwq.out (.cells #[.int .u64 14, .int .i64 4, .int .i64 12] 61)
                have kqx := kq.alloc (.cells #[.int .u64 14, .int .i64 4, .int .i64 12] 61)
                have hbx3 := hbq.alloc hqs (.cells #[.int .u64 14, .int .i64 4, .int .i64 12] 61)
                go_wp2_with fail
                refine (wput_i w.heap.size g _ 14 4 _ _ rfl rfl (by omega) (by omega) (by have := bits_le hle k; omega) _ hgb hwx).mono ?_
                rintro e w4 ⟨rfl, hwr4, hb4, hm4⟩
                have kx4 := kx.mod hm4 (by omega) (by decide)
                have kq4 := kqx.mod hm4 hgr (by decide)
                have x2 : w4.cell? ⟨wr.heap.size, 2, none⟩ = some (.int .i64 12) := kx4.cell 2
                go_wp2_with fail
                refine (wput_i w.heap.size g _ (u64I C) 12 _ _ (wrap_u64I C) rfl (u64I_lt C) (by omega) (by rw [List.length_append, toB_len]; have := bits_le hle k; omega) _ hgb hwr4).mono ?_
                rintro e w5 ⟨rfl, hwr5, hb5, hm5⟩
                have kq5 := kq4.mod hm5 hgr (by decide)
                have hwr5 := Lib.hid hwr5
                have hb45 := (hbx3.trans hb4).trans hb5
                have hT5 := Lib.hid (hTq.out.below hw0 (((((Below.refl w.heap.size wr).alloc hqs _).trans hb4).trans hb5)))
                go_wp2_with fail
                go_roundw
                case rel => exact ⟨k + 1, by omega, by go_num, by rw [last_step, Ht.out], by rw [step_step l hk0, Ht.out, Hx.out], Lib.hid (by rw [packT_step (by omega) hk0, Hx.out, Hy.out, Ht.out, HC.out, chg_row HEQ.out]; have := hwr5.out; simpa [markOf, List.append_assoc] using this), kq5, hT5, hb45⟩
                case measure => simp [intOf]; omega
              · have hf : (decide (-2048 ≤ C ∧ C < 2048)) = false := fit_no (i := 3) (by omega)
                have HEQ := Lib.hid heq; clear heq
                have hix := ix3
                rw [show (((3 : Nat)) : Int) = 3 from rfl]
                go_wp2_with fail
                refine (fits12_any C hCb _).mono ?_
                rintro e w3 ⟨rfl, rfl⟩
                rw [hf]
                go_wp2_with fail
                go_roundw
                case rel => exact ⟨4, by have := HEQ.out; omega, rfl, Lib.hid (WrAt.alloc hwq.out _), kq.alloc _, Lib.hid (hTq.out.below hw0 ((Below.refl _ _).alloc hqs _)), hbq.alloc hqs _⟩
                case measure => simp [intOf]
            · have HEQ := Lib.hid (show 4 = rowOf C by omega)
              have hix := ix4
              rw [show (((4 : Nat)) : Int) = 4 from rfl]
              go_wp2_with fail
              refine (fits64_any C hCb _).mono ?_
              rintro e w3 ⟨rfl, rfl⟩
              have kx : Blk (wr.alloc (.cells #[.int .u64 15, .int .i64 4, .int .i64 64] 61)) wr.heap.size 61 #[.int .u64 15, .int .i64 4, .int .i64 64] := Blk.new _ _ _
              have hwx := WrAt.alloc hwq.out (.cells #[.int .u64 15, .int .i64 4, .int .i64 64] 61)
              have kqx := kq.alloc (.cells #[.int .u64 15, .int .i64 4, .int .i64 64] 61)
              have hbx3 := hbq.alloc hqs (.cells #[.int .u64 15, .int .i64 4, .int .i64 64] 61)
              go_wp2_with fail
              refine (wput_i w.heap.size g _ 15 4 _ _ rfl rfl (by omega) (by omega) (by have := bits_le hle k; omega) _ hgb hwx).mono ?_
              rintro e w4 ⟨rfl, hwr4, hb4, hm4⟩
              have kx4 := kx.mod hm4 (by omega) (by decide)
              have kq4 := kqx.mod hm4 hgr (by decide)
              have x2 : w4.cell? ⟨wr.heap.size, 2, none⟩ = some (.int .i64 64) := kx4.cell 2
              go_wp2_with fail
              refine (wput_i w.heap.size g _ (u64I C) 64 _ _ (wrap_u64I C) rfl (u64I_lt C) (by omega) (by rw [List.length_append, toB_len]; have := bits_le hle k; omega) _ hgb hwr4).mono ?_
              rintro e w5 ⟨rfl, hwr5, hb5, hm5⟩
              have kq5 := kq4.mod hm5 hgr (by decide)
              have hwr5 := Lib.hid hwr5
              have hb45 := (hbx3.trans hb4).trans hb5
              have hT5 := Lib.hid (hTq.out.below hw0 (((((Below.refl w.heap.size wr).alloc hqs _).trans hb4).trans hb5)))
              go_wp2_with fail
              go_roundw
              case rel => exact ⟨k + 1, by omega, by go_num, by rw [last_step, Ht.out], by rw [step_step l hk0, Ht.out, Hx.out], Lib.hid (by rw [packT_step (by omega) hk0, Hx.out, Hy.out, Ht.out, HC.out, chg_row HEQ.out]; have := hwr5.out; simpa [markOf, List.append_assoc] using this), kq5, hT5, hb45⟩
              case measure => simp [intOf]; omega
      · obtain rfl : k = l.length := by omega
        obtain ⟨A9, c9, hB9, ho9⟩ := hwr.out
        rw [List.take_length] at hB9 ho9
        have e9 : toB l.length 16 ++ packF l = packT l := rfl
        rw [e9] at hB9 ho9
        have r0 : wr.cell? ⟨w.heap.size, 0, none⟩ = some (.slice none 0 0) := kR.cell 0
        have r1 : wr.cell? ⟨w.heap.size, 1, none⟩ = some (.int .i64 0) := kR.cell 1
        have f0 := kR.frozen 0
        have f1 := kR.frozen 1
        have q0 : wr.cell? ⟨g, 0, none⟩ = some (.slice A9 (packB (packT l)).length c9) := hB9.cell 0
        have q1 : wr.cell? ⟨g, 1, none⟩ = some (.int .i64 (packT l).length) := hB9.cell 1
        have ho9 := Lib.hid ho9
        clear e9
        go_wp2_with fail
        refine bodyPost_ret (v := .tuple #[.agg #[.slice A9 (packB (packT l)).length c9, .int .i64 (packT l).length], .int .i64 0]) (by simp [results, Tryd.results13, go_sem, *]) rfl (RV.mk ⟨A9, c9, rfl, ?_, ?_⟩)
        · exact own_set_other (own_set_other ho9.out (own_row_ne kR ho9.out (by decide)) 0 _) (own_row_ne kR ho9.out (by decide)) 1 _
        · exact (hbr.setCell (by simp) _).setCell (by simp) _
end Go.Proofs.YtmbpgenjjgepiaaDoor
