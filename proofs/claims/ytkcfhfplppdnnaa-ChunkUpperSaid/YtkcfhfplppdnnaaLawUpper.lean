/- The walk of the law ChunkUpper: it returns true. Conditions: the arguments fit their kinds. -/
import Derived.Test.YtkcfhfplppdnnaaLawLattice
namespace Go.Proofs.Ytkcfhfplppdnnaa
open Go.RowKit

theorem look_mem {l : List Smp} (h : Up l) {s : Smp} (hs : s ∈ l) : look l s.t = some s.v := by
  induction l with
  | nil => simp at hs
  | cons x l ih =>
    rw [look]
    rcases List.mem_cons.1 hs with rfl | hs
    · rw [if_pos rfl]
    · have := up_mem h s hs
      rw [if_neg (by omega)]
      exact ih (up_tail h) hs
theorem filter_look {l : List Smp} (h : Up l) (t : Int) : l.filter (inS t (t + 1)) = (match look l t with | none => [] | some v => [⟨t, v⟩]) := by
  induction l with
  | nil => rfl
  | cons x l ih =>
    rw [List.filter_cons, look]
    by_cases hx : x.t = t
    · have e1 : inS t (t + 1) x = true := by simp [inS]; omega
      have e2 : l.filter (inS t (t + 1)) = [] := by
        rw [List.filter_eq_nil_iff]
        intro y hy
        have := up_mem h y hy
        simp [inS]; omega
      rw [if_pos e1, if_pos hx, e2]
      subst hx
      rfl
    · have e1 : ¬ inS t (t + 1) x = true := by simp [inS]; omega
      rw [if_neg e1, if_neg hx]
      exact ih (up_tail h)
theorem mergeUp_len (a b : List Smp) : (mergeUp a b).length ≤ a.length + b.length := by
  fun_induction mergeUp a b <;> simp_all <;> omega
theorem upper_at {a b : List Smp} (h : (mergeN a b).2 = 0) {s : Smp} (hs : s ∈ a ∨ s ∈ b) : ∃ v, s.v ≤ v ∧ rangeN (mergeUp a b) s.t (s.t + 1) = [⟨s.t, v⟩] := by
  obtain ⟨ha, hb, hl, e⟩ := mergeN_ok h
  have hu := merge_up a b ha hb
  have e1 : rangeN (mergeUp a b) s.t (s.t + 1) = (match look (mergeUp a b) s.t with | none => [] | some v => [⟨s.t, v⟩]) := by
    unfold rangeN
    rw [if_neg (by rw [chkS_up hu hl]; simp), filter_look hu]
  rw [e1, look_merge a b ha hb]
  rcases hs with hs | hs
  · rw [look_mem ha hs]
    cases h : look b s.t with
    | none => exact ⟨s.v, Int.le_refl _, rfl⟩
    | some v => exact ⟨max s.v v, by omega, rfl⟩
  · rw [look_mem hb hs]
    cases h : look a s.t with
    | none => exact ⟨s.v, Int.le_refl _, rfl⟩
    | some v => exact ⟨max v s.v, by omega, rfl⟩

theorem range_any' (A : Option Addr) (n c : Nat) (l : List Smp) (hn : l.length = n) (hlc : n ≤ c) (hc : c ≤ maxLen) (a b : Int) (r : List Smp) (hr : rangeN l a b = r) (w : World) (h : Has w w.heap.size A (smpCs l)) :
    Calls Try.prog 25 #[.slice A n c, .int .i64 a, .int .i64 b] w (RV (fun v w' => ∃ A' c', v = .tuple #[.slice A' r.length c', .int .i64 (chkS l)] ∧ w'.ownsRow w.heap.size 31 2 (.slice A' r.length c') r.length (smpCs r) ∧ Below w.heap.size w w')) := by
  subst hn hr
  exact range_any A c l hlc hc a b w h

set_option maxRecDepth 1000000 in
set_option maxHeartbeats 4000000 in
theorem chunkUpper_true (w : World) (A : Option Addr) (ca : Nat) (a : List Smp) (sa : Smps a) (hac : a.length ≤ ca) (hca : ca ≤ maxLen) (_ : A = none → ca = 0) (hA : Has w w.heap.size A (smpCs a)) (_ : a.length ≤ 8796093022207)
    (B : Option Addr) (cb : Nat) (b : List Smp) (sb : Smps b) (hbc : b.length ≤ cb) (hcb : cb ≤ maxLen) (_ : B = none → cb = 0) (hB : Has w w.heap.size B (smpCs b)) (_ : b.length ≤ 8796093022207) :
    Calls Try.prog 5 #[.slice A a.length ca, .slice B b.length cb] w (R1 (.bool true) (Below w.heap.size w)) := by
  obtain ⟨⟨m, e⟩, hab⟩ : ∃ p, mergeN a b = p := ⟨_, rfl⟩
  have Hab := Lib.hid hab
  by_cases he : e = 0
  · have k0 : (mergeN a b).2 = 0 := by rw [hab]; exact he
    obtain ⟨ha, hb, hl, k1⟩ := mergeN_ok k0
    have hup : Hid (∀ s, s ∈ a ∨ s ∈ b → ∃ v, s.v ≤ v ∧ rangeN m s.t (s.t + 1) = [⟨s.t, v⟩]) := Lib.hid (fun s hs => by
      have := upper_at k0 hs
      rw [hab] at k1
      injection k1 with k1 _
      rw [k1]
      exact this)
    have hck : Hid (chkS m = 0) := Lib.hid (by
      rw [hab] at k1
      injection k1 with k1 _
      rw [k1]
      exact chkS_up (merge_up a b ha hb) hl)
    have hml : m.length ≤ a.length + b.length := by
      rw [hab] at k1
      injection k1 with k1 _
      rw [k1]
      exact mergeUp_len a b
    obtain ⟨la, lb⟩ := mergeN_len k0
    subst he
    clear hab k0 k1 hl ha hb
    go_enter Try.func5, Try.ntmps5
    go_wp2_with fail
    refine (chunks_true _).mono ?_
    rintro e w1 ⟨rfl, hb1⟩
    go_wp2_with fail
    refine (merge_any' A _ ca a rfl hac hca B _ cb b rfl hbc hcb _ _ (by exact Hab.out) _ (by exact hA.next hb1) (by exact hB.next hb1)).mono ?_
    rintro e w2 ⟨v, rfl, A2, c2, rfl, ho2, hb2'⟩
    have hb2 := bnext hb1 hb2'
    obtain ⟨l2, m2⟩ := own_len ho2
    have ho2 := Lib.hid ho2
    have hA2 := hA.next hb2
    have hB2 := hB.next hb2
    have hM2 := Lib.hid (Has.of_own ho2.out)
    have kb : Blk (w2.alloc (.cells #[.slice A a.length ca, .slice B b.length cb] 22)) w2.heap.size 22 #[.slice A a.length ca, .slice B b.length cb] := Blk.new _ _ _
    have hb3 : Below w.heap.size w (w2.alloc (.cells #[.slice A a.length ca, .slice B b.length cb] 22)) := hb2.alloc hb2.size _
    go_wp2_with fail
    go_loopw [30] (fun i wr => ∃ k : Nat, k ≤ 2 ∧ i = .int .i64 (k : Nat) ∧ Below (w2.alloc (.cells #[.slice A a.length ca, .slice B b.length cb] 22)).heap.size (w2.alloc (.cells #[.slice A a.length ca, .slice B b.length cb] 22)) wr) (fun i _ => 5 - (intOf i).toNat)
    case atStart => exact ⟨0, by omega, rfl, Below.refl _ _⟩
    case round =>
      obtain ⟨k, hk, rfl, hbr⟩ := hrel
      have hz2 : w2.heap.size + 1 ≤ wr.heap.size := by have := hbr.size; simpa using this
      have kr := Blk.next kb hbr
      have c0 : wr.cell? ⟨w2.heap.size, 0, none⟩ = some (.slice A a.length ca) := kr.cell 0
      have c1 : wr.cell? ⟨w2.heap.size, 1, none⟩ = some (.slice B b.length cb) := kr.cell 1
      have C0 := Lib.hid c0; clear c0
      have C1 := Lib.hid c1; clear c1
      rcases (show k = 0 ∨ k = 1 ∨ k = 2 by omega) with rfl | rfl | rfl
      · have c0 := C0.out
        rw [show ((0 : Nat) : Int) = 0 from rfl]
        go_wp2_with fail
        obtain ⟨wo, rfl⟩ : ∃ wo : World, wo = wr := ⟨_, rfl⟩
        go_loopw [36] (fun i wr => ∃ j : Nat, j ≤ a.length ∧ i = .int .i64 (j : Nat) ∧ Below (w2.alloc (.cells #[.slice A a.length ca, .slice B b.length cb] 22)).heap.size (w2.alloc (.cells #[.slice A a.length ca, .slice B b.length cb] 22)) wr) (fun i _ => a.length + 5 - (intOf i).toNat)
        case atStart => exact ⟨0, by omega, rfl, hbr⟩
        case round =>
          obtain ⟨j, hj, rfl, hbq⟩ := hrel
          have hzq : w2.heap.size + 1 ≤ wr.heap.size := by have := hbq.size; simpa using this
          have hLq := Lib.hid (Has.next ((hA2.alloc (Nat.le_refl _) (.cells #[.slice A a.length ca, .slice B b.length cb] 22)).more (by simp)) hbq)
          have hMq := Lib.hid (Has.next ((hM2.out.alloc (Nat.le_refl _) (.cells #[.slice A a.length ca, .slice B b.length cb] 22)).more (by simp)) hbq)
          have hzr' := hbq.size
          by_cases hlt : (j : Int) < (a.length : Int)
          · obtain ⟨ad, rfl, hbad, d1⟩ := hLq.out.at (smpCs_t (show j < a.length by omega))
            obtain ⟨ad', e, _, d2⟩ := hLq.out.at (smpCs_v (show j < a.length by omega))
            injection e with e
            subst e
            have d2 := cell_off d2 (by decide)
            obtain ⟨v, hv, hE⟩ := hup.out (at_ a j) (.inl (at_mem (by omega)))
            have HE := Lib.hid hE; clear hE
            have hs := (sa.at j)
            obtain ⟨⟨s1, s2⟩, s3, s4⟩ := hs
            by_cases hT : (at_ a j).t = 9223372036854775807
            · have HT := Lib.hid hT
              have hw : wrap64 ((at_ a j).t + 1) = -9223372036854775808 := by unfold wrap64; omega
              clear hT
              have g1 : decide ((at_ a j).t < -9223372036854775808) = false := by rw [decide_eq_false_iff_not]; omega
              go_wp2_with fail
              have hM4 : Has (wr.alloc (.cells #[.int .i64 (at_ a j).t, .int .i64 (at_ a j).v] 31)) (wr.alloc (.cells #[.int .i64 (at_ a j).t, .int .i64 (at_ a j).v] 31)).heap.size A2 (smpCs m) := (hMq.out.alloc (Nat.le_refl _) _).more (by simp)
              refine (range_any' A2 _ c2 m rfl l2 m2 _ _ _ rfl _ (by exact hM4)).mono ?_
              rintro e w5 ⟨v5, rfl, A5, c5, rfl, ho5, hb5⟩
              rw [hck.out]
              have kS := Blk.next (Blk.new wr 31 #[.int .i64 (at_ a j).t, .int .i64 (at_ a j).v]) hb5
              have s0 : w5.cell? ⟨wr.heap.size, 0, none⟩ = some (.int .i64 (at_ a j).t) := kS.cell 0
              have s1 : w5.cell? ⟨wr.heap.size, 1, none⟩ = some (.int .i64 (at_ a j).v) := kS.cell 1
              go_wp2_with fail
              go_quiet (fail)
              go_wp2_with fail
              go_roundw
              case rel => exact ⟨j + 1, by omega, by go_num, below_drewN ((hbq.alloc hzr' _).trans (hb5.mono (by simp; omega))) _⟩
              case measure => simp [intOf]; omega
            · have hT' : (at_ a j).t + 1 ≤ 9223372036854775807 := by omega
              have g1 : decide ((at_ a j).t < (at_ a j).t + 1) = true := by rw [decide_eq_true_iff]; omega
              have g2 : decide (v < (at_ a j).v) = false := by rw [decide_eq_false_iff_not]; omega
              clear hT
              go_wp2_with fail
              have hM4 : Has (wr.alloc (.cells #[.int .i64 (at_ a j).t, .int .i64 (at_ a j).v] 31)) (wr.alloc (.cells #[.int .i64 (at_ a j).t, .int .i64 (at_ a j).v] 31)).heap.size A2 (smpCs m) := (hMq.out.alloc (Nat.le_refl _) _).more (by simp)
              refine (range_any' A2 _ c2 m rfl l2 m2 _ _ _ (by exact HE.out) _ (by exact hM4)).mono ?_
              rintro e w5 ⟨v5, rfl, A5, c5, rfl, ho5, hb5⟩
              rw [hck.out]
              have kS := Blk.next (Blk.new wr 31 #[.int .i64 (at_ a j).t, .int .i64 (at_ a j).v]) hb5
              have s0 : w5.cell? ⟨wr.heap.size, 0, none⟩ = some (.int .i64 (at_ a j).t) := kS.cell 0
              have s1 : w5.cell? ⟨wr.heap.size, 1, none⟩ = some (.int .i64 (at_ a j).v) := kS.cell 1
              obtain ⟨rd, rfl, _, t0, t1⟩ := (Has.of_own ho5).head
              clear ho5
              go_wp2_with fail
              go_quiet (fail)
              go_wp2_with fail
              go_roundw
              case rel => exact ⟨j + 1, by omega, by go_num, below_drewN ((hbq.alloc hzr' _).trans (hb5.mono (by simp; omega))) _⟩
              case measure => simp [intOf]; omega
          · go_wp2_with fail
            go_roundw
            case rel => exact ⟨0 + 1, by omega, rfl, hbq⟩
            case measure => simp [intOf]
      · have c0 := C1.out
        rw [show ((1 : Nat) : Int) = 1 from rfl]
        go_wp2_with fail
        obtain ⟨wo, rfl⟩ : ∃ wo : World, wo = wr := ⟨_, rfl⟩
        go_loopw [36] (fun i wr => ∃ j : Nat, j ≤ b.length ∧ i = .int .i64 (j : Nat) ∧ Below (w2.alloc (.cells #[.slice A a.length ca, .slice B b.length cb] 22)).heap.size (w2.alloc (.cells #[.slice A a.length ca, .slice B b.length cb] 22)) wr) (fun i _ => b.length + 5 - (intOf i).toNat)
        case atStart => exact ⟨0, by omega, rfl, hbr⟩
        case round =>
          obtain ⟨j, hj, rfl, hbq⟩ := hrel
          have hzq : w2.heap.size + 1 ≤ wr.heap.size := by have := hbq.size; simpa using this
          have hLq := Lib.hid (Has.next ((hB2.alloc (Nat.le_refl _) (.cells #[.slice A a.length ca, .slice B b.length cb] 22)).more (by simp)) hbq)
          have hMq := Lib.hid (Has.next ((hM2.out.alloc (Nat.le_refl _) (.cells #[.slice A a.length ca, .slice B b.length cb] 22)).more (by simp)) hbq)
          have hzr' := hbq.size
          by_cases hlt : (j : Int) < (b.length : Int)
          · obtain ⟨ad, rfl, hbad, d1⟩ := hLq.out.at (smpCs_t (show j < b.length by omega))
            obtain ⟨ad', e, _, d2⟩ := hLq.out.at (smpCs_v (show j < b.length by omega))
            injection e with e
            subst e
            have d2 := cell_off d2 (by decide)
            obtain ⟨v, hv, hE⟩ := hup.out (at_ b j) (.inr (at_mem (by omega)))
            have HE := Lib.hid hE; clear hE
            have hs := (sb.at j)
            obtain ⟨⟨s1, s2⟩, s3, s4⟩ := hs
            by_cases hT : (at_ b j).t = 9223372036854775807
            · have HT := Lib.hid hT
              have hw : wrap64 ((at_ b j).t + 1) = -9223372036854775808 := by unfold wrap64; omega
              clear hT
              have g1 : decide ((at_ b j).t < -9223372036854775808) = false := by rw [decide_eq_false_iff_not]; omega
              go_wp2_with fail
              have hM4 : Has (wr.alloc (.cells #[.int .i64 (at_ b j).t, .int .i64 (at_ b j).v] 31)) (wr.alloc (.cells #[.int .i64 (at_ b j).t, .int .i64 (at_ b j).v] 31)).heap.size A2 (smpCs m) := (hMq.out.alloc (Nat.le_refl _) _).more (by simp)
              refine (range_any' A2 _ c2 m rfl l2 m2 _ _ _ rfl _ (by exact hM4)).mono ?_
              rintro e w5 ⟨v5, rfl, A5, c5, rfl, ho5, hb5⟩
              rw [hck.out]
              have kS := Blk.next (Blk.new wr 31 #[.int .i64 (at_ b j).t, .int .i64 (at_ b j).v]) hb5
              have s0 : w5.cell? ⟨wr.heap.size, 0, none⟩ = some (.int .i64 (at_ b j).t) := kS.cell 0
              have s1 : w5.cell? ⟨wr.heap.size, 1, none⟩ = some (.int .i64 (at_ b j).v) := kS.cell 1
              go_wp2_with fail
              go_quiet (fail)
              go_wp2_with fail
              go_roundw
              case rel => exact ⟨j + 1, by omega, by go_num, below_drewN ((hbq.alloc hzr' _).trans (hb5.mono (by simp; omega))) _⟩
              case measure => simp [intOf]; omega
            · have hT' : (at_ b j).t + 1 ≤ 9223372036854775807 := by omega
              have g1 : decide ((at_ b j).t < (at_ b j).t + 1) = true := by rw [decide_eq_true_iff]; omega
              have g2 : decide (v < (at_ b j).v) = false := by rw [decide_eq_false_iff_not]; omega
              clear hT
              go_wp2_with fail
              have hM4 : Has (wr.alloc (.cells #[.int .i64 (at_ b j).t, .int .i64 (at_ b j).v] 31)) (wr.alloc (.cells #[.int .i64 (at_ b j).t, .int .i64 (at_ b j).v] 31)).heap.size A2 (smpCs m) := (hMq.out.alloc (Nat.le_refl _) _).more (by simp)
              refine (range_any' A2 _ c2 m rfl l2 m2 _ _ _ (by exact HE.out) _ (by exact hM4)).mono ?_
              rintro e w5 ⟨v5, rfl, A5, c5, rfl, ho5, hb5⟩
              rw [hck.out]
              have kS := Blk.next (Blk.new wr 31 #[.int .i64 (at_ b j).t, .int .i64 (at_ b j).v]) hb5
              have s0 : w5.cell? ⟨wr.heap.size, 0, none⟩ = some (.int .i64 (at_ b j).t) := kS.cell 0
              have s1 : w5.cell? ⟨wr.heap.size, 1, none⟩ = some (.int .i64 (at_ b j).v) := kS.cell 1
              obtain ⟨rd, rfl, _, t0, t1⟩ := (Has.of_own ho5).head
              clear ho5
              go_wp2_with fail
              go_quiet (fail)
              go_wp2_with fail
              go_roundw
              case rel => exact ⟨j + 1, by omega, by go_num, below_drewN ((hbq.alloc hzr' _).trans (hb5.mono (by simp; omega))) _⟩
              case measure => simp [intOf]; omega
          · go_wp2_with fail
            go_roundw
            case rel => exact ⟨1 + 1, by omega, rfl, hbq⟩
            case measure => simp [intOf]
      · rw [show ((2 : Nat) : Int) = 2 from rfl]
        have hM9 := Lib.hid (Has.next ((hM2.out.alloc (Nat.le_refl _) (.cells #[.slice A a.length ca, .slice B b.length cb] 22)).more (by simp)) hbr)
        have hml' : (m.length : Int) ≤ (a.length : Int) + (b.length : Int) := by omega
        go_wp2_with fail
        refine (scheck_any A2 c2 m (by omega) _ (by exact hM9.out)).mono ?_
        rintro e w9 ⟨rfl, n9, rfl⟩
        rw [hck.out]
        go_wp2_with fail
        go_ret
        exact R1.mk rfl (below_drewN (hb3.trans (hbr.mono hb3.size)) _)
  · have k1 := mergeN_bad (a := a) (b := b) (by rw [hab]; exact he)
    rw [hab] at k1
    simp only [] at k1
    subst k1
    have f1 : (e != 0) = true := by rw [bne_iff_ne]; exact he
    clear hab he
    go_enter Try.func5, Try.ntmps5
    go_wp2_with fail
    refine (chunks_true _).mono ?_
    rintro e w1 ⟨rfl, hb1⟩
    go_wp2_with fail
    refine (merge_any' A _ ca a rfl hac hca B _ cb b rfl hbc hcb _ _ (by exact Hab.out) _ (by exact hA.next hb1) (by exact hB.next hb1)).mono ?_
    rintro e w2 ⟨v, rfl, A2, c2, rfl, ho2, hb2'⟩
    have hb2 := bnext hb1 hb2'
    clear ho2
    go_wp2_with fail
    go_ret
    exact R1.mk rfl hb2
end Go.Proofs.Ytkcfhfplppdnnaa
