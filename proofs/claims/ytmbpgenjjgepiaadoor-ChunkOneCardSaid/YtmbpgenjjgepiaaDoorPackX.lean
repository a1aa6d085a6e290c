/- What Pack of package xor makes. Conditions: measures of 64 bits; the table of de Bruijn lies in its cells. -/
import Derived.Test.YtmbpgenjjgepiaaDoorZeros
import Derived.Test.YtmbpgenjjgepiaaDoorPutBits
import Derived.Test.YtmbpgenjjgepiaaDoorU64s
import Derived.Deep.RegionHeld3
import Derived.Laws.Bits64
namespace Go.Proofs.YtmbpgenjjgepiaaDoor
open Go.RowKit

def U64all (l : List Nat) : Prop := ∀ x ∈ l, x < 18446744073709551616
theorem WrAt.drewA {w : World} {base g : Nat} {bs : List Bool} (h : WrAt w base g bs) : WrAt w.drew base g bs := by
  obtain ⟨A, c, hB, ho⟩ := h
  exact ⟨A, c, hB, own_drewN ho 1⟩
theorem WrAt.set {w : World} {base g q : Nat} {bs : List Bool} {t : TypeId} {cs : Array Value} (h : WrAt w base g bs) (k : Blk w q t cs) (hq : q ≠ g) (ht : t ≠ 5) (i : Nat) (u : Value) : WrAt (w.setCell ⟨q, i, none⟩ u) base g bs := by
  obtain ⟨A, c, hB, ho⟩ := h
  exact ⟨A, c, (Below.heap_setCell w ⟨q, i, none⟩ u g (fun e => hq e.symm)).trans hB, own_set_other ho (own_row_ne k ho ht) i u⟩
theorem Blk.drewX {w : World} {g : Nat} {t : TypeId} {cs : Array Value} (h : Blk w g t cs) : Blk w.drew g t cs := h
theorem Blk.farX {w : World} {k : Nat} {t : TypeId} {cs : Array Value} (h : Blk w k t cs) (p : Addr) (u : Value) (hne : p.block ≠ k) : Blk (w.setCell p u) k t cs := (Below.heap_setCell w p u k (fun e => hne (by rw [e]))).trans h
theorem keepX {W : World} {q : Nat} {t : TypeId} {x0 x1 x2 : Value} (h : Blk W q t #[x0, x1, x2]) : W.cell? ⟨q, 0, none⟩ = some x0 ∧ W.cell? ⟨q, 1, none⟩ = some x1 ∧ W.cell? ⟨q, 2, none⟩ = some x2 := ⟨h.cell 0, h.cell 1, h.cell 2⟩
theorem shr_nat (t b : Nat) : (t : Int) / 2 ^ b = ((t / 2 ^ b : Nat) : Int) := by simp
/-- the window in its cells -/
abbrev winC (W : Win) : Array Value := #[.bool W.1, .int .i64 (W.2.1 : Nat), .int .i64 (W.2.2 : Nat)]
theorem xbits_le {l : List Nat} (h : l.length ≤ 1000) (k : Nat) : (toB l.length 16 ++ xF (l.take k)).length ≤ 79000 := by
  have h1 := xF_len (l.take k)
  have h2 : (l.take k).length ≤ l.length := by rw [List.length_take]; omega
  rw [List.length_append, toB_len]
  omega

set_option maxRecDepth 1000000 in
set_option maxHeartbeats 4000000 in
theorem xpack_any (A : Option Addr) (c : Nat) (l : List Nat) (hl : l.length ≤ maxLen) (hi : U64all l) (w : World) (h : Has w w.heap.size A (u64s l)) (ht : DebAt w) (hw0 : 1 < w.heap.size) :
    Calls Tryd.prog 14 #[.slice A l.length c] w (RV (BitsP (packXN l) w)) := by
  have hbx : Below w.heap.size w (w.alloc (.cells #[.slice none 0 0, .int .i64 0] 43)) := (Below.refl _ _).alloc (Nat.le_refl _) _
  have kR0 : Blk (w.alloc (.cells #[.slice none 0 0, .int .i64 0] 43)) w.heap.size 43 #[.slice none 0 0, .int .i64 0] := Blk.new _ _ _
  by_cases h1000 : (1000 : Int) < (l.length : Int)
  · have E := Lib.hid (show packXN l = (([], 0), 2) by unfold packXN; rw [if_pos (by omega)])
    rw [E.out]
    go_enter Tryd.func14, Tryd.ntmps14
    go_wp2_with fail
    refine bodyPost_ret (v := .tuple #[.agg #[.slice none 0 0, .int .i64 0], .int .i64 2]) (by simp [results, Tryd.results14, go_sem, *]) rfl (RV.mk ⟨none, 0, rfl, ⟨rfl, .inl ⟨rfl, rfl⟩⟩, hbx⟩)
  · have hle : l.length ≤ 1000 := by omega
    have E := Lib.hid (show packXN l = ((packB (packX l), ((packX l).length : Int)), 0) by unfold packXN; rw [if_neg (by omega)])
    rw [E.out]
    have h1000' : (l.length : Int) ≤ 1000 := by omega
    have hbx2 := hbx.alloc (by simp) (.cells #[.slice none 0 0, .int .i64 0] 58)
    have kR1 := kR0.alloc (.cells #[.slice none 0 0, .int .i64 0] 58)
    have hk0 : Blk ((w.alloc (.cells #[.slice none 0 0, .int .i64 0] 43)).alloc (.cells #[.slice none 0 0, .int .i64 0] 58)) (w.heap.size + 1) 58 #[.slice none 0 0, .int .i64 0] := by simpa using Blk.new (w.alloc (.cells #[.slice none 0 0, .int .i64 0] 43)) 58 #[.slice none 0 0, .int .i64 0]
    have hwr0 : WrAt ((w.alloc (.cells #[.slice none 0 0, .int .i64 0] 43)).alloc (.cells #[.slice none 0 0, .int .i64 0] 58)) w.heap.size (w.heap.size + 1) [] :=
      ⟨none, 0, hk0, ⟨rfl, .inl ⟨rfl, rfl⟩⟩⟩
    have ewl : IntKind.u64.wrap (l.length : Int) = (l.length : Int) := IntWalk.u64_in _ (by omega)
    go_enter Tryd.func14, Tryd.ntmps14
    go_wp2_with fail
    refine (wput_any w.heap.size (w.heap.size + 1) [] l.length 16 (by omega) (by omega) (by simp) _ (by omega) hwr0).mono ?_
    rintro e w1 ⟨rfl, hwr1, hb1, hm1⟩
    have hb1' := hbx2.trans hb1
    have kR2 := kR1.mod hm1 (by omega) (by decide)
    have hgl : w.heap.size + 1 < w1.heap.size := by obtain ⟨_, _, hB, _⟩ := hwr1; exact hB.lt
    rw [List.nil_append] at hwr1
    go_wp2_with fail
    obtain ⟨g, hg⟩ : ∃ g, w.heap.size + 1 = g := ⟨_, rfl⟩
    obtain ⟨q, hq⟩ : ∃ q, w1.heap.size = q := ⟨_, rfl⟩
    have hgb : w.heap.size ≤ g := by omega
    have hgr : w.heap.size ≠ g := by omega
    have hqg : q ≠ g := by omega
    have hqr : q ≠ w.heap.size := by omega
    have hqb : w.heap.size ≤ q := by omega
    have hwr2 := Lib.hid (WrAt.alloc hwr1 (.cells #[.bool false, .int .i64 0, .int .i64 0] 65))
    have kR3 := kR2.alloc (.cells #[.bool false, .int .i64 0, .int .i64 0] 65)
    have kW3 : Blk (w1.alloc (.cells #[.bool false, .int .i64 0, .int .i64 0] 65)) w1.heap.size 65 #[.bool false, .int .i64 0, .int .i64 0] := Blk.new _ _ _
    have hb3 : Below w.heap.size w (w1.alloc (.cells #[.bool false, .int .i64 0, .int .i64 0] 65)) := hb1'.alloc hb1'.size _
    have HT := Lib.hid (ht.below hw0 hb3); clear ht
    rw [hq] at kW3
    rw [hg] at hwr2 ⊢
    rw [hq]
    clear hwr0 hk0 hm1 hb1 ewl hbx2 hg kR0 kR1 kR2 hwr1 hgl hq hb1'
    have HI := Lib.hid hi; clear hi
    generalize w1.alloc (.cells #[.bool false, .int .i64 0, .int .i64 0] 65) = w2 at hwr2 kR3 kW3 hb3 HT ⊢
    go_loopw [21] (fun i wr => ∃ k : Nat, k ≤ l.length ∧ i = .int .i64 (k : Nat) ∧ Hid (WrAt wr w.heap.size g (toB l.length 16 ++ xF (l.take k))) ∧ Blk wr w.heap.size 43 #[.slice none 0 0, .int .i64 0] ∧ Hid (Blk wr q 65 (winC (wF (l.take k)))) ∧ Hid (DebAt wr) ∧ Below w.heap.size w wr) (fun i _ => l.length + 5 - (intOf i).toNat)
    case atStart => exact ⟨0, by omega, rfl, Lib.hid (by simpa [xF] using hwr2.out), kR3, Lib.hid kW3, HT, hb3⟩
    case round =>
      obtain ⟨k, hk, rfl, hwr, kR, kW, hT, hbr⟩ := hrel
      have hbs := hbr.size
      by_cases hlt : (k : Int) < (l.length : Int)
      · obtain ⟨ad, rfl, _, c0⟩ := (h.below hbr).at (u64s_at (show k < l.length by omega))
        have hxk := HI.out _ (at_mem (show k < l.length by omega))
        by_cases hk0 : k = 0
        · subst hk0
          have c0 : wr.cell? ad = some (.int .u64 (at_ l 0 : Nat)) := by simpa [Addr.add] using c0
          obtain ⟨t, ht⟩ : ∃ t, at_ l 0 = t := ⟨_, rfl⟩
          rw [ht] at c0 hxk
          have HW := Lib.hid (show winC (wF (l.take 1)) = winC (wF (l.take 0)) by rw [(xF_one (by omega)).2]; rfl)
          go_wp2_with fail
          refine (wput_i w.heap.size g _ t 64 _ _ rfl rfl hxk (by omega) (by simp [xF, toB_len]) _ hgb hwr.out).mono ?_
          rintro e w2 ⟨rfl, hwr2, hb2, hm2⟩
          have kR2 := kR.mod hm2 hgr (by decide)
          have kW2 := Lib.hid (Blk.mod kW.out hm2 hqg (by decide))
          have hwr2 := Lib.hid hwr2
          have ht := Lib.hid ht
          go_wp2_with fail
          go_roundw
          case rel => exact ⟨1, by omega, rfl, Lib.hid (by rw [(xF_one (by omega)).1, ht.out]; simpa [xF] using hwr2.out), kR2, Lib.hid (by rw [HW.out]; exact kW2.out), Lib.hid (hT.out.below hw0 hb2), hbr.trans hb2⟩
          case measure => first | (simp [intOf]; done) | (simp [intOf]; omega)
        · obtain ⟨j, hj⟩ : ∃ j, k = j + 1 := ⟨k - 1, by omega⟩
          obtain ⟨ad', e, _, c1⟩ := (h.below hbr).at (u64s_at (show j < l.length by omega))
          injection e with e
          subst e
          have hxj := HI.out _ (at_mem (show j < l.length by omega))
          have hk1 : ((k : Int) == 0) = false := by rw [beq_eq_false_iff_ne]; omega
          have e1 : IntKind.i64.wrap ((k : Int) - 1) = (j : Int) := IntWalk.i64_in _ (by omega) |>.trans (by omega)
          obtain ⟨hF, hW⟩ := xF_step (show k < l.length by omega) hk0
          rw [show k - 1 = j by omega] at hF hW
          obtain ⟨t, ht⟩ : ∃ t, at_ l k = t := ⟨_, rfl⟩
          obtain ⟨x, hx⟩ : ∃ x, at_ l j = x := ⟨_, rfl⟩
          rw [ht] at c0 hxk hF hW
          rw [hx] at c1 hxj hF hW
          have eX := bits_xor_u64_nat t x hxk hxj
          have hT64 := xor_lt hxk hxj
          obtain ⟨T, hTT⟩ : ∃ T, t ^^^ x = T := ⟨_, rfl⟩
          rw [hTT] at eX hT64 hF hW
          have hok := wF_ok (l := l.take k) (fun y hy => HI.out y (List.mem_of_mem_take hy))
          have hKW := kW.out
          obtain ⟨⟨s, a, b⟩, hWW⟩ : ∃ W, wF (l.take k) = W := ⟨_, rfl⟩
          rw [hWW] at hKW hF hW hok
          have hln := xbits_le hle k
          have Hj := Lib.hid hj
          clear ht hx hTT hWW kW
          have q1 : (0 : Int) ≤ (j : Int) := by omega
          have q2 : (j : Int) < (l.length : Int) := by omega
          clear hj
          by_cases hT0 : T = 0
          · subst hT0
            have HF := Lib.hid hF; clear hF
            have HW := Lib.hid hW; clear hW
            have KW := Lib.hid hKW; clear hKW
            go_wp2_with fail
            refine (wput_i w.heap.size g _ 0 1 _ _ rfl rfl (by omega) (by omega) (by omega) _ hgb hwr.out).mono ?_
            rintro e w4 ⟨rfl, hwr4, hb4, hm4⟩
            have kR4 := kR.mod hm4 hgr (by decide)
            have kW4 := Lib.hid (Blk.mod KW.out hm4 hqg (by decide))
            have hwr4 := Lib.hid hwr4
            go_wp2_with fail
            go_roundw
            case rel => exact ⟨k + 1, by omega, by go_num, Lib.hid (by rw [HF.out, ← List.append_assoc]; exact hwr4.out), kR4, Lib.hid (by rw [HW.out]; exact kW4.out), Lib.hid (hT.out.below hw0 hb4), hbr.trans hb4⟩
            case measure => simp [intOf]; omega
          · have hTz : ((T : Int) == 0) = false := by rw [beq_eq_false_iff_ne]; omega
            obtain ⟨f1, f2, f3, f4, f5⟩ := turn_facts hT0 hT64
            obtain ⟨L, hL⟩ : ∃ L, xlead T = L := ⟨_, rfl⟩
            obtain ⟨R, hR⟩ : ∃ R, xtail T = R := ⟨_, rfl⟩
            have hLA : ∀ w, Calls Tryd.prog 25 #[.int .u64 T] w (R1 (.int .i64 (L : Nat)) (fun w' => w' = w)) := fun w => by rw [← hL]; exact lead_any T hT64 w
            have hRA : ∀ w, DebAt w → Calls Tryd.prog 26 #[.int .u64 T] w (R1 (.int .i64 (R : Nat)) (fun w' => w' = w)) := fun w hw => by rw [← hR]; exact tail_any T hT0 hT64 w hw
            have hY : s = true ∧ a ≤ L ∧ b ≤ R → xbits (s, a, b) T = toB 2 2 ++ toB (T / 2 ^ b) (64 - a - b) ∧ xwin (s, a, b) T = (s, a, b) := by
              rintro ⟨rfl, g2, g3⟩
              have hf : xfit (true, a, b) T = true := by unfold xfit; simp [hL, hR, g2, g3]
              unfold xbits xwin
              rw [if_neg hT0, if_neg hT0, if_pos hf, if_pos hf]
              exact ⟨rfl, rfl⟩
            have hN : ¬ (s = true ∧ a ≤ L ∧ b ≤ R) → xbits (s, a, b) T = toB 3 2 ++ (toB L 6 ++ (toB (64 - L - R - 1) 6 ++ toB (T / 2 ^ R) (64 - L - R))) ∧ xwin (s, a, b) T = (true, L, R) := by
              intro hn
              have hf : ¬ xfit (s, a, b) T = true := fun hf => hn (by have := xfit_of hf; rw [hL, hR] at this; exact this)
              unfold xbits xwin
              rw [if_neg hT0, if_neg hT0, if_neg hf, if_neg hf, hL, hR]
              exact ⟨rfl, rfl⟩
            rw [hL] at f1 f3
            rw [hR] at f2 f3
            clear hL hR f4 f5
            have hab : a + b < 64 := hok.1
            clear hok
            have y0 : wr.cell? ⟨q, 0, none⟩ = some (.bool s) := hKW.cell 0
            have y1 : wr.cell? ⟨q, 1, none⟩ = some (.int .i64 (a : Nat)) := hKW.cell 1
            have y2 : wr.cell? ⟨q, 2, none⟩ = some (.int .i64 (b : Nat)) := hKW.cell 2
            have KW := Lib.hid hKW; clear hKW
            have hTb : ∀ b, T / 2 ^ b < 18446744073709551616 := fun b => Nat.lt_of_le_of_lt (Nat.div_le_self _ _) hT64
            have HTb := Lib.hid hTb; clear hTb
            rcases (show (s = true ∧ a ≤ L ∧ b ≤ R) ∨ (s = false ∨ (s = true ∧ L < a) ∨ (s = true ∧ a ≤ L ∧ R < b)) by cases s <;> simp <;> omega) with hfit | hno
            · obtain ⟨eB, eW⟩ := hY hfit
              rw [eB] at hF
              rw [eW] at hW
              obtain ⟨rfl, g2, g3⟩ := hfit
              clear hY hN eB eW
              have HF := Lib.hid hF; clear hF
              have HW := Lib.hid hW; clear hW
              have g2 : (a : Int) ≤ (L : Int) := by omega
              have g3 : (b : Int) ≤ (R : Int) := by omega
              go_wp2_with fail
              refine (hLA _).mono ?_
              rintro e w3 ⟨rfl, hw3⟩
              rw [hw3]; clear hw3 w3
              go_wp2_with fail
              refine (hRA _ hT.out).mono ?_
              rintro e w3 ⟨rfl, hw3⟩
              rw [hw3]; clear hw3 w3
              go_wp2_with fail
              refine (wput_i w.heap.size g _ 2 2 _ _ rfl rfl (by omega) (by omega) (by omega) _ hgb hwr.out).mono ?_
              rintro e w4 ⟨rfl, hwr4, hb4, hm4⟩
              have kR4 := Lib.hid (kR.mod hm4 hgr (by decide))
              have kW4 := Blk.mod KW.out hm4 hqg (by decide)
              have hT4 := Lib.hid (hT.out.below hw0 hb4)
              have hb04 := Lib.hid (hbr.trans hb4)
              have hwr4 := Lib.hid hwr4
              clear y0 y1 y2 c0 c1 hm4 hb4 hwr kR hT hLA hRA KW
              have y0 : w4.cell? ⟨q, 0, none⟩ = some (.bool true) := kW4.cell 0
              have y1 : w4.cell? ⟨q, 1, none⟩ = some (.int .i64 (a : Nat)) := kW4.cell 1
              have y2 : w4.cell? ⟨q, 2, none⟩ = some (.int .i64 (b : Nat)) := kW4.cell 2
              go_wp2_with fail
              go_region_held3 (fun w' => w'.cell? ⟨q, 0, none⟩ = some (.bool true) ∧ w'.cell? ⟨q, 1, none⟩ = some (.int .i64 (a : Nat)) ∧ w'.cell? ⟨q, 2, none⟩ = some (.int .i64 (b : Nat)))
                (first | (refine keepX (t := 65) ?_; (repeat' (first | with_reducible exact kW8 | with_reducible exact kW7 | with_reducible exact kW4 | with_reducible refine Blk.drewX ?_)); done) | (trace_state; fail))
                (first
                  | (go_at_call 27; refine (size_any true (a : Nat) (b : Nat) (by omega) (by omega) (by omega) (by omega) _).mono ?_; rintro e w7 ⟨rfl, hw7⟩; have hwr7 : WrAt w7 w.heap.size g (toB l.length 16 ++ xF (l.take k) ++ toB 2 2) := (by rw [hw7]; first | with_reducible exact WrAt.alloc hwr4.out _ | with_reducible exact WrAt.alloc (WrAt.drewA hwr4.out) _); have kW7 : Blk w7 q 65 _ := (by rw [hw7]; first | with_reducible exact Blk.alloc kW4 _ | with_reducible exact Blk.alloc (Blk.drewX kW4) _); have kR7 : Blk w7 w.heap.size 43 _ := (by rw [hw7]; first | with_reducible exact Blk.alloc kR4.out _ | with_reducible exact Blk.alloc (Blk.drewX kR4.out) _); have hb07 : Below w.heap.size w w7 := (by rw [hw7]; first | with_reducible exact hb04.out.alloc hb04.out.size _ | exact Below.alloc (below_drewN hb04.out 1) (below_drewN hb04.out 1).size _); have hT7 : DebAt w7 := (by rw [hw7]; first | with_reducible exact hT4.out.below hw0 ((Below.refl _ _).alloc hb04.out.size _) | exact DebAt.below hT4.out hw0 (Below.alloc (below_drewN (Below.refl _ _) 1) (below_drewN hb04.out 1).size _)); clear hw7)
                  | (have hz := kW7; go_at_call 23; refine (wput_i w.heap.size g (toB l.length 16 ++ xF (l.take k) ++ toB 2 2) (T / 2 ^ b) (64 - a - b) _ _ (by simp) (by omega) (HTb.out _) (by omega) (by rw [List.length_append, toB_len]; omega) _ hgb (by first | with_reducible exact hwr7 | with_reducible exact WrAt.drewA hwr7)).mono ?_; rintro e w8 ⟨rfl, hwr8, hb8, hm8⟩; have kR8 := Blk.mod (show Blk _ w.heap.size 43 _ by first | with_reducible exact kR7 | with_reducible exact Blk.drewX kR7) hm8 hgr (by decide); have kW8 := Blk.mod (show Blk _ q 65 _ by first | with_reducible exact kW7 | with_reducible exact Blk.drewX kW7) hm8 hqg (by decide); have hb08 := Below.trans (show Below w.heap.size w _ by first | with_reducible exact hb07 | with_reducible exact below_drewN hb07 1) hb8; have hT8 := DebAt.below (show DebAt _ by first | with_reducible exact hT7 | exact hT7) hw0 hb8))
              have hwr8 := Lib.hid hwr8
              go_wp2_with fail
              go_roundw
              case rel => exact ⟨k + 1, by omega, by go_num, Lib.hid (by rw [HF.out]; have := hwr8.out; simpa [List.append_assoc] using this), kR8, Lib.hid (by rw [HW.out]; exact kW8), Lib.hid hT8, hb08⟩
              case measure => simp [intOf]; omega
            · obtain ⟨eB, eW⟩ := hN (by rcases hno with h1 | h1 | h1 <;> (rintro ⟨h2, h3, h4⟩; first | (rw [h1] at h2; cases h2) | omega))
              rw [eB] at hF
              rw [eW] at hW
              clear hY hN eB eW
              have HF := Lib.hid hF; clear hF
              have HW := Lib.hid hW; clear hW
              have eL : IntKind.u64.wrap (L : Int) = (L : Int) := IntWalk.u64_in _ (by omega)
              have eS : IntKind.i64.wrap (64 - (L : Int) - (R : Int) - 1) = 64 - (L : Int) - (R : Int) - 1 := IntWalk.i64_in _ (by omega)
              have eU : IntKind.u64.wrap (64 - (L : Int) - (R : Int) - 1) = 64 - (L : Int) - (R : Int) - 1 := IntWalk.u64_in _ (by omega)
              have fz := KW.out.frozen
              have fz0 := fz 0
              have fz1 := fz 1
              have fz2 := fz 2
              clear fz
              rcases hno with rfl | ⟨rfl, g2⟩ | ⟨rfl, g2, g3⟩
              all_goals try have g2 : (a : Int) ≤ (L : Int) := by omega
              all_goals try have g3 : ¬ (b : Int) ≤ (R : Int) := by omega
              all_goals try have g2 : ¬ (a : Int) ≤ (L : Int) := by omega
              all_goals
                go_wp2_with fail
                refine (hLA _).mono ?_
                rintro e w3 ⟨rfl, hw3⟩
                rw [hw3]; clear hw3 w3
                go_wp2_with fail
                refine (hRA _ hT.out).mono ?_
                rintro e w3 ⟨rfl, hw3⟩
                rw [hw3]; clear hw3 w3
                go_wp2_with fail
                have hwrS := Lib.hid (((hwr.out.set KW.out hqg (by decide) 0 (.bool true)).set (KW.out.set 0 (.bool true)) hqg (by decide) 1 (.int .i64 (L : Nat))).set ((KW.out.set 0 (.bool true)).set 1 (.int .i64 (L : Nat))) hqg (by decide) 2 (.int .i64 (R : Nat)))
                have kRS := ((kR.farX ⟨q, 0, none⟩ (.bool true) hqr).farX ⟨q, 1, none⟩ (.int .i64 (L : Nat)) hqr).farX ⟨q, 2, none⟩ (.int .i64 (R : Nat)) hqr
                have kWS : Blk (((wr.setCell ⟨q, 0, none⟩ (.bool true)).setCell ⟨q, 1, none⟩ (.int .i64 (L : Nat))).setCell ⟨q, 2, none⟩ (.int .i64 (R : Nat))) q 65 #[.bool true, .int .i64 (L : Nat), .int .i64 (R : Nat)] := by
                  have := ((KW.out.set 0 (.bool true)).set 1 (.int .i64 (L : Nat))).set 2 (.int .i64 (R : Nat))
                  simpa using this
                have hbS := Lib.hid (((hbr.setCell (p := ⟨q, 0, none⟩) hqb (.bool true)).setCell (p := ⟨q, 1, none⟩) hqb (.int .i64 (L : Nat))).setCell (p := ⟨q, 2, none⟩) hqb (.int .i64 (R : Nat)))
                have hTS := Lib.hid (DebAt.below hT.out hw0 ((((Below.refl w.heap.size wr).setCell (p := ⟨q, 0, none⟩) hqb (.bool true)).setCell (p := ⟨q, 1, none⟩) hqb (.int .i64 (L : Nat))).setCell (p := ⟨q, 2, none⟩) hqb (.int .i64 (R : Nat))))
                clear c0 c1 fz0 fz1 fz2 y0 y1 y2 hwr kR hT KW hLA hRA hbr
                generalize ((wr.setCell ⟨q, 0, none⟩ (.bool true)).setCell ⟨q, 1, none⟩ (.int .i64 (L : Nat))).setCell ⟨q, 2, none⟩ (.int .i64 (R : Nat)) = wS at hwrS kRS kWS hbS hTS ⊢
                refine (wput_i w.heap.size g _ 3 2 _ _ rfl rfl (by omega) (by omega) (by omega) _ hgb hwrS.out).mono ?_
                rintro e w4 ⟨rfl, hwr4, hb4, hm4⟩
                have kR4 := kRS.mod hm4 hgr (by decide)
                have kW4 := kWS.mod hm4 hqg (by decide)
                have hT4 := Lib.hid (hTS.out.below hw0 hb4)
                have hb04 := Lib.hid (hbS.out.trans hb4)
                clear hwrS kRS kWS hbS hTS hm4 hb4
                go_wp2_with fail
                refine (wput_i w.heap.size g (toB l.length 16 ++ xF (l.take k) ++ toB 3 2) L 6 _ _ rfl rfl (by omega) (by omega) (by rw [List.length_append, toB_len]; omega) _ hgb hwr4).mono ?_
                rintro e w5 ⟨rfl, hwr5, hb5, hm5⟩
                have kR5 := kR4.mod hm5 hgr (by decide)
                have kW5 := kW4.mod hm5 hqg (by decide)
                have hT5 := Lib.hid (hT4.out.below hw0 hb5)
                have hb05 := Lib.hid (hb04.out.trans hb5)
                clear hwr4 kR4 kW4 hb04 hT4 hm5 hb5
                have y0 : w5.cell? ⟨q, 0, none⟩ = some (.bool true) := kW5.cell 0
                have y1 : w5.cell? ⟨q, 1, none⟩ = some (.int .i64 (L : Nat)) := kW5.cell 1
                have y2 : w5.cell? ⟨q, 2, none⟩ = some (.int .i64 (R : Nat)) := kW5.cell 2
                go_wp2_with fail
                refine (size_any true (L : Nat) (R : Nat) (by omega) (by omega) (by omega) (by omega) _).mono ?_
                rintro e w6 ⟨rfl, hw6⟩
                have hwr6 := WrAt.alloc hwr5 (.cells #[.bool true, .int .i64 (L : Nat), .int .i64 (R : Nat)] 65)
                have kR6 := kR5.alloc (.cells #[.bool true, .int .i64 (L : Nat), .int .i64 (R : Nat)] 65)
                have kW6 := kW5.alloc (.cells #[.bool true, .int .i64 (L : Nat), .int .i64 (R : Nat)] 65)
                have hb06 := Lib.hid (hb05.out.alloc hb05.out.size (.cells #[.bool true, .int .i64 (L : Nat), .int .i64 (R : Nat)] 65))
                have hT6 := Lib.hid (hT5.out.below hw0 ((Below.refl w.heap.size w5).alloc hb05.out.size (.cells #[.bool true, .int .i64 (L : Nat), .int .i64 (R : Nat)] 65)))
                rw [← hw6] at hwr6 kR6 kW6 hb06 hT6
                clear hw6 y0 y1 y2 hwr5 kR5 kW5 hb05 hT5
                go_wp2_with fail
                refine (wput_i w.heap.size g (toB l.length 16 ++ xF (l.take k) ++ toB 3 2 ++ toB L 6) (64 - L - R - 1) 6 _ _ (by omega) rfl (by omega) (by omega) (by rw [List.length_append, List.length_append, toB_len, toB_len]; omega) _ hgb hwr6).mono ?_
                rintro e w4 ⟨rfl, hwr4, hb4, hm4⟩
                have kR4 := Lib.hid (kR6.mod hm4 hgr (by decide))
                have kW4 := kW6.mod hm4 hqg (by decide)
                have hT4 := Lib.hid (hT6.out.below hw0 hb4)
                have hb04 := Lib.hid (hb06.out.trans hb4)
                have hwr4 := Lib.hid hwr4
                clear hwr6 kR6 kW6 hb06 hT6 hm4 hb4
                have y0 : w4.cell? ⟨q, 0, none⟩ = some (.bool true) := kW4.cell 0
                have y1 : w4.cell? ⟨q, 1, none⟩ = some (.int .i64 (L : Nat)) := kW4.cell 1
                have y2 : w4.cell? ⟨q, 2, none⟩ = some (.int .i64 (R : Nat)) := kW4.cell 2
                go_wp2_with fail
                go_region_held3 (fun w' => w'.cell? ⟨q, 0, none⟩ = some (.bool true) ∧ w'.cell? ⟨q, 1, none⟩ = some (.int .i64 (L : Nat)) ∧ w'.cell? ⟨q, 2, none⟩ = some (.int .i64 (R : Nat)))
                  (first | (refine keepX (t := 65) ?_; (repeat' (first | with_reducible exact kW8 | with_reducible exact kW7 | with_reducible exact kW4 | with_reducible refine Blk.drewX ?_)); done) | (trace_state; fail))
                  (first
                    | (go_at_call 27; refine (size_any true (L : Nat) (R : Nat) (by omega) (by omega) (by omega) (by omega) _).mono ?_; rintro e w7 ⟨rfl, hw7⟩; have hwr7 : WrAt w7 w.heap.size g (toB l.length 16 ++ xF (l.take k) ++ toB 3 2 ++ toB L 6 ++ toB (64 - L - R - 1) 6) := (by rw [hw7]; first | with_reducible exact WrAt.alloc hwr4.out _ | with_reducible exact WrAt.alloc (WrAt.drewA hwr4.out) _); have kW7 : Blk w7 q 65 _ := (by rw [hw7]; first | with_reducible exact Blk.alloc kW4 _ | with_reducible exact Blk.alloc (Blk.drewX kW4) _); have kR7 : Blk w7 w.heap.size 43 _ := (by rw [hw7]; first | with_reducible exact Blk.alloc kR4.out _ | with_reducible exact Blk.alloc (Blk.drewX kR4.out) _); have hb07 : Below w.heap.size w w7 := (by rw [hw7]; first | with_reducible exact hb04.out.alloc hb04.out.size _ | exact Below.alloc (below_drewN hb04.out 1) (below_drewN hb04.out 1).size _); have hT7 : DebAt w7 := (by rw [hw7]; first | with_reducible exact hT4.out.below hw0 ((Below.refl _ _).alloc hb04.out.size _) | exact DebAt.below hT4.out hw0 (Below.alloc (below_drewN (Below.refl _ _) 1) (below_drewN hb04.out 1).size _)); clear hw7)
                    | (have hz := kW7; go_at_call 23; refine (wput_i w.heap.size g (toB l.length 16 ++ xF (l.take k) ++ toB 3 2 ++ toB L 6 ++ toB (64 - L - R - 1) 6) (T / 2 ^ R) (64 - L - R) _ _ (by simp) (by omega) (HTb.out _) (by omega) (by rw [List.length_append, List.length_append, List.length_append, toB_len, toB_len, toB_len]; omega) _ hgb (by first | with_reducible exact hwr7 | with_reducible exact WrAt.drewA hwr7)).mono ?_; rintro e w8 ⟨rfl, hwr8, hb8, hm8⟩; have kR8 := Blk.mod (show Blk _ w.heap.size 43 _ by first | with_reducible exact kR7 | with_reducible exact Blk.drewX kR7) hm8 hgr (by decide); have kW8 := Blk.mod (show Blk _ q 65 _ by first | with_reducible exact kW7 | with_reducible exact Blk.drewX kW7) hm8 hqg (by decide); have hb08 := Below.trans (show Below w.heap.size w _ by first | with_reducible exact hb07 | with_reducible exact below_drewN hb07 1) hb8; have hT8 := DebAt.below (show DebAt _ by first | with_reducible exact hT7 | exact hT7) hw0 hb8))
                have hwr8 := Lib.hid hwr8
                go_wp2_with fail
                go_roundw
                case rel => exact ⟨k + 1, by omega, by go_num, Lib.hid (by rw [HF.out]; have := hwr8.out; simpa [List.append_assoc] using this), kR8, Lib.hid (by rw [HW.out]; exact kW8), Lib.hid hT8, hb08⟩
                case measure => simp [intOf]; omega
      · obtain rfl : k = l.length := by omega
        obtain ⟨A9, c9, hB9, ho9⟩ := hwr.out
        rw [List.take_length] at hB9 ho9
        have e9 : toB l.length 16 ++ xF l = packX l := rfl
        rw [e9] at hB9 ho9
        have r0 : wr.cell? ⟨w.heap.size, 0, none⟩ = some (.slice none 0 0) := kR.cell 0
        have r1 : wr.cell? ⟨w.heap.size, 1, none⟩ = some (.int .i64 0) := kR.cell 1
        have f0 := kR.frozen 0
        have f1 := kR.frozen 1
        have q0 : wr.cell? ⟨g, 0, none⟩ = some (.slice A9 (packB (packX l)).length c9) := hB9.cell 0
        have q1 : wr.cell? ⟨g, 1, none⟩ = some (.int .i64 (packX l).length) := hB9.cell 1
        have ho9 := Lib.hid ho9
        clear e9
        go_wp2_with fail
        refine bodyPost_ret (v := .tuple #[.agg #[.slice A9 (packB (packX l)).length c9, .int .i64 (packX l).length], .int .i64 0]) (by simp [results, Tryd.results14, go_sem, *]) rfl (RV.mk ⟨A9, c9, rfl, ?_, ?_⟩)
        · exact own_set_other (own_set_other ho9.out (own_row_ne kR ho9.out (by decide)) 0 _) (own_row_ne kR ho9.out (by decide)) 1 _
        · exact (hbr.setCell (by simp) _).setCell (by simp) _
end Go.Proofs.YtmbpgenjjgepiaaDoor
