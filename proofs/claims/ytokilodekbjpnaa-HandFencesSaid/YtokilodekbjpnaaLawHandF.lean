/- The walk of the law HandFences: it returns true. Conditions: the arguments fit their kinds. -/
import Derived.Test.YtokilodekbjpnaaHandSt
namespace Go.Proofs.Ytokilodekbjpnaa
open Go.RowKit

/-- an operation of a hand leaves other blocks as they were -/
theorem Blk.out {S : Nat → Prop} {w w' : World} {b : Nat} {t : TypeId} {cs : Array Value} (h : Blk w b t cs) (ho : Out S w w') (hb : ¬ S b) : Blk w' b t cs := (ho.block b h.lt hb).trans h
theorem keep4H {w W : World} {B g : Nat} {x0 x1 x2 x3 : Value} (k : Below B w W) (hg : g < B) (c0 : w.cell? ⟨g, 0, none⟩ = some x0) (c1 : w.cell? ⟨g, 1, none⟩ = some x1) (c2 : w.cell? ⟨g, 2, none⟩ = some x2) (c3 : w.cell? ⟨g, 3, none⟩ = some x3) :
    W.cell? ⟨g, 0, none⟩ = some x0 ∧ W.cell? ⟨g, 1, none⟩ = some x1 ∧ W.cell? ⟨g, 2, none⟩ = some x2 ∧ W.cell? ⟨g, 3, none⟩ = some x3 :=
  ⟨(k.cell (p := ⟨g, 0, none⟩) hg).trans c0, (k.cell (p := ⟨g, 1, none⟩) hg).trans c1, (k.cell (p := ⟨g, 2, none⟩) hg).trans c2, (k.cell (p := ⟨g, 3, none⟩) hg).trans c3⟩
theorem HSt.lt {w : World} {S : Nat → Prop} {g : Nat} {s : Hnd} (h : HSt w S g s) : ∀ k, S k → k < w.heap.size := by obtain ⟨A, N, L, a, n, l, h⟩ := h; exact h.lt
theorem below_new {w : World} (cs : Array Value) (t : TypeId) : Below w.heap.size w (w.alloc (.cells cs t)) := (Below.refl _ _).alloc (Nat.le_refl _) _

set_option maxRecDepth 1000000 in
set_option maxHeartbeats 8000000 in
theorem fences_any (w : World) (owner : ByteArray) (hown : owner.size ≤ maxLen) (B : Option Addr) (m d : Nat) (L : List Mv) (hL : L.length = m) (hm : m ≤ d) (hd : d ≤ maxLen) (hB : Has w w.heap.size B (mvCs L)) (hok : ∀ e ∈ L, e.ok) (ep id : Int) :
    Calls Try.prog 5 #[.string owner, .slice B m d, .int .i64 ep, .int .i64 id] w (R1 (.bool true) (Below w.heap.size w)) := by
  have hm63 : m ≤ 9223372036854775807 := by unfold maxLen at hd; omega
  have HL := Lib.hid hL
  have HB := Lib.hid hB
  have HOK := Lib.hid hok
  clear hL hB hok hd
  go_enter Try.func5, Try.ntmps5
  go_wp2_with fail
  refine (hands_true _).mono ?_
  rintro e0 w1 ⟨rfl, hb1⟩
  go_wp2_with fail
  refine (hnew_any owner w1 hown).mono ?_
  rintro e0 w2 ⟨v, rfl, ⟨_, rfl, hst, hb2'⟩ | ⟨_, rfl, hw2⟩⟩
  · have hb2 := bnext hb1 hb2'
    obtain ⟨g, hg⟩ : ∃ g, w1.heap.size = g := ⟨_, rfl⟩
    rw [hg] at hst ⊢
    have hgw : w.heap.size ≤ g := by rw [← hg]; exact hb1.size
    have Hst := Lib.hid hst
    clear hst hb2'
    by_cases h80 : (80 : Int) < (m : Int)
    · go_wp2_with fail
      go_ret
      exact R1.mk (by simp) hb2
    · go_wp2_with fail
      go_loopw [55] (fun i wr => ∃ (k : Nat) (S : Nat → Prop) (s : Hnd), k ≤ m ∧ i = .int .i64 (k : Nat) ∧ Hid (OkH s) ∧ Hid (HSt wr S g s) ∧ Hid (∀ k, S k → w.heap.size ≤ k) ∧ Below w.heap.size w wr) (fun i _ => m - (intOf i).toNat)
      case atStart => exact ⟨0, _, newH owner, by omega, rfl, Lib.hid (okH_new owner), Hst, Lib.hid (fun k hk => by rw [hk]; exact hgw), hb2⟩
      case round =>
        obtain ⟨k, S, s, hk, rfl, hks, hst, hS, hbr⟩ := hrel
        by_cases hlt : (k : Int) < (m : Int)
        · have l1 := Lib.hid (show k < L.length by rw [HL.out]; omega)
          obtain ⟨ad, rfl, had, c0, c1, c2, c3, c4⟩ := (HB.out.next hbr).mvAt l1.out
          have hao := Lib.hid (HOK.out _ (at_mem l1.out))
          obtain ⟨a, ha⟩ : ∃ a, at_ L k = a := ⟨_, rfl⟩
          rw [ha] at c0 c1 c2 c3 c4 hao
          clear ha
          have kb : Blk (wr.alloc (.cells (mvA a) 55)) wr.heap.size 55 (mvA a) := Blk.new _ _ _
          have hbx := below_new (w := wr) (mvA a) 55
          have hbS : ¬ S wr.heap.size := fun h => by have := HSt.lt hst.out _ h; omega
          go_wp2_with fail
          obtain ⟨wa, hwa⟩ : ∃ wa, wr.alloc (.cells (mvA a) 55) = wa := ⟨_, rfl⟩
          rw [hwa] at kb hbx
          rw [hwa]
          obtain ⟨b, hb⟩ : ∃ b, wr.heap.size = b := ⟨_, rfl⟩
          rw [hb] at kb hbS ⊢
          have Hsta := Lib.hid (hst.out.next hbx)
          have hbra := bnext hbr hbx
          clear hwa hb hbx c0 c1 c2 c3 c4
          refine (view_any S g s wa Hsta.out).mono ?_
          rintro e0 w3 ⟨rfl, hb3⟩
          have kb3 := kb.next hb3
          have hst3 := Lib.hid (Hsta.out.next hb3)
          have hbr3 := bnext hbra hb3
          have kv := Blk.new w3 57 (viewA s)
          have hb4 := below_new (w := w3) (viewA s) 57
          have kb4 := kb3.next hb4
          have hst4 := Lib.hid (hst3.out.next hb4)
          have hbr4 := bnext hbr3 hb4
          have hvS : ¬ S w3.heap.size := fun h => by have := HSt.lt hst3.out _ h; omega
          have hvb : w3.heap.size ≠ b := by have := kb3.lt; omega
          unfold viewA at kv hb4 kb4 hst4 hbr4 ⊢
          have d0 : (w3.alloc (.cells #[.int .i64 s.ep, .string s.ow, .string s.to, .int .i64 s.left.length] 57)).cell? ⟨b, 0, none⟩ = some (.int .i64 a.k) := kb4.cell 0
          have d1 : (w3.alloc (.cells #[.int .i64 s.ep, .string s.ow, .string s.to, .int .i64 s.left.length] 57)).cell? ⟨b, 1, none⟩ = some (.int .i64 a.ep) := kb4.cell 1
          have d2 : (w3.alloc (.cells #[.int .i64 s.ep, .string s.ow, .string s.to, .int .i64 s.left.length] 57)).cell? ⟨b, 2, none⟩ = some (.int .i64 a.id) := kb4.cell 2
          have d3 : (w3.alloc (.cells #[.int .i64 s.ep, .string s.ow, .string s.to, .int .i64 s.left.length] 57)).cell? ⟨b, 3, none⟩ = some (.string a.to) := kb4.cell 3
          have d4 : (w3.alloc (.cells #[.int .i64 s.ep, .string s.ow, .string s.to, .int .i64 s.left.length] 57)).cell? ⟨b, 4, none⟩ = some (.int .i64 a.n) := kb4.cell 4
          go_wp2_with fail
          obtain ⟨w4, hw4⟩ : ∃ w4, w3.alloc (.cells #[.int .i64 s.ep, .string s.ow, .string s.to, .int .i64 s.left.length] 57) = w4 := ⟨_, rfl⟩
          rw [hw4] at kv hb4 kb4 hst4 hbr4
          rw [hw4]
          obtain ⟨bv, hbv⟩ : ∃ bv, w3.heap.size = bv := ⟨_, rfl⟩
          rw [hbv] at kv hvS hvb
          rw [hbv]
          clear hw4 hbv d0 d1 d2 d3 d4 kb3 hbr3 hb4 hbra hb3 kb
          obtain ⟨⟨s', f⟩, hact⟩ : ∃ r, actH s a = r := ⟨_, rfl⟩
          have HA := Lib.hid (act_any S g s hks.out a hao.out w4 hst4.out)
          have hks' := Lib.hid (show OkH s' by have := okH_act hks.out a; rw [hact] at this; exact this)
          rw [hact] at HA
          have Hact := Lib.hid hact
          clear hact
          refine (HA.out).mono ?_
          rintro e0 w5 ⟨rfl, S', hst5, hold5, hout5⟩
          have hbw5 : Below w.heap.size w w5 := hbr4.trans (hout5.below hbr4.size hS.out)
          have hS' := Lib.hid (show ∀ k, S' k → w.heap.size ≤ k from fun k hk => by
            rcases hold5 k hk with h1 | h1
            · exact hS.out k h1
            · have := hbr4.size; omega)
          have kb5 := kb4.out hout5 hbS
          have kv5 := kv.out hout5 hvS
          have Hst5 := Lib.hid hst5
          clear hst5 hold5 hout5 kb4 kv
          go_wp2_with fail
          refine (view_any S' g s' w5 Hst5.out).mono ?_
          rintro e0 w6 ⟨rfl, hb6⟩
          have kb6 := kb5.next hb6
          have kv6 := kv5.next hb6
          have hst6 := Lib.hid (Hst5.out.next hb6)
          have hbw6 := bnext hbw5 hb6
          have kn := Blk.new w6 57 (viewA s')
          have hb7 := below_new (w := w6) (viewA s') 57
          have kb7 := kb6.next hb7
          have kv7 := kv6.next hb7
          have hst7 := Lib.hid (hst6.out.next hb7)
          have hbw7 := bnext hbw6 hb7
          unfold viewA at kn hb7 kb7 kv7 hst7 hbw7 ⊢
          have d0 : (w6.alloc (.cells #[.int .i64 s'.ep, .string s'.ow, .string s'.to, .int .i64 s'.left.length] 57)).cell? ⟨b, 0, none⟩ = some (.int .i64 a.k) := kb7.cell 0
          have v0 : (w6.alloc (.cells #[.int .i64 s'.ep, .string s'.ow, .string s'.to, .int .i64 s'.left.length] 57)).cell? ⟨bv, 0, none⟩ = some (.int .i64 s.ep) := kv7.cell 0
          have v1 : (w6.alloc (.cells #[.int .i64 s'.ep, .string s'.ow, .string s'.to, .int .i64 s'.left.length] 57)).cell? ⟨bv, 1, none⟩ = some (.string s.ow) := kv7.cell 1
          have v2 : (w6.alloc (.cells #[.int .i64 s'.ep, .string s'.ow, .string s'.to, .int .i64 s'.left.length] 57)).cell? ⟨bv, 2, none⟩ = some (.string s.to) := kv7.cell 2
          have n0 : (w6.alloc (.cells #[.int .i64 s'.ep, .string s'.ow, .string s'.to, .int .i64 s'.left.length] 57)).cell? ⟨w6.heap.size, 0, none⟩ = some (.int .i64 s'.ep) := kn.cell 0
          have n1 : (w6.alloc (.cells #[.int .i64 s'.ep, .string s'.ow, .string s'.to, .int .i64 s'.left.length] 57)).cell? ⟨w6.heap.size, 1, none⟩ = some (.string s'.ow) := kn.cell 1
          have Hend := Lib.hid (show ∃ (k_1 : Nat) (S : Nat → Prop) (s : Hnd), k_1 ≤ m ∧ Value.int .i64 ((k : Int) + 1) = .int .i64 (k_1 : Nat) ∧ Hid (OkH s) ∧ Hid (HSt (w6.alloc (.cells #[.int .i64 s'.ep, .string s'.ow, .string s'.to, .int .i64 s'.left.length] 57)) S g s) ∧ Hid (∀ k, S k → w.heap.size ≤ k) ∧ Below w.heap.size w (w6.alloc (.cells #[.int .i64 s'.ep, .string s'.ow, .string s'.to, .int .i64 s'.left.length] 57)) from ⟨k + 1, S', s', by omega, by go_num, hks', hst7, hS', hbw7⟩)
          by_cases hmv : a.k = 4 ∧ f = 0
          · obtain ⟨m1, m2⟩ := act_moved (s := s) (a := a) (by rw [Hact.out]; exact hmv)
            rw [Hact.out] at m1 m2
            simp only [] at m1 m2
            replace n0 := n0.trans (congrArg (fun x => some (Value.int .i64 x)) m1)
            replace n1 := n1.trans (congrArg (fun x => some (Value.string x)) m2)
            rw [hmv.1] at d0
            obtain ⟨_, rfl⟩ := hmv
            clear m1 m2
            go_wp2_with fail
            go_roundw
            case rel => exact Hend.out
            case measure => simp [intOf]; omega
          · obtain ⟨m1, m2⟩ := act_stays (s := s) (a := a) (by rw [Hact.out]; exact hmv)
            rw [Hact.out] at m1 m2
            simp only [] at m1 m2
            replace n0 := n0.trans (congrArg (fun x => some (Value.int .i64 x)) m1)
            replace n1 := n1.trans (congrArg (fun x => some (Value.string x)) m2)
            clear m1 m2
            by_cases h4 : a.k = 4
            · rw [h4] at d0
              have hf : (f == 0) = false := by rw [beq_eq_false_iff_ne]; exact fun e => hmv ⟨h4, e⟩
              clear hmv h4
              go_wp2_with fail
              go_roundw
              case rel => exact Hend.out
              case measure => simp [intOf]; omega
            · have hf : (a.k == 4) = false := by rw [beq_eq_false_iff_ne]; exact h4
              clear hmv
              go_wp2_with fail
              go_roundw
              case rel => exact Hend.out
              case measure => simp [intOf]; omega
        · have hx : ¬ (k : Int) < (m : Int) := hlt
          clear HB HOK Hst
          go_wp2_with fail
          refine (view_any S g s wr hst.out).mono ?_
          rintro e0 w3 ⟨rfl, hb3⟩
          have hst3 := Lib.hid (hst.out.next hb3)
          have hbr3 := bnext hbr hb3
          have kv := Blk.new w3 57 (viewA s)
          have hb4 := below_new (w := w3) (viewA s) 57
          have hst4 := Lib.hid (hst3.out.next hb4)
          have hbr4 := bnext hbr3 hb4
          have hvS : ¬ S w3.heap.size := fun h => by have := HSt.lt hst3.out _ h; omega
          unfold viewA at kv hb4 hst4 hbr4 ⊢
          have v0 : (w3.alloc (.cells #[.int .i64 s.ep, .string s.ow, .string s.to, .int .i64 s.left.length] 57)).cell? ⟨w3.heap.size, 0, none⟩ = some (.int .i64 s.ep) := kv.cell 0
          by_cases he : ep = s.ep
          · subst he
            go_wp2_with fail
            go_ret
            exact R1.mk (by simp) hbr4
          · have fe : (ep == s.ep) = false := by rw [beq_eq_false_iff_ne]; exact he
            have He := Lib.hid he
            clear he
            go_wp2_with fail
            obtain ⟨w4, hw4⟩ : ∃ w4, w3.alloc (.cells #[.int .i64 s.ep, .string s.ow, .string s.to, .int .i64 s.left.length] 57) = w4 := ⟨_, rfl⟩
            rw [hw4] at kv hb4 hst4 hbr4
            rw [hw4]
            obtain ⟨bv, hbv⟩ : ∃ bv, w3.heap.size = bv := ⟨_, rfl⟩
            rw [hbv] at kv hvS
            rw [hbv]
            clear hw4 hbv v0 hb4 hst3 hbr3 hb3
            have HR := Lib.hid (hread_any S g s hks.out ep w4 hst4.out)
            rw [show readH s ep = ([], 10) from if_pos He.out] at HR
            refine (HR.out).mono ?_
            rintro e0 w5 ⟨v, rfl, A5, c5, rfl, _, hb5⟩
            have hst5 := Lib.hid (hst4.out.next hb5)
            have hbr5 := bnext hbr4 hb5
            have kv5 := kv.next hb5
            have v0 : w5.cell? ⟨bv, 0, none⟩ = some (.int .i64 s.ep) := kv5.cell 0
            have v1 : w5.cell? ⟨bv, 1, none⟩ = some (.string s.ow) := kv5.cell 1
            have v2 : w5.cell? ⟨bv, 2, none⟩ = some (.string s.to) := kv5.cell 2
            have v3 : w5.cell? ⟨bv, 3, none⟩ = some (.int .i64 s.left.length) := kv5.cell 3
            have hvl : bv < w5.heap.size := kv5.lt
            have hq1 := fun w => eqHand w s
            unfold viewA at hq1
            have hq2 := guardHand
            clear HR hb5 kv hbr4 hst4
            go_wp2_with fail
            go_region_held3 (fun w' => w'.cell? ⟨bv, 0, none⟩ = some (.int .i64 s.ep) ∧ w'.cell? ⟨bv, 1, none⟩ = some (.string s.ow) ∧ w'.cell? ⟨bv, 2, none⟩ = some (.string s.to) ∧ w'.cell? ⟨bv, 3, none⟩ = some (.int .i64 s.left.length))
              (first | ((refine keep4H (B := w5.heap.size) (w := w5) ?_ hvl v0 v1 v2 v3; (repeat' (first | with_reducible exact hB8 | with_reducible exact Below.refl _ _ | with_reducible refine below_drewH ?_ )); done)) | (trace_state; fail))
              (first
                | (go_at_call 29; refine (write_stale S g s hks.out ep id He.out _ (by first | exact hst5.out | exact HSt.next hst5.out (below_drewH (Below.refl _ _)))).mono ?_; rintro e7 w7 ⟨rfl, hw7⟩; rw [hw7])
                | (go_at_call 26; refine (view_any S g s _ (by first | exact hst5.out | exact HSt.next hst5.out (below_drewH (Below.refl _ _)))).mono ?_; unfold viewA; rintro e8 w8 ⟨rfl, hb8⟩; have hB8 : Below w5.heap.size w5 w8 := Below.trans (by first | with_reducible exact Below.refl _ _ | with_reducible exact below_drewH (Below.refl _ _)) (hb8.mono (by first | exact Nat.le_refl _ | simp))))
            go_wp2_with fail
            go_ret
            exact R1.mk (by simp) (bnext hbr5 hB8)
  · go_wp2_with fail
    go_ret
    exact R1.mk (by simp) (by first | exact hb1 | (rw [hw2]; exact hb1))
theorem handFences_true (w : World) (owner : ByteArray) (sz : owner.size ≤ maxLen) (A : Option Addr) (c : Nat) (L : List Mv) (ok : ∀ e ∈ L, e.ok) (lc : L.length ≤ c) (cm : c ≤ maxLen) (_ : A = none → c = 0) (has : Has w w.heap.size A (mvCs L)) (_ : L.length * 48 ≤ 140737488351232) (ep : Int) (_ : -9223372036854775808 ≤ ep ∧ ep ≤ 9223372036854775807) (id : Int) (_ : -9223372036854775808 ≤ id ∧ id ≤ 9223372036854775807) :
    Calls Try.prog 5 #[.string owner, .slice A L.length c, .int .i64 ep, .int .i64 id] w (R1 (.bool true) (Below w.heap.size w)) :=
  fences_any w owner sz A _ c L rfl lc cm has ok ep id
end Go.Proofs.Ytokilodekbjpnaa
