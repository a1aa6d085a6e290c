/- What Prepare and Cut of package hand do. Conditions: the hand lies in its blocks, its rows rise. -/
import Derived.Test.YtnppgocedokioaaHandWr
namespace Go.Proofs.Ytnppgocedokioaa
open Go.RowKit

set_option maxRecDepth 1000000 in
set_option maxHeartbeats 4000000 in
theorem prep_any (S : Nat → Prop) (g : Nat) (s : Hnd) (hk : OkH s) (to : ByteArray) (hto : to.size ≤ maxLen) (w : World) (h : HSt w S g s) :
    Calls Try.prog 30 #[.pointer (some ⟨g, 0, none⟩), .string to] w (R1 (.int .i64 (prepH s to).2) (HP S g (prepH s to).1 w)) := by
  have H := Lib.hid (hname_any to w hto)
  have h0 := h
  obtain ⟨A, N, L, a, n, l, h⟩ := h
  have c1 : w.cell? ⟨g, 1, none⟩ = some (.string s.ow) := h.blk.cell 1
  have c2 : w.cell? ⟨g, 2, none⟩ = some (.string s.to) := h.blk.cell 2
  obtain ⟨r, hr⟩ : ∃ r, prepH s to = r := ⟨_, rfl⟩
  rw [hr]
  cases hn : nameB to with
  | false =>
    have HR := Lib.hid (show r = (s, 4) by rw [← hr]; unfold prepH; rw [if_pos hn])
    rw [hn] at H
    clear hr hn h
    go_enter Try.func30, Try.ntmps30
    go_wp2_with fail
    refine (H.out).mono ?_
    rintro e w1 ⟨rfl, hw⟩
    rw [hw]
    go_wp2_with fail
    go_ret
    rw [HR.out]
    exact R1.mk rfl (HP.same h0)
  | true =>
    rw [hn] at H
    by_cases ht : s.to = emptyS
    · rw [ht] at c2
      unfold emptyS at c2
      by_cases ho : to = s.ow
      · have HR := Lib.hid (show r = (s, 8) by rw [← hr]; unfold prepH; rw [if_neg (by rw [hn]; simp), if_neg (fun g => g ht), if_pos ho])
        clear hr hn h ht
        subst ho
        go_enter Try.func30, Try.ntmps30
        go_wp2_with fail
        refine (H.out).mono ?_
        rintro e w1 ⟨rfl, hw⟩
        rw [hw]
        go_wp2_with fail
        go_ret
        rw [HR.out]
        exact R1.mk rfl (HP.same h0)
      · have HR := Lib.hid (show r = (⟨s.ep, s.ow, to, s.has, [], s.has⟩, 0) by rw [← hr]; unfold prepH; rw [if_neg (by rw [hn]; simp), if_neg (fun g => g ht), if_neg ho])
        have o1 : ¬ to.toList = s.ow.toList := fun e => ho (bytes_ext e)
        have o2 : (to.toList == s.ow.toList) = false := by rw [beq_eq_false_iff_ne]; exact o1
        obtain ⟨m, hm⟩ : ∃ m, s.has.length = m := ⟨_, rfl⟩
        have Hm := Lib.hid hm
        have hown := h.has
        unfold rowI at hown
        rw [hm] at hown
        have c3 : w.cell? ⟨g, 3, none⟩ = some (.slice A m a) := by rw [← hm]; exact h.blk.cell 3
        have HC := Lib.hid (cloneI64_any A m a (i64s s.has) (by rw [i64s_len, hm, Nat.mul_one]) (i64s_oneH _) (own_cap hown) (by have := hk.len; omega) w (Has.of_own hown))
        have Hh := Lib.hid h
        clear hr hn h ht ho hm hown
        go_enter Try.func30, Try.ntmps30
        go_wp2_with fail
        refine (H.out).mono ?_
        rintro e w1 ⟨rfl, hw⟩
        rw [hw]
        go_wp2_with fail
        refine (HC.out).mono ?_
        rintro e w2 ⟨v, rfl, A3, c3', rfl, ho3, hb3⟩
        have h2 := Hh.out.next hb3
        have d2 : w2.cell? ⟨g, 2, none⟩ = some (.string s.to) := h2.blk.cell 2
        have d4 : w2.cell? ⟨g, 4, none⟩ = some (rowI N s.next n) := h2.blk.cell 4
        have d5 : w2.cell? ⟨g, 5, none⟩ = some (rowI L s.left l) := h2.blk.cell 5
        have f2 := h2.blk.frozen 2
        have f4 := h2.blk.frozen 4
        have f5 := h2.blk.frozen 5
        have hfin : HP S g ⟨s.ep, s.ow, to, s.has, [], s.has⟩ w (((w2.setCell ⟨g, 2, none⟩ (.string to)).setCell ⟨g, 4, none⟩ (.slice none 0 0)).setCell ⟨g, 5, none⟩ (.slice A3 m c3')) := by
          have hb := ((h2.blk.set 2 (.string to)).set 4 (.slice none 0 0)).set 5 (.slice A3 m c3')
          have hb2 : Blk (((w2.setCell ⟨g, 2, none⟩ (.string to)).setCell ⟨g, 4, none⟩ (.slice none 0 0)).setCell ⟨g, 5, none⟩ (.slice A3 m c3')) g 81 #[.int .i64 s.ep, .string s.ow, .string to, rowI A s.has a, .slice none 0 0, rowI A3 s.has c3'] := by unfold rowI; rw [Hm.out]; simpa [hndA, rowI, Hm.out] using hb
          have hne := rk_neI h2.blk h2.has (by decide)
          have hne3 := rk_neI h2.blk ho3 (by decide)
          have hA3 : ∀ ad, A3 = some ad → w.heap.size ≤ ad.block ∧ ad.block < w2.heap.size := fun ad e => own_blockM ho3 ad.block (by rw [e]; rfl)
          have ho3' := rk_setI (rk_setI (rk_setI ho3 hne3 2 (.string to)) hne3 4 (.slice none 0 0)) hne3 5 (.slice A3 m c3')
          have hgs := Hh.out.blk.lt
          refine ⟨More S w w2, ⟨A, none, A3, a, 0, c3', ⟨hb2, rk_setI (rk_setI (rk_setI h2.has hne 2 _) hne 4 _) hne 5 _, rowI_nil _ _, Has.of_own ho3', ⟨by rw [Hm.out]; exact (own_len ho3).1, (own_len ho3).2, fun e => (own_cap ho3 e).2⟩, (fun k _ e => by cases e), (fun ad e => ⟨fun e2 => ?_, (fun e2 => by cases e2), ?_⟩), .inl h2.sg, (fun k hk => .inl (h2.sa k hk)), (fun k e => by cases e), (fun ad e => .inr (hA3 ad e)), fun k hk => ?_⟩⟩, More.old, ?_⟩
          · have h1 := (hA3 ad e).1
            have h3 := (own_blockM Hh.out.has _ e2).2
            omega
          · have h1 := (hA3 ad e).1
            omega
          · have : k < w2.heap.size := by
              rcases hk with hk | hk
              · exact h2.lt k hk
              · exact hk.2
            simpa using this
          · exact (((Out.of hb3).trans (Out.set w2 (S := S) h2.sg 2 _) (fun _ _ t => t)).trans (Out.set _ (S := S) h2.sg 4 _) (fun _ _ t => t)).trans (Out.set _ (S := S) h2.sg 5 _) (fun _ _ t => t)
        have HF := Lib.hid hfin
        clear hfin h2 ho3
        go_wp2_with fail
        go_ret
        rw [HR.out]
        exact R1.mk rfl HF.out
    · have HR := Lib.hid (show r = (s, 11) by rw [← hr]; unfold prepH; rw [if_neg (by rw [hn]; simp), if_pos ht])
      obtain ⟨o1, o2⟩ := str_ne ht
      clear hr hn h ht
      go_enter Try.func30, Try.ntmps30
      go_wp2_with fail
      refine (H.out).mono ?_
      rintro e w1 ⟨rfl, hw⟩
      rw [hw]
      go_wp2_with fail
      go_ret
      rw [HR.out]
      exact R1.mk rfl (HP.same h0)
end Go.Proofs.Ytnppgocedokioaa
