/- What Copy of package hand does. Conditions: the hand lies in its blocks, its rows rise. -/
import Derived.Test.YtnppgocedokioaaHandCu
namespace Go.Proofs.Ytnppgocedokioaa
open Go.RowKit

theorem HandAt.setLeft {w : World} {S : Nat → Prop} {g : Nat} {s : Hnd} {A N L : Option Addr} {a n l : Nat} (h : HandAt w S g s A N L a n l) {L' : Option Addr} {l' : Nat} {left' : List Int}
    (hL : Has w w.heap.size L' (i64s left')) (hok : left'.length ≤ l' ∧ l' ≤ maxLen ∧ (L' = none → l' = 0)) (hb : ∀ ad, L' = some ad → ∃ ad0, L = some ad0 ∧ ad.block = ad0.block) :
    HandAt (w.setCell ⟨g, 5, none⟩ (rowI L' left' l')) S g ⟨s.ep, s.ow, s.to, s.has, s.next, left'⟩ A N L' a n l' ∧ Out S w (w.setCell ⟨g, 5, none⟩ (rowI L' left' l')) := by
  have hneA := rk_neI h.blk h.has (by decide)
  have hneN := rk_neI h.blk h.nxt (by decide)
  refine ⟨⟨?_, rk_setI h.has hneA 5 _, rk_setI h.nxt hneN 5 _, hL.setI (fun ad e => ?_) 5 _, hok, h.ap1, fun ad e => ?_, h.sg, h.sa, h.sn, fun ad e => ?_, fun k hk => by have := h.lt k hk; simpa [World.setCell] using this⟩, Out.set w h.sg 5 _⟩
  · have := h.blk.set 5 (rowI L' left' l')
    simpa [hndA] using this
  · obtain ⟨ad0, e0, e1⟩ := hb ad e
    rw [e1]; exact (h.ap2 ad0 e0).2.2
  · obtain ⟨ad0, e0, e1⟩ := hb ad e
    rw [e1]; exact h.ap2 ad0 e0
  · obtain ⟨ad0, e0, e1⟩ := hb ad e
    rw [e1]; exact h.sl ad0 e0
theorem HandAt.c4 {w : World} {S : Nat → Prop} {g : Nat} {s : Hnd} {A N L : Option Addr} {a n l q : Nat} (h : HandAt w S g s A N L a n l) (hq : s.next.length = q) : w.cell? ⟨g, 4, none⟩ = some (.slice N q n) ∧ w.ownsRow 0 2 1 (.slice N q n) q (i64s s.next) := by
  subst hq; exact ⟨h.blk.cell 4, h.nxt⟩
def CopyP (S : Nat → Prop) (g : Nat) (r : Hnd × (Nat × Int)) (w : World) (v : Value) (w' : World) : Prop := v = .tuple #[.int .i64 r.2.1, .int .i64 r.2.2] ∧ HP S g r.1 w w'
set_option maxRecDepth 1000000 in
set_option maxHeartbeats 4000000 in
theorem hcopy_any (S : Nat → Prop) (g : Nat) (s : Hnd) (hk : OkH s) (n0 : Int) (w : World) (h : HSt w S g s) :
    Calls Try.prog 32 #[.pointer (some ⟨g, 0, none⟩), .int .i64 n0] w (RV (CopyP S g (copyH s n0) w)) := by
  have h0 := h
  obtain ⟨A, N, L, a, n, l, h⟩ := h
  obtain ⟨m, hm⟩ : ∃ m, s.left.length = m := ⟨_, rfl⟩
  have hm1000 : m ≤ 1000 := by rw [← hm]; exact hk.lenl
  have c2 : w.cell? ⟨g, 2, none⟩ = some (.string s.to) := h.blk.cell 2
  have c5 : w.cell? ⟨g, 5, none⟩ = some (.slice L m l) := by rw [← hm]; exact h.blk.cell 5
  obtain ⟨r, hr⟩ : ∃ r, copyH s n0 = r := ⟨_, rfl⟩
  rw [hr]
  by_cases hneg : n0 < 0
  · have HR := Lib.hid (show r = (s, (0, 1)) by rw [← hr]; unfold copyH; rw [if_pos hneg])
    clear hr h hm
    go_enter Try.func32, Try.ntmps32
    go_wp2_with fail
    go_ret2
    rw [HR.out]
    exact RV.mk ⟨rfl, HP.same h0⟩
  by_cases ht : s.to = emptyS
  · have HR := Lib.hid (show r = (s, (0, 11)) by rw [← hr]; unfold copyH; rw [if_neg hneg, if_pos ht])
    rw [ht] at c2
    unfold emptyS at c2
    clear hr h ht hm
    go_enter Try.func32, Try.ntmps32
    go_wp2_with fail
    go_ret2
    rw [HR.out]
    exact RV.mk ⟨rfl, HP.same h0⟩
  obtain ⟨o1, o2⟩ := str_ne ht
  obtain ⟨k0, hk0⟩ : ∃ k0 : Nat, (min n0 (m : Int)).toNat = k0 := ⟨_, rfl⟩
  have hk0m : k0 ≤ m := by omega
  have HR := Lib.hid (show r = (⟨s.ep, s.ow, s.to, s.has, (s.left.take k0).foldl withI s.next, s.left.drop k0⟩, ((s.left.drop k0).length, 0)) by rw [← hr]; unfold copyH; rw [if_neg hneg, if_neg ht, hm, hk0])
  have hmin : min n0 (m : Int) = (k0 : Int) := by omega
  have Hh := Lib.hid h
  have Hm := Lib.hid hm
  have hlm : m ≤ l := by rw [← hm]; exact h.lok.1
  have hlx : l ≤ 9223372036854775807 := by have := h.lok.2.1; unfold maxLen at this; exact this
  clear hr h ht hm hk0
  go_enter Try.func32, Try.ntmps32
  go_wp2_with fail
  go_loopw [7, 31] (fun _ i wr => ∃ (j : Nat) (S' : Nat → Prop) (N' : Option Addr) (n' : Nat), j ≤ k0 ∧ i = .int .i64 (j : Nat) ∧ Hid (HandAt wr S' g ⟨s.ep, s.ow, s.to, s.has, (s.left.take j).foldl withI s.next, s.left⟩ A N' L a n' l) ∧ Hid (∀ k, S' k → S k ∨ w.heap.size ≤ k) ∧ Hid (Out S w wr)) (fun _ i _ => k0 - (intOf i).toNat)
  case atStart => exact ⟨0, S, N, n, by omega, rfl, Hh, Lib.hid (fun k hk => .inl hk), Lib.hid (Out.refl _ _)⟩
  case round =>
    obtain ⟨j, S', N', n', hj, rfl, hH, hold, hout⟩ := hrel
    by_cases hlt : (j : Int) < (k0 : Int)
    · have lj := Lib.hid (show j < s.left.length by rw [Hm.out]; omega)
      obtain ⟨ad, hLa, had, cj⟩ := (show Has wr wr.heap.size L (i64s s.left) from hH.out.lft).at (i64s_at lj.out)
      have hst := Lib.hid (copy_step lj.out)
      obtain ⟨hu, hlen⟩ := copy_mid hk j
      obtain ⟨x, hx⟩ : ∃ x, at_ s.left j = x := ⟨_, rfl⟩
      rw [hx] at cj hst
      obtain ⟨F, hF⟩ : ∃ F, (s.left.take j).foldl withI s.next = F := ⟨_, rfl⟩
      rw [hF] at hu hlen hst hH
      obtain ⟨q, hq⟩ : ∃ q, F.length = q := ⟨_, rfl⟩
      have Hq := Lib.hid hq
      have Hu := Lib.hid hu
      obtain ⟨c4, o4⟩ := HandAt.c4 hH.out (q := q) hq
      have O4 := Lib.hid o4
      have hq1000 : q ≤ 1000 := by omega
      subst hLa
      clear hx hF hq hu hlen o4
      go_wp2_with fail
      refine (with_any N' q n' F Hq.out hq1000 Hu.out x wr O4.out).mono ?_
      rintro e w4 ⟨v, rfl, N4, n4, rfl, ho4, hg4, hb4⟩
      obtain ⟨hh4, hout4⟩ := HandAt.setNext hH.out ho4 (by unfold rowI; rw [show (Hnd.mk s.ep s.ow s.to s.has F s.left).next.length = q from Hq.out]; exact hg4) (by unfold rowI at hb4 ⊢; rw [show (Hnd.mk s.ep s.ow s.to s.has F s.left).next.length = q from Hq.out]; exact hb4)
      have kb4 := hH.out.blk.grown hg4 (by have := rk_neI hH.out.blk O4.out (by decide); exact this)
      have d4 : w4.cell? ⟨g, 4, none⟩ = some (rowI N' F n') := kb4.cell 4
      have g4 := kb4.frozen 4
      have Hh4 := Lib.hid hh4
      have Hout4 := Lib.hid (hout.out.trans hout4 (fun z hz t => by
        rcases hold.out z t with h1 | h1
        · exact h1
        · omega))
      have Hold4 := Lib.hid (show ∀ k, More S' wr w4 k → S k ∨ w.heap.size ≤ k from fun k hk => by
        rcases hk with h1 | h1
        · exact hold.out k h1
        · right; have := hout.out.size; omega)
      clear ho4 hg4 hb4 hout4 hh4 kb4 c4 cj
      go_wp2_with fail
      go_roundw
      case rel => exact ⟨j + 1, _, N4, n4, by omega, by go_num, by rw [hst.out]; exact Hh4, Hold4, Hout4⟩
      case measure => simp [intOf]; omega
    · have hjk : k0 = j := by omega
      subst hjk
      have c5 : wr.cell? ⟨g, 5, none⟩ = some (.slice L m l) := by rw [← Hm.out]; exact hH.out.blk.cell 5
      have g5 := hH.out.blk.frozen 5
      have hdl : (s.left.drop k0).length = m - k0 := by rw [List.length_drop, Hm.out]
      have hi1 : (k0 : Int) ≤ (m : Int) := by omega
      by_cases hlk : l = k0
      · subst hlk
        have hdl0 : (s.left.drop l).length = 0 := by rw [hdl]; omega
        obtain ⟨hh5, hout5⟩ := HandAt.setLeft (L' := L) (l' := 0) (left' := s.left.drop l) hH.out (by rw [List.drop_of_length_le (by rw [Hm.out]; omega)]; exact Has.nil _ _ _) (by rw [hdl0]; exact ⟨Nat.le_refl _, Nat.zero_le _, fun _ => rfl⟩) (fun ad e => ⟨ad, e, rfl⟩)
        have hv5 : rowI L (s.left.drop l) 0 = .slice L 0 0 := by unfold rowI; rw [hdl0]
        have e5 : (wr.setCell ⟨g, 5, none⟩ (rowI L (s.left.drop l) 0)).cell? ⟨g, 5, none⟩ = some (rowI L (s.left.drop l) 0) := hh5.blk.cell 5
        rw [hv5] at hh5 hout5 e5
        have Hh5 := Lib.hid hh5
        have Ho5 := Lib.hid (hout.out.trans hout5 (fun z hz t => by
          rcases hold.out z t with h1 | h1
          · exact h1
          · omega))
        have HV := Lib.hid (show Value.tuple #[.int .i64 0, .int .i64 0] = .tuple #[.int .i64 (s.left.drop l).length, .int .i64 0] by rw [hdl0]; rfl)
        clear hdl hdl0 hh5 hout5 hv5
        go_wp2_with fail
        go_ret2
        rw [HR.out]
        exact RV.mk ⟨HV.out, _, ⟨_, _, _, _, _, _, Hh5.out⟩, hold.out, Ho5.out⟩
      · obtain ⟨ad, rfl⟩ : ∃ ad, L = some ad := by
          cases hL0 : L with
          | none => exact absurd (hH.out.lok.2.2 hL0) (by omega)
          | some ad => exact ⟨ad, rfl⟩
        have hcut : Has wr wr.heap.size (some (ad.add k0)) (i64s (s.left.drop k0)) := by
          have h1 := Has.cut (k := k0) (n := m) (size := 1) (cap := l) (show Has wr wr.heap.size (some ad) (i64s s.left) from hH.out.lft) (by rw [i64s_len, Hm.out, Nat.mul_one]) hlm
          rw [if_neg hlk, Nat.mul_one] at h1
          rw [show i64s (s.left.drop k0) = (i64s s.left).drop k0 from by simp [i64s]]
          exact h1
        obtain ⟨hh5, hout5⟩ := HandAt.setLeft (L' := some (ad.add k0)) (l' := l - k0) (left' := s.left.drop k0) hH.out hcut (by rw [hdl]; exact ⟨by omega, by unfold maxLen; omega, fun e => by cases e⟩) (fun ad1 e => ⟨ad, rfl, by injection e with e; rw [← e, add_block]⟩)
        have hv5 : rowI (some (ad.add k0)) (s.left.drop k0) (l - k0) = .slice (some (ad.add k0)) (m - k0) (l - k0) := by unfold rowI; rw [hdl]
        have e5 : (wr.setCell ⟨g, 5, none⟩ (rowI (some (ad.add k0)) (s.left.drop k0) (l - k0))).cell? ⟨g, 5, none⟩ = some (rowI (some (ad.add k0)) (s.left.drop k0) (l - k0)) := hh5.blk.cell 5
        rw [hv5] at hh5 hout5 e5
        have Hh5 := Lib.hid hh5
        have Ho5 := Lib.hid (hout.out.trans hout5 (fun z hz t => by
          rcases hold.out z t with h1 | h1
          · exact h1
          · omega))
        have HV := Lib.hid (show Value.tuple #[.int .i64 ((m - k0 : Nat) : Int), .int .i64 0] = .tuple #[.int .i64 (s.left.drop k0).length, .int .i64 0] by rw [hdl])
        clear hdl hh5 hout5 hv5 hcut
        go_wp2_with fail
        go_ret2
        rw [HR.out]
        exact RV.mk ⟨HV.out, _, ⟨_, _, _, _, _, _, Hh5.out⟩, hold.out, Ho5.out⟩
end Go.Proofs.Ytnppgocedokioaa
