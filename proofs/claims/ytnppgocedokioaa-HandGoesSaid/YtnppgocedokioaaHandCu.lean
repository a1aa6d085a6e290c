/- What Cut and Copy of package hand do. Conditions: the hand lies in its blocks, its rows rise. -/
import Derived.Test.YtnppgocedokioaaHandPr
import Derived.Lib.MinMax
namespace Go.Proofs.Ytnppgocedokioaa
open Go.RowKit

set_option maxRecDepth 1000000 in
set_option maxHeartbeats 4000000 in
theorem cut_any (S : Nat → Prop) (g : Nat) (s : Hnd) (w : World) (h : HSt w S g s) :
    Calls Try.prog 31 #[.pointer (some ⟨g, 0, none⟩)] w (R1 (.int .i64 (cutH s).2) (HP S g (cutH s).1 w)) := by
  have h0 := h
  obtain ⟨A, N, L, a, n, l, h⟩ := h
  obtain ⟨m, hm⟩ : ∃ m, s.left.length = m := ⟨_, rfl⟩
  have c0 : w.cell? ⟨g, 0, none⟩ = some (.int .i64 s.ep) := h.blk.cell 0
  have c1 : w.cell? ⟨g, 1, none⟩ = some (.string s.ow) := h.blk.cell 1
  have c2 : w.cell? ⟨g, 2, none⟩ = some (.string s.to) := h.blk.cell 2
  have c3 : w.cell? ⟨g, 3, none⟩ = some (rowI A s.has a) := h.blk.cell 3
  have c4 : w.cell? ⟨g, 4, none⟩ = some (rowI N s.next n) := h.blk.cell 4
  have c5 : w.cell? ⟨g, 5, none⟩ = some (.slice L m l) := by rw [← hm]; exact h.blk.cell 5
  obtain ⟨r, hr⟩ : ∃ r, cutH s = r := ⟨_, rfl⟩
  rw [hr]
  by_cases ht : s.to = emptyS
  · have HR := Lib.hid (show r = (s, 11) by rw [← hr]; unfold cutH; rw [if_pos ht])
    rw [ht] at c2
    unfold emptyS at c2
    clear hr h ht hm
    go_enter Try.func31, Try.ntmps31
    go_wp2_with fail
    go_ret
    rw [HR.out]
    exact R1.mk rfl (HP.same h0)
  obtain ⟨o1, o2⟩ := str_ne ht
  by_cases hl : 0 < m
  · have HR := Lib.hid (show r = (s, 13) by rw [← hr]; unfold cutH; rw [if_neg ht, if_pos (by rw [hm]; exact hl)])
    have d1 : (0 : Int) < (m : Int) := by omega
    clear hr h ht hm hl
    go_enter Try.func31, Try.ntmps31
    go_wp2_with fail
    go_ret
    rw [HR.out]
    exact R1.mk rfl (HP.same h0)
  · have HR := Lib.hid (show r = (⟨wrap64 (s.ep + 1), s.to, emptyS, s.next, [], []⟩, 0) by rw [← hr]; unfold cutH; rw [if_neg ht, if_neg (by rw [hm]; exact hl)])
    have d1 : ¬ (0 : Int) < (m : Int) := by omega
    have Hh := Lib.hid h
    have f0 := h.blk.frozen 0
    have f1 := h.blk.frozen 1
    have f3 := h.blk.frozen 3
    clear hr h ht hm hl
    go_enter Try.func31, Try.ntmps31
    go_wp2_with fail
    go_region
    go_wp2_with fail
    obtain ⟨W, hW⟩ : ∃ W, (((w.setCell ⟨g, 1, none⟩ (.string s.to)).setCell ⟨g, 3, none⟩ (.slice N s.next.length n)).setCell ⟨g, 0, none⟩ (.int .i64 (wrap64 (s.ep + 1)))).drew = W := ⟨_, rfl⟩
    have hh := Hh.out
    have kb : Blk W g 81 (hndA ⟨wrap64 (s.ep + 1), s.to, s.to, s.next, s.next, s.left⟩ N N L n n l) := by
      rw [← hW]
      have := ((hh.blk.set 1 (.string s.to)).set 3 (.slice N s.next.length n)).set 0 (.int .i64 (wrap64 (s.ep + 1)))
      have h2 : Blk (((w.setCell ⟨g, 1, none⟩ (.string s.to)).setCell ⟨g, 3, none⟩ (.slice N s.next.length n)).setCell ⟨g, 0, none⟩ (.int .i64 (wrap64 (s.ep + 1)))) g 81 #[.int .i64 (wrap64 (s.ep + 1)), .string s.to, .string s.to, .slice N s.next.length n, .slice N s.next.length n, .slice L s.left.length l] := by simpa [hndA, rowI] using this
      exact h2
    have hne := rk_neI hh.blk hh.nxt (by decide)
    have hN : W.ownsRow 0 2 1 (rowI N s.next n) s.next.length (i64s s.next) := by
      rw [← hW]
      exact own_drewN (rk_setI (rk_setI (rk_setI hh.nxt hne 1 _) hne 3 _) hne 0 _) 1
    have hWs : W.heap.size = w.heap.size := by rw [← hW]; show (World.setCell _ _ _).heap.size = _; simp
    have hO : Out S w W := by
      have h1 := ((Out.set w hh.sg 1 (.string s.to)).trans (Out.set _ hh.sg 3 (.slice N s.next.length n)) (fun _ _ t => t)).trans (Out.set _ hh.sg 0 (.int .i64 (wrap64 (s.ep + 1)))) (fun _ _ t => t)
      rw [← hW]
      exact ⟨h1.os, h1.tape, h1.output, h1.size, h1.block⟩
    rw [hW]
    have HO := Lib.hid hO
    clear hO
    refine (crash_anyW S g ⟨wrap64 (s.ep + 1), s.to, s.to, s.next, s.next, s.left⟩ N N L n n l W kb hN hh.sg hh.sn (fun k hk => by rw [hWs]; exact hh.lt k hk)).mono ?_
    rintro e w5 ⟨rfl, S', hst, hold, hout⟩
    have hfin := Lib.hid (show HP S g ⟨wrap64 (s.ep + 1), s.to, emptyS, s.next, [], []⟩ w w5 from ⟨S', hst, fun k hk => by rw [← hWs]; exact hold k hk, HO.out.trans hout (fun _ _ t => t)⟩)
    clear hst hold hout kb hN hW
    go_wp2_with fail
    go_ret
    rw [HR.out]
    exact R1.mk rfl hfin.out
/-- the copied ids go among those that the other one has -/
theorem copy_mid {s : Hnd} (hk : OkH s) (j : Nat) : UpI ((s.left.take j).foldl withI s.next) ∧ ((s.left.take j).foldl withI s.next).length ≤ 1000 := by
  have hu := fold_withI_up (s.left.take j) hk.upn
  refine ⟨hu, Nat.le_trans (sub_len (up_nodup hu) (fun x hx => ?_)) hk.len⟩
  rcases (fold_withI_mem _ _ _).1 hx with e | e
  · exact hk.lft x (List.mem_of_mem_take e)
  · exact hk.nxt x e
theorem copy_step {s : Hnd} {j : Nat} (h : j < s.left.length) : (s.left.take (j + 1)).foldl withI s.next = withI ((s.left.take j).foldl withI s.next) (at_ s.left j) := by rw [take_at h, List.foldl_append]; rfl
end Go.Proofs.Ytnppgocedokioaa
