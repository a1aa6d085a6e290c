/- What with, Write and Prepare of package hand do. Conditions: the hand lies in its blocks, its rows rise. -/
import Derived.Test.YtnppgocedokioaaHandOp
namespace Go.Proofs.Ytnppgocedokioaa
open Go.RowKit

def WithP (A : Option Addr) (n c : Nat) (r : List Int) (w : World) (v : Value) (w' : World) : Prop :=
  ∃ A' c', v = rowI A' r c' ∧ w'.ownsRow 0 2 1 (rowI A' r c') r.length (i64s r) ∧ w.grownBy w' (Value.slice A n c).ownBlock ∧ ((rowI A' r c').ownBlock = (Value.slice A n c).ownBlock ∨ ∀ k, (rowI A' r c').ownBlock = some k → w.heap.size ≤ k)
theorem i64s_oneH (l : List Int) : ∀ u ∈ i64s l, u.oneCell' = true := fun u hu => by
  simp only [i64s, List.mem_map] at hu; obtain ⟨b, _, rfl⟩ := hu; rfl
set_option maxRecDepth 1000000 in
set_option maxHeartbeats 1000000 in
theorem with_any (A : Option Addr) (n c : Nat) (l : List Int) (hn : l.length = n) (hl : n ≤ 1000) (hu : UpI l) (x : Int) (w : World) (hown : w.ownsRow 0 2 1 (.slice A n c) n (i64s l)) :
    Calls Try.prog 49 #[.slice A n c, .int .i64 x] w (RV (WithP A n c (withI l x) w)) := by
  have H := Lib.hid (bins_any A n c l hn (by omega) hu x w (Has.of_own hown))
  obtain ⟨r, hr⟩ : ∃ r, withI l x = r := ⟨_, rfl⟩
  rw [hr]
  by_cases hx : x ∈ l
  · have HR := Lib.hid (show r = l by rw [← hr]; unfold withI; rw [if_pos hx])
    have Hn := Lib.hid hn
    have Hd := Lib.hid (show decide (x ∈ l) = true from decide_eq_true hx)
    have HO := Lib.hid hown
    have Hv := Lib.hid (show Value.slice A n c = rowI A r c by unfold rowI; rw [HR.out, Hn.out])
    clear hr hn hx hown
    go_enter Try.func49, Try.ntmps49
    go_wp2_with fail
    refine (H.out).mono ?_
    rintro e w1 ⟨v, rfl, ⟨i, rfl, hp⟩, hw⟩
    rw [hw, Hd.out]
    clear hp
    go_wp2_with fail
    go_ret
    exact RV.mk ⟨A, c, Hv.out, by rw [HR.out]; unfold rowI; rw [Hn.out]; exact HO.out, World.grownBy.refl w _, .inl (by rw [Hv.out])⟩
  · have Hd := Lib.hid (show decide (x ∈ l) = false from decide_eq_false hx)
    have Hn := Lib.hid hn
    have hb := fun k hk => own_blockM hown k hk
    have hneb : (Value.slice A n c).ownBlock ≠ some w.heap.size := fun e => by have := (hb _ e).2; omega
    have hownX := Lib.hid (hown.alloc (.cells #[.int .i64 x] 2))
    have kb : Blk (w.alloc (.cells #[.int .i64 x] 2)) w.heap.size 2 #[.int .i64 x] := Blk.new _ _ _
    have hsz : (w.alloc (.cells #[.int .i64 x] 2)).heap.size = w.heap.size + 1 := World.size_alloc _ _
    have HR := Lib.hid (show ∀ i, PlaceI l x i → r = l.take i ++ x :: l.drop i from fun i hp => by rw [← hr, withI, if_neg hx]; exact hp.ins)
    clear hr hx hown hn
    go_enter Try.func49, Try.ntmps49
    go_wp2_with fail
    refine (H.out).mono ?_
    rintro e w1 ⟨v, rfl, ⟨i, rfl, hp⟩, hw⟩
    rw [hw, Hd.out]
    have hri := HR.out i hp
    have hin : i ≤ n := by rw [← Hn.out]; exact hp.1
    have HRI := Lib.hid hri
    clear hri hp
    go_wp2_with fail
    refine (insI_any (base := 0) (n := n) (v := .slice A n c) (xs := i64s l) (i := i) (vb := w.heap.size) #[.int .i64 x] _ (by exact hownX.out) (Nat.zero_le _) hin rfl (by intro u hu; simp at hu; subst hu; rfl) (i64s_oneH l) (by exact kb) hneb (by omega)).mono ?_
    rintro e w2 ⟨v2, rfl, ho2, hg2, hb2⟩
    obtain ⟨A', c', rfl, _⟩ := own_form ho2
    have hrl : r.length = n + 1 := by rw [HRI.out, List.length_append, List.length_cons, List.length_take, List.length_drop, Hn.out]; omega
    have hxs : (i64s l).take (i * 1) ++ ((#[Value.int .i64 x] : Array Value).toList ++ (i64s l).drop (i * 1)) = i64s r := by rw [HRI.out, Nat.mul_one]; simp [i64s, i64v]
    rw [hxs] at ho2
    have hfin := Lib.hid (show WithP A n c r w (.slice A' (n + 1) c') w2 from ⟨A', c', by unfold rowI; rw [hrl], by unfold rowI; rw [hrl]; exact ho2,
      ⟨hg2.os, hg2.tape, hg2.output, Nat.le_trans (by rw [hsz]; omega) hg2.size, fun k hk hne => (hg2.block k (by rw [hsz]; omega) hne).trans (Below.heap_alloc _ _ _ hk)⟩,
      by unfold rowI; rw [hrl]; rcases hb2 with e | e; exact .inl e; exact .inr (fun k hk => by have := e k hk; rw [hsz] at this; omega)⟩)
    clear ho2 hg2 hb2 hxs hrl
    go_wp2_with fail
    go_ret
    exact RV.mk hfin.out
set_option maxRecDepth 1000000 in
set_option maxHeartbeats 4000000 in
theorem write_any (S : Nat → Prop) (g : Nat) (s : Hnd) (hk : OkH s) (ep id : Int) (w : World) (h : HSt w S g s) :
    Calls Try.prog 29 #[.pointer (some ⟨g, 0, none⟩), .int .i64 ep, .int .i64 id] w (R1 (.int .i64 (wrH s ep id).2) (HP S g (wrH s ep id).1 w)) := by
  have h0 := h
  obtain ⟨A, N, L, a, n, l, h⟩ := h
  obtain ⟨m, hm⟩ : ∃ m, s.has.length = m := ⟨_, rfl⟩
  have hm1000 : m ≤ 1000 := by rw [← hm]; exact hk.len
  have hown := h.has
  unfold rowI at hown
  rw [hm] at hown
  have H := Lib.hid (bins_any A m a s.has hm (by omega) hk.up id w (Has.of_own hown))
  have c0 : w.cell? ⟨g, 0, none⟩ = some (.int .i64 s.ep) := h.blk.cell 0
  have c3 : w.cell? ⟨g, 3, none⟩ = some (.slice A m a) := by rw [← hm]; exact h.blk.cell 3
  obtain ⟨r, hr⟩ : ∃ r, wrH s ep id = r := ⟨_, rfl⟩
  rw [hr]
  by_cases he : ep = s.ep
  · subst he
    by_cases hx : id ∈ s.has
    · have HR := Lib.hid (show r = (s, 8) by rw [← hr]; unfold wrH; rw [if_neg (fun g => g rfl), if_pos hx])
      have Hd := Lib.hid (show decide (id ∈ s.has) = true from decide_eq_true hx)
      clear hr hx h hown hm
      go_enter Try.func29, Try.ntmps29
      go_wp2_with fail
      refine (H.out).mono ?_
      rintro e w1 ⟨v, rfl, ⟨i, rfl, hp⟩, hw⟩
      rw [hw, Hd.out]
      clear hp
      go_wp2_with fail
      go_ret
      rw [HR.out]
      exact R1.mk rfl (HP.same h0)
    have Hd := Lib.hid (show decide (id ∈ s.has) = false from decide_eq_false hx)
    by_cases hf : m = 1000
    · have HR := Lib.hid (show r = (s, 9) by rw [← hr]; unfold wrH; rw [if_neg (fun g => g rfl), if_neg hx, if_pos (by rw [hm]; exact hf)])
      have hf2 : (m : Int) = 1000 := by omega
      clear hr hx h hown hm hf
      go_enter Try.func29, Try.ntmps29
      go_wp2_with fail
      refine (H.out).mono ?_
      rintro e w1 ⟨v, rfl, ⟨i, rfl, hp⟩, hw⟩
      rw [hw, Hd.out]
      clear hp
      go_wp2_with fail
      go_ret
      rw [HR.out]
      exact R1.mk rfl (HP.same h0)
    have hf2 : ¬ (m : Int) = 1000 := by omega
    have HR := Lib.hid (show r = (⟨s.ep, s.ow, s.to, insI s.has id, if s.to = emptyS then s.next else withI s.next id, s.left⟩, 0) by rw [← hr]; unfold wrH; rw [if_neg (fun g => g rfl), if_neg hx, if_neg (by rw [hm]; exact hf)])
    have HW := Lib.hid (show withI s.has id = insI s.has id by unfold withI; rw [if_neg hx])
    have Hm := Lib.hid hm
    have Hh := Lib.hid h
    have Hown := Lib.hid hown
    clear hr hx h hown hm hf
    go_enter Try.func29, Try.ntmps29
    go_wp2_with fail
    refine (H.out).mono ?_
    rintro e w1 ⟨v, rfl, ⟨i, rfl, hp⟩, hw⟩
    rw [hw, Hd.out]
    clear hp hw
    go_wp2_with fail
    refine (with_any A m a s.has Hm.out hm1000 hk.up id w Hown.out).mono ?_
    rintro e w2 ⟨v, rfl, A2, a2, rfl, ho2, hg2, hb2⟩
    rw [HW.out] at ho2 hb2 ⊢
    obtain ⟨hh, hout⟩ := HandAt.setHas Hh.out ho2 (by unfold rowI; rw [Hm.out]; exact hg2) (by unfold rowI at hb2 ⊢; rw [Hm.out]; exact hb2)
    have kb2 := Hh.out.blk.grown hg2 (by have := rk_neI Hh.out.blk Hown.out (by decide); exact this)
    have d3 : w2.cell? ⟨g, 3, none⟩ = some (rowI A s.has a) := kb2.cell 3
    have g3 := kb2.frozen 3
    have Hhh := Lib.hid hh
    have Hout := Lib.hid hout
    have e2 : (w2.setCell ⟨g, 3, none⟩ (rowI A2 (insI s.has id) a2)).cell? ⟨g, 2, none⟩ = some (.string s.to) := hh.blk.cell 2
    have e4 : (w2.setCell ⟨g, 3, none⟩ (rowI A2 (insI s.has id) a2)).cell? ⟨g, 4, none⟩ = some (.slice N s.next.length n) := hh.blk.cell 4
    clear ho2 hg2 hb2 hout hh kb2
    by_cases ht : s.to = emptyS
    · have HR2 := Lib.hid (show r = (⟨s.ep, s.ow, s.to, insI s.has id, s.next, s.left⟩, 0) by rw [HR.out, if_pos ht])
      rw [ht] at e2
      unfold emptyS at e2
      clear ht
      go_wp2_with fail
      go_ret
      rw [HR2.out]
      exact R1.mk rfl ⟨_, ⟨_, _, _, _, _, _, Hhh.out⟩, More.old, Hout.out⟩
    · have HR2 := Lib.hid (show r = (⟨s.ep, s.ow, s.to, insI s.has id, withI s.next id, s.left⟩, 0) by rw [HR.out, if_neg ht])
      obtain ⟨o1, o2⟩ := str_ne ht
      clear ht
      obtain ⟨q, hq⟩ : ∃ q, s.next.length = q := ⟨_, rfl⟩
      have Hq := Lib.hid hq
      rw [hq] at e4
      have hq1000 : q ≤ 1000 := by rw [← hq]; exact hk.lenn
      have Hnx := Lib.hid Hhh.out.nxt
      clear hq
      go_wp2_with fail
      refine (with_any N q n s.next Hq.out hq1000 hk.upn id _ (by have := Hnx.out; unfold rowI at this; rw [show (Hnd.mk s.ep s.ow s.to (insI s.has id) s.next s.left).next.length = q from Hq.out] at this; exact this)).mono ?_
      rintro e w4 ⟨v, rfl, N4, n4, rfl, ho4, hg4, hb4⟩
      obtain ⟨hh4, hout4⟩ := HandAt.setNext Hhh.out ho4 (by unfold rowI; rw [show (Hnd.mk s.ep s.ow s.to (insI s.has id) s.next s.left).next.length = q from Hq.out]; exact hg4) (by unfold rowI at hb4 ⊢; rw [show (Hnd.mk s.ep s.ow s.to (insI s.has id) s.next s.left).next.length = q from Hq.out]; exact hb4)
      have kb4 := Hhh.out.blk.grown hg4 (by have := rk_neI Hhh.out.blk Hhh.out.nxt (by decide); unfold rowI at this; rw [show (Hnd.mk s.ep s.ow s.to (insI s.has id) s.next s.left).next.length = q from Hq.out] at this; exact this)
      have d4 : w4.cell? ⟨g, 4, none⟩ = some (rowI N s.next n) := kb4.cell 4
      have g4 := kb4.frozen 4
      have Hh4 := Lib.hid hh4
      have Hout4 := Lib.hid hout4
      clear ho4 hg4 hb4 hout4 hh4 kb4
      go_wp2_with fail
      go_ret
      rw [HR2.out]
      refine R1.mk rfl ⟨_, ⟨_, _, _, _, _, _, Hh4.out⟩, fun k hk => ?_, Hout.out.trans Hout4.out (fun q hq t => ?_)⟩
      · rcases hk with hk | hk
        · exact More.old k hk
        · right
          have h1 := Hout.out.size
          omega
      · rcases t with t | t
        · exact t
        · omega
  · have HR := Lib.hid (show r = (s, 10) by rw [← hr]; unfold wrH; rw [if_pos he])
    have f1 : (ep != s.ep) = true := by rw [bne_iff_ne]; exact he
    clear hr h hown hm
    go_enter Try.func29, Try.ntmps29
    go_wp2_with fail
    refine (H.out).mono ?_
    rintro e w1 ⟨v, rfl, ⟨i, rfl, hp⟩, hw⟩
    rw [hw]
    clear hp
    go_wp2_with fail
    go_ret
    rw [HR.out]
    exact R1.mk rfl (HP.same h0)
end Go.Proofs.Ytnppgocedokioaa
