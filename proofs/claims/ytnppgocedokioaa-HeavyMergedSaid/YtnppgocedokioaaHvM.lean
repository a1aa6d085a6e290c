/- What Merge of package heavy makes. Conditions: rows lie in their cells; the tallies are as the document wants them. -/
import Derived.Test.YtnppgocedokioaaHvT
import Derived.Test.YtnppgocedokioaaSortI
import Derived.Test.YtnppgocedokioaaCloneI64
import Derived.Deep.RegionHeld3
import Derived.Deep.CutRange
namespace Go.Proofs.Ytnppgocedokioaa
open Go.RowKit

theorem rk_ne {w : World} {g : Nat} {t : TypeId} {cs : Array Value} {base size n : Nat} {v : Value} {e : TypeId} {xs : List Value} (h : Blk w g t cs) (ho : w.ownsRow base e size v n xs) (ht : t ≠ e) : some g ≠ v.ownBlock := by
  rcases ho.2 with ⟨rfl, _⟩ | ⟨q, cap, cur, rfl, hb, hg, h1, h2, h3, h4⟩
  · intro h'; cases h'
  · intro h'
    injection h' with h'
    have h' : g = q := h'
    subst h'
    unfold Blk at h
    rw [h] at hg
    injection hg with hg
    injection hg with _ hg
    exact ht hg
theorem keepM {w W : World} {B b d : Nat} {x0 x1 x2 x3 y2 y3 : Value} (k : Below B w W) (hb : b < B) (hd : d < B) (c0 : w.cell? ⟨b, 0, none⟩ = some x0) (c1 : w.cell? ⟨b, 1, none⟩ = some x1) (c2 : w.cell? ⟨b, 2, none⟩ = some x2) (c3 : w.cell? ⟨b, 3, none⟩ = some x3) (d2 : w.cell? ⟨d, 2, none⟩ = some y2) (d3 : w.cell? ⟨d, 3, none⟩ = some y3) :
    W.cell? ⟨b, 0, none⟩ = some x0 ∧ W.cell? ⟨b, 1, none⟩ = some x1 ∧ W.cell? ⟨b, 2, none⟩ = some x2 ∧ W.cell? ⟨b, 3, none⟩ = some x3 ∧ W.cell? ⟨d, 2, none⟩ = some y2 ∧ W.cell? ⟨d, 3, none⟩ = some y3 :=
  ⟨(k.cell (p := ⟨b, 0, none⟩) hb).trans c0, (k.cell (p := ⟨b, 1, none⟩) hb).trans c1, (k.cell (p := ⟨b, 2, none⟩) hb).trans c2, (k.cell (p := ⟨b, 3, none⟩) hb).trans c3, (k.cell (p := ⟨d, 2, none⟩) hd).trans d2, (k.cell (p := ⟨d, 3, none⟩) hd).trans d3⟩
theorem below_allocG {a w : World} {o : Obj} (h : Below a.heap.size a w) : Below a.heap.size a (w.alloc o) := h.alloc h.size o
theorem below_setG {a w : World} {i : Nat} {u : Value} (h : Below a.heap.size a w) : Below a.heap.size a (w.setCell ⟨a.heap.size, i, none⟩ u) := h.setCell (p := ⟨a.heap.size, i, none⟩) (Nat.le_refl _) u
theorem below_drewG {B : Nat} {a w : World} (h : Below B a w) : Below B a w.drew := below_drewN h 1

theorem insC_eq {l : List Cn} {x : Cn} {i : Nat} (hp : PlaceH l x.k i) : insC l x = l.take i ++ x :: l.drop i := by
  induction l generalizing i with
  | nil =>
    have : i = 0 := by have := hp.1; simpa using this
    subst this; rfl
  | cons c l ih =>
    cases i with
    | zero =>
      have h := hp.2.2 (by simp)
      have h : ¬ nlt c.k x.k := h
      unfold insC; rw [if_neg h]; rfl
    | succ i =>
      have h := hp.2.1 0 (by omega)
      have h : nlt c.k x.k := h
      unfold insC; rw [if_pos h, List.take_succ_cons, List.drop_succ_cons, List.cons_append]
      rw [ih ⟨by have := hp.1; simpa using this, fun j hj => hp.2.1 (j + 1) (by omega), fun g => hp.2.2 (by rw [List.length_cons]; omega)⟩]
theorem bumpC_eq {l : List Cn} (hu : RiseH l) {x : Cn} {i : Nat} (hi : i < l.length) (hk : (at_ l i).k = x.k) : bumpC l x = l.set i ⟨(at_ l i).k, (at_ l i).n + x.n⟩ := by
  apply List.ext_getElem
  · rw [bumpC_len, List.length_set]
  · intro j h1 h2
    have h3 := h1
    rw [bumpC_len] at h1
    rw [List.getElem_set, show (bumpC l x)[j] = if l[j].k = x.k then (⟨l[j].k, l[j].n + x.n⟩ : Cn) else l[j] from List.getElem_map _]
    by_cases e : i = j
    · subst e
      rw [if_pos rfl, if_pos (by rw [← at_eq h1]; exact hk), ← at_eq h1]
    · rw [if_neg e, if_neg]
      intro g
      rw [← at_eq h1] at g
      rcases Nat.lt_trichotomy i j with h | h | h
      · exact nlt_ne (at_RiseH hu h h1) (hk.trans g.symm)
      · exact e h
      · exact nlt_ne (at_RiseH hu h hi) (g.trans hk.symm)
theorem OkL.take {l : List Cn} (h : OkL l) (k : Nat) : OkL (l.take k) := ⟨fun c hc => h.each c (List.mem_of_mem_take hc), List.Pairwise.sublist (List.take_sublist _ _) h.rise⟩
theorem putAll_take {L1 L2 : List Cn} (h1 : OkL L1) (h2 : OkL L2) (k : Nat) : OkL (putAll L1 (L2.take k)) ∧ sumH (putAll L1 (L2.take k)) ≤ sumH L1 + sumH L2 ∧ (putAll L1 (L2.take k)).length ≤ L1.length + L2.length := by
  obtain ⟨i1, i2, _, i4⟩ := h1.putAll (h2.take k)
  have := (sumH_take (l := L2) (fun c hc => (h2.each c hc).2) k).2
  have h5 := (List.take_sublist k L2).length_le
  exact ⟨i1, by omega, by omega⟩
theorem putAll_step {L1 L2 : List Cn} {k : Nat} (h : k < L2.length) : putAll L1 (L2.take (k + 1)) = putC (putAll L1 (L2.take k)) (at_ L2 k) := by
  rw [take_at h]; unfold putAll; rw [List.foldl_append]; rfl
theorem putC_has {l : List Cn} (hu : RiseH l) {x : Cn} {i : Nat} (hi : i < l.length) (hk : (at_ l i).k = x.k) : putC l x = l.set i ⟨(at_ l i).k, (at_ l i).n + x.n⟩ := by
  unfold putC; rw [if_pos ⟨_, at_mem hi, hk⟩, bumpC_eq hu hi hk]
theorem putC_ins {l : List Cn} {x : Cn} {i : Nat} (hn : ¬ hasH l x.k) (hp : PlaceH l x.k i) : putC l x = l.take i ++ x :: l.drop i := by
  unfold putC; rw [if_neg hn, insC_eq hp]

set_option maxRecDepth 1000000 in
set_option maxHeartbeats 16000000 in
theorem merge_any (K N1 O1 N2 O2 : Int) (A : Option Addr) (n c : Nat) (L1 : List Cn) (B : Option Addr) (m d : Nat) (L2 : List Cn) (hn : L1.length = n) (hm : L2.length = m) (hok1 : OkHv ⟨K, L1, N1, O1⟩) (hok2 : OkHv ⟨K, L2, N2, O2⟩) (w : World) (h1 : HvL w A c L1) (h2 : HvL w B d L2) :
    Calls Try.prog 18 #[.agg #[.int .i64 K, .slice A n c, .int .i64 N1, .int .i64 O1], .agg #[.int .i64 K, .slice B m d, .int .i64 N2, .int .i64 O2]] w (RV (HvF (mrgH ⟨K, L1, N1, O1⟩ ⟨K, L2, N2, O2⟩) w)) := by
  have H1 := Lib.hid (fun (w : World) (h : Has w w.heap.size A (cnCs L1)) => hcheck_any K N1 O1 A n c L1 hn hok1 w h)
  have H2 := Lib.hid (fun (w : World) (h : Has w w.heap.size B (cnCs L2)) => hcheck_any K N2 O2 B m d L2 hm hok2 w h)
  have k1 : 1 ≤ K := hok1.k1
  have k2 : K ≤ 64 := hok1.k2
  have n1 : 0 ≤ N1 := hok1.n0
  have n1' : N1 ≤ 1000000000 := hok1.n1
  have n2 : 0 ≤ N2 := hok2.n0
  have n2' : N2 ≤ 1000000000 := hok2.n1
  have o1 : 0 ≤ O1 := hok1.off
  have o1' : O1 ≤ N1 := hok1.more.1
  have o2 : 0 ≤ O2 := hok2.off
  have o2' : O2 ≤ N2 := hok2.more.1
  have hnK : (n : Int) ≤ K := by rw [← hn]; exact hok1.len
  have hmK : (m : Int) ≤ K := by rw [← hm]; exact hok2.len
  have hl0 : (cnCs L1).length = n * 2 := by rw [cnCs_len, hn]
  have H3 := Lib.hid (fun (w : World) (h : Has w w.heap.size A (cnCs L1)) => cloneCn_any A n c (cnCs L1) hl0 (cnCs_one L1) (h1.none hn) (by omega) w h)
  have HO1 := Lib.hid hok1
  have HO2 := Lib.hid hok2
  have Hn := Lib.hid hn
  have Hm := Lib.hid hm
  obtain ⟨r, hr⟩ : ∃ r, mrgH ⟨K, L1, N1, O1⟩ ⟨K, L2, N2, O2⟩ = r := ⟨_, rfl⟩
  rw [hr]
  unfold mrgH at hr
  rw [if_neg (by simp)] at hr
  simp only [] at hr
  have HR := Lib.hid hr
  have h1 := h1.2.2.2
  have h2 := h2.2.2.2
  clear hn hm hok1 hok2 hl0 hr
  go_enter Try.func18, Try.ntmps18
  go_wp2_with fail
  obtain ⟨b, hb⟩ : ∃ b, w.heap.size = b := ⟨_, rfl⟩
  have hs1 : (w.alloc (.cells #[.int .i64 K, .slice A n c, .int .i64 N1, .int .i64 O1] 26)).heap.size = b + 1 := by rw [World.size_alloc, hb]
  have hs2 : ((w.alloc (.cells #[.int .i64 K, .slice A n c, .int .i64 N1, .int .i64 O1] 26)).alloc (.cells #[.int .i64 K, .slice B m d, .int .i64 N2, .int .i64 O2] 26)).heap.size = b + 2 := by rw [World.size_alloc, hs1]
  have hs3 : (((w.alloc (.cells #[.int .i64 K, .slice A n c, .int .i64 N1, .int .i64 O1] 26)).alloc (.cells #[.int .i64 K, .slice B m d, .int .i64 N2, .int .i64 O2] 26)).alloc (.cells #[.int .i64 0, .slice none 0 0, .int .i64 0, .int .i64 0] 26)).heap.size = b + 3 := by rw [World.size_alloc, hs2]
  obtain ⟨w1, hw1⟩ : ∃ w1, (((w.alloc (.cells #[.int .i64 K, .slice A n c, .int .i64 N1, .int .i64 O1] 26)).alloc (.cells #[.int .i64 K, .slice B m d, .int .i64 N2, .int .i64 O2] 26)).alloc (.cells #[.int .i64 0, .slice none 0 0, .int .i64 0, .int .i64 0] 26)).alloc (.cells #[.int .i64 K, .slice A n c, .int .i64 N1, .int .i64 O1, .int .i64 K, .slice B m d, .int .i64 N2, .int .i64 O2] 26) = w1 := ⟨_, rfl⟩
  have kA1 : Blk w1 b 26 #[.int .i64 K, .slice A n c, .int .i64 N1, .int .i64 O1] := by rw [← hw1, ← hb]; exact (((Blk.new _ _ _).alloc _).alloc _).alloc _
  have kB1 : Blk w1 (b + 1) 26 #[.int .i64 K, .slice B m d, .int .i64 N2, .int .i64 O2] := by rw [← hw1, ← hs1]; exact ((Blk.new _ _ _).alloc _).alloc _
  have kR1 : Blk w1 (b + 2) 26 #[.int .i64 0, .slice none 0 0, .int .i64 0, .int .i64 0] := by rw [← hw1, ← hs2]; exact (Blk.new _ _ _).alloc _
  have kG1 : Blk w1 (b + 3) 26 #[.int .i64 K, .slice A n c, .int .i64 N1, .int .i64 O1, .int .i64 K, .slice B m d, .int .i64 N2, .int .i64 O2] := by rw [← hw1, ← hs3]; exact Blk.new _ _ _
  have hb1 : Below w.heap.size w w1 := by rw [← hw1]; exact bnext (two_allocs _ _ _) (two_allocs _ _ _)
  simp only [hb]
  rw [hw1]
  clear hw1 hs1 hs2 hs3
  go_loopw [22] (fun i wr => ∃ j : Nat, j ≤ 2 ∧ i = .int .i64 (j : Nat) ∧ Below w1.heap.size w1 wr) (fun i _ => 2 - (intOf i).toNat)
  case atStart => exact ⟨0, by omega, rfl, Below.refl _ _⟩
  case round =>
    obtain ⟨j, hj, rfl, hbr⟩ := hrel
    rcases (show j = 0 ∨ j = 1 ∨ j = 2 by omega) with rfl | rfl | rfl
    · have kG := kG1.next hbr
      have g0 : wr.cell? ⟨b + 3, 0, none⟩ = some (.int .i64 K) := kG.cell 0
      have g1 : wr.cell? ⟨b + 3, 1, none⟩ = some (.slice A n c) := kG.cell 1
      have g2 : wr.cell? ⟨b + 3, 2, none⟩ = some (.int .i64 N1) := kG.cell 2
      have g3 : wr.cell? ⟨b + 3, 3, none⟩ = some (.int .i64 O1) := kG.cell 3
      have hbA := bnext hbr (one_alloc wr (.cells #[.int .i64 K, .slice A n c, .int .i64 N1, .int .i64 O1] 26))
      go_wp2_with fail
      refine (H1.out _ (by exact h1.next (bnext hb1 hbA))).mono ?_
      rintro e w2 ⟨rfl, hb2⟩
      go_wp2_with fail
      go_roundw
      case rel => exact ⟨1, by omega, by first | rfl | go_num, bnext hbA hb2⟩
      case measure => simp [intOf]
    · have kG := kG1.next hbr
      have g0 : wr.cell? ⟨b + 3, 4, none⟩ = some (.int .i64 K) := kG.cell 4
      have g1 : wr.cell? ⟨b + 3, 5, none⟩ = some (.slice B m d) := kG.cell 5
      have g2 : wr.cell? ⟨b + 3, 6, none⟩ = some (.int .i64 N2) := kG.cell 6
      have g3 : wr.cell? ⟨b + 3, 7, none⟩ = some (.int .i64 O2) := kG.cell 7
      have hbA := bnext hbr (one_alloc wr (.cells #[.int .i64 K, .slice B m d, .int .i64 N2, .int .i64 O2] 26))
      go_wp2_with fail
      refine (H2.out _ (by exact h2.next (bnext hb1 hbA))).mono ?_
      rintro e w2 ⟨rfl, hb2⟩
      go_wp2_with fail
      go_roundw
      case rel => exact ⟨2, by omega, by first | rfl | go_num, bnext hbA hb2⟩
      case measure => simp [intOf]
    · have hb2 := bnext hb1 hbr
      have kA2 := kA1.next hbr
      have kB2 := kB1.next hbr
      have kR2 := kR1.next hbr
      have hlt2 := kG1.next hbr |>.lt
      clear kA1 kB1 kR1 kG1 hb1 hbr hj
      obtain ⟨w2, rfl⟩ : ∃ w2, w2 = wr := ⟨_, rfl⟩
      have a0 : w2.cell? ⟨b, 0, none⟩ = some (.int .i64 K) := kA2.cell 0
      have a1 : w2.cell? ⟨b, 1, none⟩ = some (.slice A n c) := kA2.cell 1
      have a2 : w2.cell? ⟨b, 2, none⟩ = some (.int .i64 N1) := kA2.cell 2
      have a3 : w2.cell? ⟨b, 3, none⟩ = some (.int .i64 O1) := kA2.cell 3
      have b0 : w2.cell? ⟨b + 1, 0, none⟩ = some (.int .i64 K) := kB2.cell 0
      have b2 : w2.cell? ⟨b + 1, 2, none⟩ = some (.int .i64 N2) := kB2.cell 2
      have b3 : w2.cell? ⟨b + 1, 3, none⟩ = some (.int .i64 O2) := kB2.cell 3
      by_cases hbig : (1000000000 : Int) < N1 + N2
      · have r0 : w2.cell? ⟨b + 2, 0, none⟩ = some (.int .i64 0) := kR2.cell 0
        have r1 : w2.cell? ⟨b + 2, 1, none⟩ = some (.slice none 0 0) := kR2.cell 1
        have r2 : w2.cell? ⟨b + 2, 2, none⟩ = some (.int .i64 0) := kR2.cell 2
        have r3 : w2.cell? ⟨b + 2, 3, none⟩ = some (.int .i64 0) := kR2.cell 3
        have f0 := kR2.frozen 0
        have f1 := kR2.frozen 1
        have f2 := kR2.frozen 2
        have f3 := kR2.frozen 3
        have er := HR.out
        rw [if_pos hbig] at er
        subst er
        go_wp2_with fail
        refine bodyPost_ret (v := .tuple #[.agg #[.int .i64 0, .slice none 0 0, .int .i64 0, .int .i64 0], .int .i64 2]) (by simp [results, Try.results18, go_sem, *]) rfl (RV.mk ?_)
        have hbb : w.heap.size ≤ b + 2 := by omega
        exact ⟨none, 0, rfl, HvL.nil _, (((hb2.setCell (by exact hbb) _).setCell (by exact hbb) _).setCell (by exact hbb) _).setCell (by exact hbb) _, fun ad e => by cases e⟩
      · have d1 := decide_eq_false hbig
        have er := HR.out
        rw [if_neg hbig] at er
        have HR := Lib.hid er
        clear er
        have hH1 := h1.next hb2
        have hbZ : Below w2.heap.size w2 (w2.alloc (.cells #[.int .i64 0, .slice none 0 0, .int .i64 0, .int .i64 0] 26)).drew := below_drewG (one_alloc _ _)
        have kZ : Blk (w2.alloc (.cells #[.int .i64 0, .slice none 0 0, .int .i64 0, .int .i64 0] 26)).drew w2.heap.size 26 #[.int .i64 0, .slice none 0 0, .int .i64 0, .int .i64 0] := (Blk.new w2 _ _).drewN 1
        have eN : IntKind.i64.wrap (N1 + N2) = N1 + N2 := IntWalk.i64_in _ (by omega)
        have eO : IntKind.i64.wrap (O1 + O2) = O1 + O2 := IntWalk.i64_in _ (by omega)
        have hltb : b + 1 < w2.heap.size := by omega
        go_upto_region 12 with fail
        go_cut [9] from 48 to 63 (fun s9 wx => ∃ (b9 : Nat) (A5 : Option Addr) (c5 : Nat), s9 = .pointer (some ⟨b9, 0, none⟩) ∧ w2.heap.size ≤ b9 ∧ Blk wx b9 26 #[.int .i64 K, .slice A5 n c5, .int .i64 (N1 + N2), .int .i64 (O1 + O2)] ∧ wx.ownsRow w2.heap.size 72 2 (.slice A5 n c5) n (cnCs L1) ∧ Below w2.heap.size w2 wx)
        case first =>
          go_region_held3 (fun w' => w'.cell? ⟨b, 0, none⟩ = some (.int .i64 K) ∧ w'.cell? ⟨b, 1, none⟩ = some (.slice A n c) ∧ w'.cell? ⟨b, 2, none⟩ = some (.int .i64 N1) ∧ w'.cell? ⟨b, 3, none⟩ = some (.int .i64 O1) ∧ w'.cell? ⟨b + 1, 2, none⟩ = some (.int .i64 N2) ∧ w'.cell? ⟨b + 1, 3, none⟩ = some (.int .i64 O2))
          (first
            | ((refine keepM (B := w2.heap.size) (w := w2) ?_ (by omega) (by omega) a0 a1 a2 a3 b2 b3; (repeat' (first | with_reducible exact hB5 | with_reducible exact Below.refl _ _ | with_reducible refine below_allocG ?_ | with_reducible refine below_setG ?_ | with_reducible refine below_drewG ?_ | with_reducible refine below_drewN ?_ _)); done))
            | (trace_state; fail))
          (first
            | (go_at_call 40; refine (H3.out _ (by exact hH1)).mono ?_; rintro e w5 ⟨v, rfl, A5, c5, rfl, hown5, hb5⟩; have hB5 : Below w2.heap.size w2 w5 := by first | exact hb5 | exact bnext (below_drewG (Below.refl _ _)) hb5)
            | (go_at_call 40; refine (H3.out _ (by exact hH1.next hbZ)).mono ?_; rintro e w5 ⟨v, rfl, A5, c5, rfl, hown5, hb5⟩; have hB5 : Below w2.heap.size w2 w5 := bnext hbZ hb5; have kz : Blk w5 w2.heap.size 26 #[.int .i64 0, .slice none 0 0, .int .i64 0, .int .i64 0] := kZ.next hb5; have z0 : w5.cell? ⟨w2.heap.size, 0, none⟩ = some (.int .i64 0) := kz.cell 0; have z1 : w5.cell? ⟨w2.heap.size, 1, none⟩ = some (.slice none 0 0) := kz.cell 1; have z2 : w5.cell? ⟨w2.heap.size, 2, none⟩ = some (.int .i64 0) := kz.cell 2; have z3 : w5.cell? ⟨w2.heap.size, 3, none⟩ = some (.int .i64 0) := kz.cell 3; have f0 := kz.frozen 0; have f1 := kz.frozen 1; have f2 := kz.frozen 2; have f3 := kz.frozen 3))
          all_goals
            (go_wp2_with fail
             go_meet
             first
              | (have k9 := (((kz.set 0 (.int .i64 K)).set 1 (.slice A5 n c5)).set 2 (.int .i64 (N1 + N2))).set 3 (.int .i64 (O1 + O2))
                 have hbs : w2.heap.size < (w2.alloc (.cells #[.int .i64 0, .slice none 0 0, .int .i64 0, .int .i64 0] 26)).drew.heap.size := by show w2.heap.size < (w2.alloc _).heap.size; rw [World.size_alloc]; omega
                 exact ⟨_, A5, c5, rfl, Nat.le_refl _, k9, own_less (ownsRow_setCell_below (ownsRow_setCell_below (ownsRow_setCell_below (ownsRow_setCell_below hown5 (a := ⟨w2.heap.size, 0, none⟩) hbs _) (a := ⟨w2.heap.size, 1, none⟩) hbs _) (a := ⟨w2.heap.size, 2, none⟩) hbs _) (a := ⟨w2.heap.size, 3, none⟩) hbs _) (Nat.le_of_lt hbs), below_setG (below_setG (below_setG (below_setG hB5)))⟩)
              | exact ⟨_, A5, c5, rfl, hB5.size, Blk.new _ _ _, hown5.alloc _, below_allocG hB5⟩)
        case rest =>
        obtain ⟨b9, A5, c5, rfl, hb9, k9, ho5, hbc⟩ := hcut
        have HP := Lib.hid (fun k => putAll_take HO1.out.okL HO2.out.okL k)
        have hS1 : sumH L1 ≤ N1 := HO1.out.more.2.2.2.1
        have hS2 : sumH L2 ≤ N2 := HO2.out.more.2.2.2.1
        obtain ⟨S1, hs1⟩ : ∃ S1, sumH L1 = S1 := ⟨_, rfl⟩
        obtain ⟨S2, hs2⟩ : ∃ S2, sumH L2 = S2 := ⟨_, rfl⟩
        rw [hs1] at hS1
        rw [hs2] at hS2
        rw [hs1, hs2] at HP
        have hB2 := hb2.size
        have kBc := kB2.next hbc
        have y1 : wc.cell? ⟨b + 1, 1, none⟩ = some (.slice B m d) := kBc.cell 1
        clear a0 a1 a2 a3 b0 b2 b3 hs1 hs2 hbZ kZ hH1 H1 H2 H3 kA2
        go_wp2_with fail
        go_loopw [67] (fun i wr => ∃ (k q : Nat) (A6 : Option Addr) (c6 : Nat) (P : List Cn), k ≤ m ∧ i = .int .i64 (k : Nat) ∧ Hid (putAll L1 (L2.take k) = P) ∧ Hid (P.length = q) ∧ Blk wr b9 26 #[.int .i64 K, .slice A6 q c6, .int .i64 (N1 + N2), .int .i64 (O1 + O2)] ∧ wr.ownsRow w2.heap.size 72 2 (.slice A6 q c6) q (cnCs P) ∧ Below w2.heap.size w2 wr) (fun i _ => m - (intOf i).toNat)
        case atStart => exact ⟨0, n, A5, c5, L1, by omega, rfl, Lib.hid rfl, Hn, k9, ho5, hbc⟩
        case round =>
          clear k9 ho5 hbc y1 kBc
          obtain ⟨k, q, A6, c6, P, hk, rfl, hPk, hPl, k9r, hor, hbr⟩ := hrel
          have hbs := hbr.size
          have hPok := HP.out k
          rw [hPk.out] at hPok
          obtain ⟨hok, hsm, hln⟩ := hPok
          rw [hPl.out, Hn.out, Hm.out] at hln
          have Hok := Lib.hid hok
          clear hok
          have hbw := bnext hb2 hbr
          have hlt9 := k9r.lt
          by_cases hlt : (k : Int) < (m : Int)
          · have l1 := Lib.hid (show k < L2.length by rw [Hm.out]; omega)
            obtain ⟨bd, rfl, hbd, c0, c1⟩ := (h2.next hbw).cnAt l1.out
            have he := HO2.out.each _ (at_mem l1.out)
            have hm2 : (at_ L2 k).n ≤ N2 := HO2.out.more.2.1 _ (at_mem l1.out)
            have hstp := putAll_step (L1 := L1) l1.out
            rw [hPk.out] at hstp
            obtain ⟨y, hy⟩ : ∃ y, at_ L2 k = y := ⟨_, rfl⟩
            rw [hy] at c0 c1 he hm2 hstp
            clear hy
            obtain ⟨yk, yn⟩ := y
            simp only [] at c0 c1 he hm2
            have Hstp := Lib.hid hstp
            clear hstp
            have kC : Blk (wr.alloc (.cells #[.string yk, .int .i64 yn] 72)) wr.heap.size 72 #[.string yk, .int .i64 yn] := Blk.new _ _ _
            have hsC : (wr.alloc (.cells #[.string yk, .int .i64 yn] 72)).heap.size = wr.heap.size + 1 := World.size_alloc _ _
            have hbA := hbr.alloc hbs (.cells #[.string yk, .int .i64 yn] 72)
            have k9A := k9r.alloc (.cells #[.string yk, .int .i64 yn] 72)
            have hoA := hor.alloc (.cells #[.string yk, .int .i64 yn] 72)
            have y1 : (wr.alloc (.cells #[.string yk, .int .i64 yn] 72)).cell? ⟨b9, 1, none⟩ = some (.slice A6 q c6) := k9A.cell 1
            go_wp2_with fail
            refine (findH_any A6 q c6 P hPl.out (by omega) Hok.out.rise yk _ (Has.of_own hoA)).mono ?_
            rintro e w4 ⟨v, rfl, ⟨i, rfl, hp⟩, hb4⟩
            have kC4 := kC.next hb4
            have k94 := k9A.next hb4
            have ho4 := own_next hoA hb4
            have hb04 := bnext hbA hb4
            have hs4 := hb4.size
            rw [hsC] at hs4
            have hin : i ≤ q := by rw [← hPl.out]; exact hp.1
            have Hp := Lib.hid hp
            have hne9 := rk_ne k94 ho4 (by decide)
            clear y1 c0 c1 kC hbA k9A hoA hb4 hp hsC
            by_cases hh : hasH P yk
            · rw [decide_eq_true hh]
              obtain ⟨hi, hik⟩ := (Hp.out.mem Hok.out.rise).1 hh
              have e1 := putC_has (x := ⟨yk, yn⟩) Hok.out.rise hi hik
              have hx0 := (Hok.out.each _ (at_mem hi)).2
              have hx1 := sumH_ge (fun c hc => (Hok.out.each c hc).2) _ (at_mem hi)
              obtain ⟨x, hx⟩ : ∃ x, (at_ P i).n = x := ⟨_, rfl⟩
              rw [hx] at e1 hx0 hx1
              rw [hPl.out] at hi
              obtain ⟨g, cap, ev, hg, hgs⟩ := ho4.form (by omega)
              injection ev with ev1 _ ev3
              subst ev1 ev3
              have c4 := (ho4.cellAt (i * 2 + 1) (by omega)).trans (cnCs_1 (by rw [hPl.out]; exact hi))
              rw [hx] at c4
              have fz := ho4.frozenAt (i * 2 + 1)
              have hst := (ho4.stored (i * 2 + 1) (.int .i64 (x + yn))).1
              rw [cnCs_set1, ← e1, ← Hstp.out] at hst
              have hLl := Lib.hid (show (putAll L1 (L2.take (k + 1))).length = q by rw [Hstp.out, e1, List.length_set]; exact hPl.out)
              have Hst := Lib.hid hst
              have gne : ¬ (g = b9) := fun e => hne9 (by rw [e]; rfl)
              have y1 : w4.cell? ⟨b9, 1, none⟩ = some (.slice (some ⟨g, 0, none⟩) q c6) := k94.cell 1
              have z1 : w4.cell? ⟨wr.heap.size, 1, none⟩ = some (.int .i64 yn) := kC4.cell 1
              have ew : IntKind.i64.wrap (x + yn) = x + yn := IntWalk.i64_in _ (by omega)
              have hiq : (i : Int) < (q : Int) := by omega
              clear hst e1 hx hh hik ho4 hne9
              go_wp2_with fail
              go_region
              go_wp2_with fail
              go_roundw
              case rel => exact ⟨k + 1, q, some ⟨g, 0, none⟩, c6, _, by omega, by go_num, Lib.hid rfl, hLl, k94.far ⟨g, i * 2 + 1, none⟩ _ gne, Hst.out, below_drewG (hb04.setCell (p := ⟨g, i * 2 + 1, none⟩) hg _)⟩
              case measure => simp [intOf]; omega
            · rw [decide_eq_false hh]
              have e1 := putC_ins (x := ⟨yk, yn⟩) hh Hp.out
              have hLl := Lib.hid (show (putAll L1 (L2.take (k + 1))).length = q + 1 by rw [Hstp.out, e1, List.length_append, List.length_cons, List.length_take, List.length_drop, hPl.out]; omega)
              have hxs : (cnCs P).take (i * 2) ++ ((#[Value.string yk, .int .i64 yn] : Array Value).toList ++ (cnCs P).drop (i * 2)) = cnCs (putAll L1 (L2.take (k + 1))) := by
                rw [Hstp.out, e1, cnCs_take, cnCs_drop, cnCs_app]; rfl
              have kb : Blk (w4.alloc (.cells #[.string yk, .int .i64 yn] 72)) w4.heap.size 72 #[.string yk, .int .i64 yn] := Blk.new _ _ _
              have hownX := ho4.alloc (.cells #[.string yk, .int .i64 yn] 72)
              have hszX : (w4.alloc (.cells #[.string yk, .int .i64 yn] 72)).heap.size = w4.heap.size + 1 := World.size_alloc _ _
              have hbX := hb04.alloc hb04.size (.cells #[.string yk, .int .i64 yn] 72)
              have k9X := k94.alloc (.cells #[.string yk, .int .i64 yn] 72)
              have hs04 := hb04.size
              have hob := fun k hk => own_blockM ho4 k hk
              have hneb : (Value.slice A6 q c6).ownBlock ≠ some w4.heap.size := fun e => by have := (hob _ e).2; omega
              have HI := Lib.hid (insH2_any (base := w2.heap.size) (n := q) (v := .slice A6 q c6) (xs := cnCs P) (i := i) (vb := w4.heap.size) (vc := 1) #[.string yk, .int .i64 yn] _ hownX (by rw [hszX]; omega) hin rfl (by intro u hu; simp at hu; rcases hu with rfl | rfl <;> rfl) (cnCs_one P) kb hneb (by omega))
              rw [hxs] at HI
              have y1 : w4.cell? ⟨b9, 1, none⟩ = some (.slice A6 q c6) := k94.cell 1
              have z0 : w4.cell? ⟨wr.heap.size, 0, none⟩ = some (.string yk) := kC4.cell 0
              have z1 : w4.cell? ⟨wr.heap.size, 1, none⟩ = some (.int .i64 yn) := kC4.cell 1
              clear e1 hh hxs
              go_wp2_with fail
              refine HI.out.mono ?_
              rintro e w6 ⟨v6, rfl, ho6, hg6, hb6⟩
              obtain ⟨A7, c7, rfl, _⟩ := own_form ho6
              have k96 := k9X.grown hg6 hne9
              have hb06 := hbX.trans (grown_below hownX hg6 (by rw [hszX]; omega))
              have hne96 := rk_ne k96 ho6 (by decide)
              clear y1 z0 z1 hownX k9X hbX kb
              have y1 : w6.cell? ⟨b9, 1, none⟩ = some (.slice A6 q c6) := k96.cell 1
              have f1 := k96.frozen 1
              have ho7 := Lib.hid (ownsRow_setCell_other ho6 (a := ⟨b9, 1, none⟩) (fun e => hne96 e.symm) (.slice A7 (q + 1) c7))
              go_wp2_with fail
              go_roundw
              case rel => exact ⟨k + 1, q + 1, A7, c7, _, by omega, by go_num, Lib.hid rfl, hLl, k96.set 1 _, ho7.out, hb06.setCell (p := ⟨b9, 1, none⟩) hb9 _⟩
              case measure => simp [intOf]; omega
          · have hkm : k = m := by omega
            subst hkm
            have hM := Lib.hid (show mrgL ⟨K, L1, N1, O1⟩ ⟨K, L2, N2, O2⟩ = P by
              unfold mrgL
              rw [← hPk.out, List.take_of_length_le (by rw [Hm.out]; exact Nat.le_refl _)])
            obtain ⟨w7, rfl⟩ : ∃ w7, w7 = wr := ⟨_, rfl⟩
            have y0 : w7.cell? ⟨b9, 0, none⟩ = some (.int .i64 K) := k9r.cell 0
            have y1 : w7.cell? ⟨b9, 1, none⟩ = some (.slice A6 q c6) := k9r.cell 1
            have y2 : w7.cell? ⟨b9, 2, none⟩ = some (.int .i64 (N1 + N2)) := k9r.cell 2
            have y3 : w7.cell? ⟨b9, 3, none⟩ = some (.int .i64 (O1 + O2)) := k9r.cell 3
            have kR7 := kR2.next hbr
            have hRlt := kR2.lt
            by_cases hg : K < (q : Int)
            · have HRr := HR.out
              obtain ⟨kn, rfl⟩ := Int.eq_ofNat_of_zero_le (show 0 ≤ K by omega)
              have hgm : ((kn : Nat) : Int) < (mrgL ⟨kn, L1, N1, O1⟩ ⟨kn, L2, N2, O2⟩).length := by rw [hM.out, hPl.out]; exact hg
              have hC0 := (mrgC_ok HO1.out HO2.out hgm).1
              obtain ⟨C, hC⟩ : ∃ C, mrgC ⟨kn, L1, N1, O1⟩ ⟨kn, L2, N2, O2⟩ = C := ⟨_, rfl⟩
              rw [hM.out, hPl.out, if_pos hg, hC] at HRr
              rw [hC] at hC0
              unfold mrgC at hC
              rw [if_pos hgm, hM.out, hPl.out] at hC
              simp only [Int.toNat_natCast] at hC
              have hC : at_ (sortI (P.map Cn.n)) (q - 1 - kn) = C := hC
              have hsl : (sortI (P.map Cn.n)).length = q := by rw [sortI_len, List.length_map]; exact hPl.out
              have hC1 : C ≤ 1000000000 := by
                have hmem : C ∈ sortI (P.map Cn.n) := by rw [← hC]; exact at_mem (by rw [hsl]; omega)
                obtain ⟨x, hx, rfl⟩ := List.mem_map.1 ((sortI_perm _).mem_iff.1 hmem)
                have := sumH_ge (fun c hc => (Hok.out.each c hc).2) x hx
                omega
              obtain ⟨i0, hi0⟩ : ∃ i0, q - 1 - kn = i0 := ⟨_, rfl⟩
              rw [hi0] at hC
              have hi1 : (i0 : Int) < (q : Int) := by omega
              have ew1 : IntKind.i64.wrap ((q : Int) - 1) = (q : Int) - 1 := IntWalk.i64_in _ (by omega)
              have ew2 : IntKind.i64.wrap ((q : Int) - 1 - (kn : Int)) = (i0 : Int) := (IntWalk.i64_in _ (by omega)).trans (by omega)
              have HC := Lib.hid hC
              have Hsl := Lib.hid hsl
              have HRr := Lib.hid HRr
              have hs27 := hbr.size
              clear hC hsl hi0 HR hgm
              go_wp2_with fail
              go_loopw [14, 108] (fun o i wx => ∃ (j : Nat) (O : Option Addr) (e : Nat), j ≤ q ∧ i = .int .i64 (j : Nat) ∧ o = .slice O j e ∧ wx.ownsRow w7.heap.size 2 1 (.slice O j e) j (i64s ((P.take j).map Cn.n)) ∧ Below w7.heap.size w7 wx) (fun _ i _ => q - (intOf i).toNat)
              case atStart => exact ⟨0, none, 0, by omega, rfl, rfl, ⟨rfl, .inl ⟨rfl, rfl⟩⟩, Below.refl _ _⟩
              case round =>
                obtain ⟨j, O, e, hj, rfl, rfl, hoj, hbx⟩ := hrel
                have hsx := hbx.size
                by_cases hjq : (j : Int) < (q : Int)
                · have lj := Lib.hid (show j < P.length by rw [hPl.out]; omega)
                  obtain ⟨ad, rfl, had, c0, c1⟩ := ((Has.of_own hor).next hbx).cnAt lj.out
                  have htk := Lib.hid (show i64s ((P.take (j + 1)).map Cn.n) = i64s ((P.take j).map Cn.n) ++ (#[Value.int .i64 (at_ P j).n] : Array Value).toList by rw [take_at lj.out, List.map_append]; simp [i64s, i64v])
                  obtain ⟨y, hy⟩ : ∃ y, at_ P j = y := ⟨_, rfl⟩
                  rw [hy] at c0 c1 htk
                  clear hy
                  obtain ⟨yk, yn⟩ := y
                  simp only [] at c0 c1 htk
                  have hojA := hoj.alloc (.cells #[.string yk, .int .i64 yn] 72)
                  have hbxA := hbx.alloc hsx (.cells #[.string yk, .int .i64 yn] 72)
                  go_wp2_with (at_builtin; refine wpList_append1 rfl _ _ _ rfl elI64 rfl hojA rfl (by first | rfl | simp) rfl ?_ ?k1 ?k2 ?k3 ?k4; intro A5 e5 w5 hown5 hgrow5 hb5)
                  case k1 => first | rfl | exact ⟨rfl⟩ | (intro u hu; simp at hu; subst hu; rfl)
                  case k2 => omega
                  case k3 => unfold maxLen; omega
                  case k4 => simp; omega
                  have hb05 := hbxA.trans hb5
                  go_roundw
                  case rel => exact ⟨j + 1, A5, e5, by omega, by go_num, rfl, by rw [htk.out]; exact hown5, hb05⟩
                  case measure => simp [intOf]; omega
                · have hjn : j = q := by omega
                  subst hjn
                  rw [List.take_of_length_le (by rw [hPl.out]; exact Nat.le_refl _)] at hoj
                  have Hsort := Lib.hid (sortI_any (P.map Cn.n) (by rw [List.length_map]; exact hPl.out) (by omega) wr hoj)
                  have hob := fun k hk => own_blockM hoj k hk
                  clear hoj
                  go_wp2_with fail
                  refine Hsort.out.mono ?_
                  rintro e8 w8 ⟨rfl, ho8, hg8⟩
                  have hb78 : Below w7.heap.size w7 w8 := hbx.grown hg8 hsx (fun k hk => (hob k hk).1)
                  have k98 := k9r.next hb78
                  have kR8 := kR7.next hb78
                  have ho78 := own_next hor hb78
                  have hb28 := hbr.trans (hb78.mono hs27)
                  obtain ⟨O8, hO8⟩ : ∃ ad, O = some ad ∧ w8.cell? (ad.add i0) = some (.int .i64 C) := by
                    have hc := i64s_at (l := sortI (P.map Cn.n)) (k := i0) (by rw [Hsl.out]; omega)
                    rw [HC.out] at hc
                    obtain ⟨ad, e1, _, e2⟩ := (Has.of_own ho8).at hc
                    exact ⟨ad, e1, e2⟩
                  obtain ⟨rfl, c8⟩ := hO8
                  have H6 := Lib.hid (fun (w : World) (h : Has w w.heap.size A6 (cnCs P)) => lessH_any A6 j c6 P hPl.out (by omega) C (by omega) (fun x hx => by have h1 := (Hok.out.each x hx).2; have h2 := sumH_ge (fun c hc => (Hok.out.each c hc).2) x hx; omega) w h)
                  clear y0 y1 y2 y3 ho8 hg8 hob
                  have y0 : w8.cell? ⟨b9, 0, none⟩ = some (.int .i64 kn) := k98.cell 0
                  have y1 : w8.cell? ⟨b9, 1, none⟩ = some (.slice A6 j c6) := k98.cell 1
                  go_wp2_with fail
                  refine (H6.out _ (Has.of_own ho78)).mono ?_
                  rintro e9 w9 ⟨v9, rfl, A9, c9, rfl, ho9, hb9'⟩
                  obtain ⟨r9, hr9⟩ : ∃ r9, (lessH P C).length = r9 := ⟨_, rfl⟩
                  rw [hr9] at ho9
                  rw [hr9]
                  have Hr9 := Lib.hid hr9
                  have k99 := k98.next hb9'
                  have kR9 := kR8.next hb9'
                  have hb29 := hb28.trans (hb9'.mono hb28.size)
                  have hbw9 := bnext hb2 hb29
                  have hs89 := hb28.size
                  have hlt98 := k98.lt
                  clear y0 y1 hr9 hb9'
                  have y0 : w9.cell? ⟨b9, 0, none⟩ = some (.int .i64 kn) := k99.cell 0
                  have y1 : w9.cell? ⟨b9, 1, none⟩ = some (.slice A6 j c6) := k99.cell 1
                  have y2 : w9.cell? ⟨b9, 2, none⟩ = some (.int .i64 (N1 + N2)) := k99.cell 2
                  have y3 : w9.cell? ⟨b9, 3, none⟩ = some (.int .i64 (O1 + O2)) := k99.cell 3
                  have r0 : w9.cell? ⟨b + 2, 0, none⟩ = some (.int .i64 0) := kR9.cell 0
                  have r1 : w9.cell? ⟨b + 2, 1, none⟩ = some (.slice none 0 0) := kR9.cell 1
                  have r2 : w9.cell? ⟨b + 2, 2, none⟩ = some (.int .i64 0) := kR9.cell 2
                  have r3 : w9.cell? ⟨b + 2, 3, none⟩ = some (.int .i64 0) := kR9.cell 3
                  have f0 := kR9.frozen 0
                  have f1 := kR9.frozen 1
                  have f2 := kR9.frozen 2
                  have f3 := kR9.frozen 3
                  have g1 := k99.frozen 1
                  have g3 := k99.frozen 3
                  have bne : ¬ (b9 = b + 2) := by omega
                  have bne' : ¬ (b + 2 = b9) := by omega
                  have ewo : IntKind.i64.wrap (O1 + O2 + C) = O1 + O2 + C := IntWalk.i64_in _ (by omega)
                  have ho10 := ownsRow_setCell_below (ownsRow_setCell_below ho9 (a := ⟨b9, 1, none⟩) hlt98 (.slice A9 r9 c9)) (a := ⟨b9, 3, none⟩) hlt98 (.int .i64 (O1 + O2 + C))
                  have hbw10 := (hbw9.setCell (p := ⟨b9, 1, none⟩) (by show w.heap.size ≤ b9; omega) (.slice A9 r9 c9)).setCell (p := ⟨b9, 3, none⟩) (by show w.heap.size ≤ b9; omega) (.int .i64 (O1 + O2 + C))
                  have HRx := HRr.out
                  subst HRx
                  go_wp2_with fail
                  refine bodyPost_ret (v := .tuple #[.agg #[.int .i64 kn, .slice A9 r9 c9, .int .i64 (N1 + N2), .int .i64 (O1 + O2 + C)], .int .i64 0]) (by simp [results, Try.results18, go_sem, *]) rfl (RV.mk ?_)
                  exact HvF.put (base := w8.heap.size) Hr9.out ho10 hbw10 (by omega) (by omega) _ _ _ _
            · have HRr := HR.out
              rw [hM.out, hPl.out, if_neg hg] at HRr
              subst HRr
              have r0 : w7.cell? ⟨b + 2, 0, none⟩ = some (.int .i64 0) := kR7.cell 0
              have r1 : w7.cell? ⟨b + 2, 1, none⟩ = some (.slice none 0 0) := kR7.cell 1
              have r2 : w7.cell? ⟨b + 2, 2, none⟩ = some (.int .i64 0) := kR7.cell 2
              have r3 : w7.cell? ⟨b + 2, 3, none⟩ = some (.int .i64 0) := kR7.cell 3
              have f0 := kR7.frozen 0
              have f1 := kR7.frozen 1
              have f2 := kR7.frozen 2
              have f3 := kR7.frozen 3
              go_wp2_with fail
              refine bodyPost_ret (v := .tuple #[.agg #[.int .i64 K, .slice A6 q c6, .int .i64 (N1 + N2), .int .i64 (O1 + O2)], .int .i64 0]) (by simp [results, Try.results18, go_sem, *]) rfl (RV.mk ?_)
              exact HvF.put (base := w2.heap.size) hPl.out hor hbw hRlt (by omega) _ _ _ _
end Go.Proofs.Ytnppgocedokioaa
