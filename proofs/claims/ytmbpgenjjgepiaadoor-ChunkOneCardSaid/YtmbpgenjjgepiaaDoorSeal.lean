/- What Seal of package chunk makes. Conditions: samples fit their kinds; the tables lie in their cells. -/
import Derived.Test.YtmbpgenjjgepiaaDoorSealLaw
import Derived.Test.YtmbpgenjjgepiaaDoorStepS
import Derived.Test.YtmbpgenjjgepiaaDoorPackD
import Derived.Test.YtmbpgenjjgepiaaDoorPackX
import Derived.Test.YtmbpgenjjgepiaaDoorBits
import Derived.Test.YtmbpgenjjgepiaaDoorTakeBits
import Derived.Deep.RegionHeldLaw
import Derived.Deep.CutRange
namespace Go.Proofs.YtmbpgenjjgepiaaDoor
open Go.RowKit

theorem elI64s : Elem Tryd.prog 37 2 1 8 := Elem.mk' (z := .int .i64 0) Tryd.underlying37 (by kernel_rfl) rfl (by decide)
theorem elU64s : Elem Tryd.prog 38 41 1 8 := Elem.mk' (z := .int .u64 0) Tryd.underlying38 (by kernel_rfl) rfl (by decide)
theorem box_at {w : World} {B : Nat} {cs : Array Value} {e : TypeId} (h : B = w.heap.size) : (w.alloc (.cells cs e)).heap[B]? = some (.cells cs e (0, 0)) := by subst h; exact heap_alloc_new w _
theorem box_under {w : World} {B : Nat} {x : Obj} {o : Obj} (h : w.heap[B]? = some x) : (w.alloc o).heap[B]? = some x := (Below.heap_alloc w o B (Array.getElem?_eq_some_iff.1 h).1).trans h
theorem box_drew {w : World} {B : Nat} {x : Option Obj} (h : w.heap[B]? = x) : w.drew.heap[B]? = x := h
theorem grown_box {w w' : World} {row : Option Nat} {B : Nat} {x : Obj} (hg : w.grownBy w' row) (h : w.heap[B]? = some x) (hn : some B ≠ row) : w'.heap[B]? = some x := (hg.block B (Array.getElem?_eq_some_iff.1 h).1 hn).trans h
theorem own_drewS {w : World} {base size n : Nat} {e : TypeId} {v : Value} {xs : List Value} (h : w.ownsRow base e size v n xs) : w.drew.ownsRow base e size v n xs := own_drewN h 1
theorem own_twoS {w : World} {b1 b2 s1 s2 n1 n2 : Nat} {v1 v2 : Value} {e1 e2 : TypeId} {x1 x2 : List Value} (h1 : w.ownsRow b1 e1 s1 v1 n1 x1) (h2 : w.ownsRow b2 e2 s2 v2 n2 x2) (ht : e1 ≠ e2) : ∀ k, v1.ownBlock = some k → some k ≠ v2.ownBlock := by
  intro k hk
  rcases h1.2 with ⟨rfl, _⟩ | ⟨q, cap, cur, rfl, _, hg, _⟩
  · cases hk
  · injection hk with hk
    have hk : q = k := hk
    subst hk
    rcases h2.2 with ⟨rfl, _⟩ | ⟨q', cap', cur', rfl, _, hg', _⟩
    · intro h; cases h
    · intro h
      injection h with h
      have h : q = q' := h
      subst h
      rw [hg] at hg'
      injection hg' with hg'
      injection hg' with _ hg'
      exact ht hg'
theorem below_drewX {B : Nat} {a w : World} (h : Below B a w) : Below B a w.drew := below_drewN h 1
theorem below_allocS {a w : World} (h : Below a.heap.size a w) (o : Obj) : Below a.heap.size a (w.alloc o) := h.alloc h.size o
theorem drew_size (w : World) : w.drew.heap.size = w.heap.size := rfl
theorem keepS2 {W : World} {g : Nat} {t : TypeId} {x0 x1 : Value} (h : Blk W g t #[x0, x1]) : W.cell? ⟨g, 0, none⟩ = some x0 ∧ W.cell? ⟨g, 1, none⟩ = some x1 := ⟨h.cell 0, h.cell 1⟩
theorem times_step {l : List Smp} {k : Nat} (h : k < l.length) : i64s (timesL (l.take (k + 1))) = i64s (timesL (l.take k)) ++ (#[.int .i64 (at_ l k).t] : Array Value).toList := by rw [take_at h]; simp [timesL, i64s, i64v]
theorem vals_step {l : List Smp} {k : Nat} (h : k < l.length) : u64s (valsL (l.take (k + 1))) = u64s (valsL (l.take k)) ++ (#[.int .u64 (u64I (at_ l k).v : Nat)] : Array Value).toList := by rw [take_at h]; simp [valsL, u64s, u64v]
def SealP (r : List Nat × Int) (w : World) (v : Value) (w' : World) : Prop :=
  ∃ A c, v = .tuple #[.slice A r.1.length c, .int .i64 r.2] ∧ w'.ownsRow w.heap.size 5 1 (.slice A r.1.length c) r.1.length (u8s r.1) ∧ Below w.heap.size w w'

set_option maxRecDepth 1000000 in
set_option maxHeartbeats 8000000 in
theorem seal_any (A : Option Addr) (n c : Nat) (l : List Smp) (r : List Nat × Int) (hr : sealN l = r) (hn : l.length = n) (hl : l.length ≤ maxLen) (hi : Smps l) (w : World) (h : Has w w.heap.size A (smpCs l)) (ht : TabAt w) (hd : DebAt w) (hw0 : 1 < w.heap.size) :
    Calls Tryd.prog 6 #[.slice A n c] w (RV (SealP r w)) := by
  subst hn
  obtain ⟨z, hz⟩ : ∃ z, chkS l = z := ⟨_, rfl⟩
  have hck := scheck_any A c l hl w h
  rw [hz] at hck
  by_cases hz0 : z = 0
  · subst hz0
    have hr2 : r = (sealB l, 0) := by rw [← hr]; unfold sealN; rw [if_neg (by rw [hz]; simp)]
    have h1000 := (chkS_ok hz).1
    obtain ⟨n, hn⟩ : ∃ n, l.length = n := ⟨_, rfl⟩
    have Hn := Lib.hid hn
    rw [hn] at hck h1000 ⊢
    have HR := Lib.hid hr2
    have Hck := Lib.hid hck
    have HI := Lib.hid hi
    have HT := Lib.hid ht
    have HD := Lib.hid hd
    clear hr hr2 hz hck hi ht hd hl hn
    go_enter Tryd.func6, Tryd.ntmps6
    go_wp2_with fail
    refine (Hck.out).mono ?_
    rintro e w1 ⟨rfl, n1, rfl⟩
    go_wp2_with fail
    obtain ⟨w1, hw1⟩ : ∃ w1, w.drewN n1 = w1 := ⟨_, rfl⟩
    have hb1 : Below w.heap.size w w1 := by rw [← hw1]; exact below_drewN (Below.refl _ _) _
    rw [hw1]
    clear hw1 n1
    go_loopw [5, 6, 23] (fun tv vv i wr => ∃ (k : Nat) (O P : Option Addr) (e f : Nat), k ≤ n ∧ i = .int .i64 (k : Nat) ∧ tv = .slice O k e ∧ vv = .slice P k f ∧ wr.ownsRow w.heap.size 2 1 (.slice O k e) k (i64s (timesL (l.take k))) ∧ wr.ownsRow w.heap.size 41 1 (.slice P k f) k (u64s (valsL (l.take k))) ∧ Below w.heap.size w wr) (fun _ _ i _ => n + 5 - (intOf i).toNat)
    case atStart => exact ⟨0, none, none, 0, 0, by omega, rfl, rfl, rfl, ⟨rfl, .inl ⟨rfl, rfl⟩⟩, ⟨rfl, .inl ⟨rfl, rfl⟩⟩, hb1⟩
    case round =>
      obtain ⟨k, O, P, e, f, hk, rfl, rfl, rfl, hownT, hownV, hbr⟩ := hrel
      have hbs := hbr.size
      by_cases hlt : (k : Int) < (n : Int)
      · have l1 := Lib.hid (show k < l.length by rw [Hn.out]; omega)
        obtain ⟨ad, rfl, had, c0⟩ := (h.below hbr).at (smpCs_t l1.out)
        obtain ⟨ad', e', _, c1⟩ := (h.below hbr).at (smpCs_v l1.out)
        injection e' with e'
        subst e'
        have c1 := cell_off c1 (by decide)
        have hsv := Lib.hid (HI.out _ (at_mem l1.out))
        have st := Lib.hid (times_step l1.out)
        have sv := Lib.hid (vals_step l1.out)
        obtain ⟨s, hs⟩ : ∃ s, at_ l k = s := ⟨_, rfl⟩
        rw [hs] at c0 c1 hsv st sv
        clear hs
        have eU : IntKind.u64.wrap s.v = ((u64I s.v : Nat) : Int) := wrap_u64I s.v
        have h16 : (k + 1) * 8 ≤ 140737488355328 := by omega
        have h63 : k + 1 ≤ maxLen := by unfold maxLen; omega
        have hnT : ∀ j, (Value.slice O k e).ownBlock = some j → j < wr.heap.size := fun j hj => (own_blockU hownT j hj).2
        have kg : Blk (wr.alloc (.cells #[.int .i64 s.t, .int .i64 s.v] 40)) wr.heap.size 40 #[.int .i64 s.t, .int .i64 s.v] := Blk.new _ _ _
        have hownTe := hownT.alloc (.cells #[.int .i64 s.t, .int .i64 s.v] 40)
        have hownVe := hownV.alloc (.cells #[.int .i64 s.t, .int .i64 s.v] 40)
        have hbe := hbr.alloc hbs (.cells #[.int .i64 s.t, .int .i64 s.v] 40)
        go_wp2_with fail
        obtain ⟨we, hwe⟩ : ∃ we, wr.alloc (.cells #[.int .i64 s.t, .int .i64 s.v] 40) = we := ⟨_, rfl⟩
        rw [hwe] at kg hownTe hownVe hbe
        rw [hwe]
        obtain ⟨g, hg⟩ : ∃ g, wr.heap.size = g := ⟨_, rfl⟩
        rw [hg] at kg hnT ⊢
        have hge : we.heap.size = g + 1 := by rw [← hwe, ← hg]; simp
        have hgw : w.heap.size ≤ g := by rw [← hg]; exact hbs
        clear hwe hg hownT hownV c0 c1 had
        have y0 : we.cell? ⟨g, 0, none⟩ = some (.int .i64 s.t) := kg.cell 0
        have y1 : we.cell? ⟨g, 1, none⟩ = some (.int .i64 s.v) := kg.cell 1
        go_region_held3 (fun w' => w'.cell? ⟨g, 0, none⟩ = some (.int .i64 s.t) ∧ w'.cell? ⟨g, 1, none⟩ = some (.int .i64 s.v))
          (first | (refine keepS2 (t := 40) ?_; (repeat' (first | with_reducible exact kg2 | with_reducible exact kg1 | with_reducible exact kg | with_reducible refine Blk.drewX ?_ | with_reducible refine Blk.alloc ?_ _)); done) | (trace_state; fail))
          (first
            | (apply step_append1 rfl (.tmp 27) (.tmp 30) 37 rfl elI64s (v := .slice O k e) (n := k) (base := w.heap.size) (xs := i64s (timesL (l.take k))); (case hown => (repeat' (first | with_reducible exact hownTe | with_reducible refine World.ownsRow.alloc ?_ _ | with_reducible refine own_drewS ?_))); (case hs => rfl); (case hx => rfl); (case hb => (repeat' (first | with_reducible refine box_drew ?_ | (with_reducible refine box_at ?_; first | rfl | exact hge.symm | (simp [hge]; done)) | with_reducible refine box_under ?_))); (case hl => rfl); (case h1 => (intro u hu; simp at hu; subst hu; rfl)); (case hmax => exact h16); (case h63 => exact h63); (case hbase => (refine Below.size (B := w.heap.size) ?_; (repeat' (first | with_reducible exact hbe | with_reducible refine below_drewX ?_ | with_reducible refine below_allocS ?_ _)))); intro A1 e1 w1 hown1 hgrow1 hbel1; have kg1 : Blk w1 g 40 #[.int .i64 s.t, .int .i64 s.v] := Blk.grown (by (repeat' (first | with_reducible exact kg | with_reducible refine Blk.drewX ?_ | with_reducible refine Blk.alloc ?_ _))) hgrow1 (fun e => by have := hnT g e.symm; omega); have hownV1 := own_keepU (show World.ownsRow _ w.heap.size 41 1 (.slice P k f) k (u64s (valsL (l.take k))) by (repeat' (first | with_reducible exact hownVe | with_reducible refine World.ownsRow.alloc ?_ _ | with_reducible refine own_drewS ?_))) hgrow1 (own_twoS (show World.ownsRow _ w.heap.size 41 1 (.slice P k f) k (u64s (valsL (l.take k))) by (repeat' (first | with_reducible exact hownVe | with_reducible refine World.ownsRow.alloc ?_ _ | with_reducible refine own_drewS ?_))) (show World.ownsRow _ w.heap.size 2 1 (.slice O k e) k (i64s (timesL (l.take k))) by (repeat' (first | with_reducible exact hownTe | with_reducible refine World.ownsRow.alloc ?_ _ | with_reducible refine own_drewS ?_))) (by decide)); have hbx := hgrow1; have hbe1 : Below w.heap.size w w1 := Below.trans (by (repeat' (first | with_reducible exact hbe | with_reducible refine below_drewX ?_ | with_reducible refine below_allocS ?_ _))) hbel1)
            | (have hz := hbx; apply step_append1 rfl (.tmp 32) (.tmp 36) 38 rfl elU64s (v := .slice P k f) (n := k) (base := w.heap.size) (xs := u64s (valsL (l.take k))); (case hown => (repeat' (first | with_reducible exact hownV1 | with_reducible refine World.ownsRow.alloc ?_ _ | with_reducible refine own_drewS ?_))); (case hs => rfl); (case hx => rfl); (case hb => (first | ((repeat' (first | with_reducible refine box_drew ?_ | (with_reducible refine box_at ?_; first | rfl | exact hge.symm | (simp [hge]; done)) | with_reducible refine box_under ?_)); done) | ((repeat' (first | with_reducible refine box_drew ?_ | with_reducible refine box_under ?_)); (refine grown_box hbx ?_ ?_); ((repeat' (first | with_reducible refine box_drew ?_ | (with_reducible refine box_at ?_; first | rfl | exact hge.symm | (simp [hge]; done)) | with_reducible refine box_under ?_))); (intro e9; have h9 := hnT _ e9.symm; first | omega | (simp only [hge, drew_size] at h9; omega) | (simp [hge, drew_size] at h9))))); (case hl => rfl); (case h1 => (intro u hu; simp at hu; subst hu; rfl)); (case hmax => exact h16); (case h63 => exact h63); (case hbase => (refine Below.size (B := w.heap.size) ?_; (repeat' (first | with_reducible exact hbe1 | with_reducible refine below_drewX ?_ | with_reducible refine below_allocS ?_ _)))); intro A2 e2 w2 hown2 hgrow2 hbel2; have kg2 : Blk w2 g 40 #[.int .i64 s.t, .int .i64 s.v] := Blk.grown (by (repeat' (first | with_reducible exact kg1 | with_reducible refine Blk.drewX ?_ | with_reducible refine Blk.alloc ?_ _))) hgrow2 (own_row_ne (show Blk _ g 40 #[.int .i64 s.t, .int .i64 s.v] by (repeat' (first | with_reducible exact kg1 | with_reducible refine Blk.drewX ?_ | with_reducible refine Blk.alloc ?_ _))) (show World.ownsRow _ w.heap.size 41 1 (.slice P k f) k (u64s (valsL (l.take k))) by (repeat' (first | with_reducible exact hownV1 | with_reducible refine World.ownsRow.alloc ?_ _ | with_reducible refine own_drewS ?_))) (by decide)); have hownT2 := own_keepU (show World.ownsRow _ w.heap.size 2 1 (.slice A1 (k + 1) e1) (k + 1) (i64s (timesL (l.take k)) ++ (#[Value.int .i64 s.t] : Array Value).toList) by (repeat' (first | with_reducible exact hown1 | with_reducible refine World.ownsRow.alloc ?_ _ | with_reducible refine own_drewS ?_))) hgrow2 (own_twoS (show World.ownsRow _ w.heap.size 2 1 (.slice A1 (k + 1) e1) (k + 1) (i64s (timesL (l.take k)) ++ (#[Value.int .i64 s.t] : Array Value).toList) by (repeat' (first | with_reducible exact hown1 | with_reducible refine World.ownsRow.alloc ?_ _ | with_reducible refine own_drewS ?_))) (show World.ownsRow _ w.heap.size 41 1 (.slice P k f) k (u64s (valsL (l.take k))) by (repeat' (first | with_reducible exact hownV1 | with_reducible refine World.ownsRow.alloc ?_ _ | with_reducible refine own_drewS ?_))) (by decide)); have hbe2 : Below w.heap.size w w2 := Below.trans (by (repeat' (first | with_reducible exact hbe1 | with_reducible refine below_drewX ?_ | with_reducible refine below_allocS ?_ _))) hbel2))
        all_goals
          have hT := Lib.hid hownT2
          have hV := Lib.hid hown2
          go_wp2_with fail
          go_roundw
          case rel => exact ⟨k + 1, A1, A2, e1, e2, by omega, by go_num, rfl, rfl, by rw [st.out]; exact hT.out, by rw [sv.out]; exact hV.out, hbe2⟩
          case measure => simp [intOf]; omega
      · obtain rfl : k = n := by omega
        have eT : l.take k = l := by rw [← Hn.out, List.take_length]
        rw [eT] at hownT hownV
        have hlT : (timesL l).length = k := by rw [timesL, List.length_map]; exact Hn.out
        have hlV : (valsL l).length = k := by rw [valsL, List.length_map]; exact Hn.out
        have HPT := Lib.hid (dpack_any O e (timesL l) (by rw [hlT]; unfold maxLen; omega) (times_in HI.out) wr (Has.of_own hownT) (HT.out.below (by omega) hbr) (by omega))
        have HPV := Lib.hid (fun (w' : World) (hb : Below wr.heap.size wr w') => xpack_any P f (valsL l) (by rw [hlV]; unfold maxLen; omega) (vals_in l) w' ((Has.of_own hownV).next hb) (HD.out.below hw0 (hbr.trans (hb.mono hbs))) (by have := hb.size; omega))
        have ePT : packN (timesL l) = ((packB (packT (timesL l)), ((packT (timesL l)).length : Int)), 0) := by unfold packN; rw [if_neg (by rw [hlT]; omega)]
        have ePV : packXN (valsL l) = ((packB (packX (valsL l)), ((packX (valsL l)).length : Int)), 0) := by unfold packXN; rw [if_neg (by rw [hlV]; omega)]
        have hT7 := packT_le (l := timesL l) (by omega)
        have hV7 := packX_le2 (l := valsL l) (by omega)
        rw [hlT, ePT] at HPT
        rw [hlV, ePV] at HPV
        have HSl := Lib.hid (show sealB l = partB (packT (timesL l)) ++ partB (packX (valsL l)) from rfl)
        obtain ⟨bT, hbT⟩ : ∃ bT, packT (timesL l) = bT := ⟨_, rfl⟩
        obtain ⟨bV, hbV⟩ : ∃ bV, packX (valsL l) = bV := ⟨_, rfl⟩
        rw [hbT] at HPT HSl hT7
        rw [hbV] at HPV HSl hV7
        have hq1 := packB_len bT
        have hq2 := packB_len bV
        obtain ⟨N1, hN1⟩ : ∃ N1, bT.length = N1 := ⟨_, rfl⟩
        obtain ⟨N2, hN2⟩ : ∃ N2, bV.length = N2 := ⟨_, rfl⟩
        obtain ⟨q1, hq1'⟩ : ∃ q1, (packB bT).length = q1 := ⟨_, rfl⟩
        obtain ⟨q2, hq2'⟩ : ∃ q2, (packB bV).length = q2 := ⟨_, rfl⟩
        rw [hN1, hq1'] at hq1
        rw [hN2, hq2'] at hq2
        have hq1b : q1 ≤ 8751 := by rw [← hN1] at hq1; omega
        have hq2b : q2 ≤ 9876 := by rw [← hN2] at hq2; omega
        clear hq1 hq2
        rw [hN1] at HPT hT7
        rw [hN2] at HPV hV7
        have HN1 := Lib.hid hN1
        have HN2 := Lib.hid hN2
        have Hq1 := Lib.hid hq1'
        have Hq2 := Lib.hid hq2'
        clear eT hownT hownV hlT hlV ePT ePV hbT hbV hN1 hN2 hq1' hq2' hlt
        go_wp2_with fail
        refine HPT.out.mono ?_
        rintro e9 w2 ⟨v, rfl, A1, c1, rfl, hownB1, hb2⟩
        simp only [] at hownB1
        rw [Hq1.out] at hownB1
        have hb3' : Below w2.heap.size w2 (w2.alloc (.cells #[.slice A1 q1 c1, .int .i64 (N1 : Nat)] 43)) := (Below.refl _ _).alloc (Nat.le_refl _) _
        have hk3 : Blk (w2.alloc (.cells #[.slice A1 q1 c1, .int .i64 (N1 : Nat)] 43)) w2.heap.size 43 #[.slice A1 q1 c1, .int .i64 (N1 : Nat)] := Blk.new _ _ _
        have hb03 := bnext hb2 hb3'
        have HB1 := Lib.hid ((Has.of_own hownB1).next hb3')
        have HPV3 := Lib.hid (HPV.out _ hb03)
        simp only [Hq1.out]
        go_wp2_with fail
        obtain ⟨W3, hW3⟩ : ∃ W3, w2.alloc (.cells #[.slice A1 q1 c1, .int .i64 (N1 : Nat)] 43) = W3 := ⟨_, rfl⟩
        obtain ⟨g1, hg1⟩ : ∃ g1, w2.heap.size = g1 := ⟨_, rfl⟩
        rw [hW3] at hk3 hb03 HB1 HPV3 ⊢
        rw [hg1] at hk3 ⊢
        clear hW3 hg1 hb3' hownB1 HPV HPT
        refine HPV3.out.mono ?_
        rintro e9 w4 ⟨v, rfl, A2, c2, rfl, hownB2, hb4⟩
        simp only [] at hownB2
        rw [Hq2.out] at hownB2
        have hb5' : Below w4.heap.size w4 (w4.alloc (.cells #[.slice A2 q2 c2, .int .i64 (N2 : Nat)] 43)) := (Below.refl _ _).alloc (Nat.le_refl _) _
        have hk5 : Blk (w4.alloc (.cells #[.slice A2 q2 c2, .int .i64 (N2 : Nat)] 43)) w4.heap.size 43 #[.slice A2 q2 c2, .int .i64 (N2 : Nat)] := Blk.new _ _ _
        have hk5a := (hk3.next hb4).next hb5'
        have hb05 := bnext hb03 (bnext hb4 hb5')
        have HB2 := Lib.hid ((Has.of_own hownB2).next hb5')
        have HB1 := Lib.hid ((HB1.out.next hb4).next hb5')
        simp only [Hq2.out]
        clear hk3 hb03 hb4 hb5' hownB2 HPV3
        go_upto_region 14 with fail
        obtain ⟨W5, hW5⟩ : ∃ W5, w4.alloc (.cells #[.slice A2 q2 c2, .int .i64 (N2 : Nat)] 43) = W5 := ⟨_, rfl⟩
        obtain ⟨g2, hg2⟩ : ∃ g2, w4.heap.size = g2 := ⟨_, rfl⟩
        rw [hW5] at hk5 hk5a hb05 HB1 HB2 ⊢
        rw [hg2] at hk5 ⊢
        clear hW5 hg2
        have x0 : W5.cell? ⟨g1, 0, none⟩ = some (.slice A1 q1 c1) := hk5a.cell 0
        have x1 : W5.cell? ⟨g1, 1, none⟩ = some (.int .i64 (N1 : Nat)) := hk5a.cell 1
        have x2 : W5.cell? ⟨g2, 0, none⟩ = some (.slice A2 q2 c2) := hk5.cell 0
        have x3 : W5.cell? ⟨g2, 1, none⟩ = some (.int .i64 (N2 : Nat)) := hk5.cell 1
        have hb9' : Below W5.heap.size W5 (W5.alloc (.cells #[.slice A1 q1 c1, .int .i64 (N1 : Nat), .slice A2 q2 c2, .int .i64 (N2 : Nat)] 43)) := (Below.refl _ _).alloc (Nat.le_refl _) _
        have kS : Blk (W5.alloc (.cells #[.slice A1 q1 c1, .int .i64 (N1 : Nat), .slice A2 q2 c2, .int .i64 (N2 : Nat)] 43)) W5.heap.size 43 #[.slice A1 q1 c1, .int .i64 (N1 : Nat), .slice A2 q2 c2, .int .i64 (N2 : Nat)] := Blk.new _ _ _
        have HT9 := Lib.hid (HB1.out.next hb9')
        have HV9 := Lib.hid (HB2.out.next hb9')
        have hb09 := bnext hb05 hb9'
        go_wp2_with fail
        obtain ⟨W9, hW9⟩ : ∃ W9, W5.alloc (.cells #[.slice A1 q1 c1, .int .i64 (N1 : Nat), .slice A2 q2 c2, .int .i64 (N2 : Nat)] 43) = W9 := ⟨_, rfl⟩
        obtain ⟨gS, hgS⟩ : ∃ gS, W5.heap.size = gS := ⟨_, rfl⟩
        rw [hW9] at kS HT9 HV9 hb09 ⊢
        rw [hgS] at kS ⊢
        clear hW9 hgS hb9' hk5 hk5a x0 x1 x2 x3 HB1 HB2 hb05
        go_loopw [13, 53] (fun ov iv wr => ∃ (j q : Nat) (A : Option Addr) (c : Nat) (L : List Nat), j ≤ 2 ∧ q ≤ 10000 * j ∧ iv = .int .i64 (j : Nat) ∧ ov = .slice A q c ∧ Hid (L.length = q ∧ L = (if j = 0 then [] else if j = 1 then partB bT else partB bT ++ partB bV)) ∧ Hid (wr.ownsRow W9.heap.size 5 1 (.slice A q c) q (u8s L)) ∧ Below W9.heap.size W9 wr) (fun _ iv _ => 5 - (intOf iv).toNat)
        case atStart => exact ⟨0, 0, none, 0, [], by omega, by omega, rfl, rfl, Lib.hid ⟨rfl, rfl⟩, Lib.hid ⟨rfl, .inl ⟨rfl, rfl⟩⟩, Below.refl _ _⟩
        case round =>
          obtain ⟨j, q, A, c, L, hj, hq20, rfl, rfl, hL, hown, hbr2⟩ := hrel
          rcases (show j = 0 ∨ j = 1 ∨ j = 2 by omega) with rfl | rfl | rfl
          · have hG := kS.next hbr2
            have u0 : wr.cell? ⟨gS, 0, none⟩ = some (.slice A1 q1 c1) := hG.cell 0
            have u1 : wr.cell? ⟨gS, 1, none⟩ = some (.int .i64 (N1 : Nat)) := hG.cell 1
            have hbs2 := hbr2.size
            have kg : Blk (wr.alloc (.cells #[.slice A1 q1 c1, .int .i64 (N1 : Nat)] 43)) wr.heap.size 43 #[.slice A1 q1 c1, .int .i64 (N1 : Nat)] := Blk.new _ _ _
            have hownE := hown.out.alloc (.cells #[.slice A1 q1 c1, .int .i64 (N1 : Nat)] 43)
            have hbe := hbr2.alloc hbs2 (.cells #[.slice A1 q1 c1, .int .i64 (N1 : Nat)] 43)
            go_wp2_with fail
            obtain ⟨g, hg⟩ : ∃ g, wr.heap.size = g := ⟨_, rfl⟩
            obtain ⟨we, hwe⟩ : ∃ we, wr.alloc (.cells #[.slice A1 q1 c1, .int .i64 (N1 : Nat)] 43) = we := ⟨_, rfl⟩
            rw [hwe] at kg hownE hbe
            rw [hwe]
            rw [hg] at kg ⊢
            clear hwe hg hG u0 u1 hbs2
            have y0 : we.cell? ⟨g, 0, none⟩ = some (.slice A1 q1 c1) := kg.cell 0
            have y1 : we.cell? ⟨g, 1, none⟩ = some (.int .i64 (N1 : Nat)) := kg.cell 1
            have eN : IntKind.u64.wrap ((N1 : Nat) : Int) = ((N1 : Nat) : Int) := by rw [IntKind.wrap_u64]; omega
            obtain ⟨pl, hpl⟩ : ∃ pl, (putL N1).length = pl := ⟨_, rfl⟩
            have hpl10 : pl ≤ 10 := by rw [← hpl]; exact putL_len10 (by omega)
            have HPl := Lib.hid hpl
            have m1 : (q + pl) * 1 ≤ 140737488355328 := by omega
            have m2 : q + pl ≤ maxLen := by unfold maxLen; omega
            have m3 : (q + pl + q1) * 1 ≤ 140737488355328 := by omega
            have m4 : q + pl + q1 ≤ maxLen := by unfold maxLen; omega
            clear hpl
            go_region_held_law (fun w' => w'.cell? ⟨g, 0, none⟩ = some (.slice A1 q1 c1) ∧ w'.cell? ⟨g, 1, none⟩ = some (.int .i64 (N1 : Nat)))
              (first | (refine keepS2 (t := 43) ?_; (repeat' (first | with_reducible exact kg6 | with_reducible exact kg5 | with_reducible exact kgO | with_reducible exact kg | with_reducible refine Blk.drewX ?_)); done) | (trace_state; fail))
              (first
                | (have hz := hgrow5
                   apply step_spread rfl (.tmp 62) (.tmp 64) 24 rfl elU8 (v := .slice A5 (q + pl) c5) (n := q + pl) (base := W9.heap.size) (xs := u8s L ++ u8s (putL N1)) (A := A1) (m := q1) (c := c1); (case hown => ((repeat' (first | with_reducible exact hown5 | with_reducible exact hownO | with_reducible exact hownE | with_reducible refine own_drewS ?_)); done)); (case hs => rfl); (case hx => rfl); (case hr => exact (HT9.out.next (by (repeat' (first | with_reducible exact hbe5 | with_reducible exact hbeO | with_reducible exact hbe | with_reducible refine below_drewX ?_)); done))); (case hl => exact (by rw [u8s_len, Hq1.out, Nat.mul_one])); (case h1 => exact u8s_one _); (case hmax => exact m3); (case h63 => exact m4); (case hbase => (refine Below.size (B := W9.heap.size) (w := W9) ?_; (repeat' (first | with_reducible exact hbe5 | with_reducible exact hbeO | with_reducible exact hbe | with_reducible refine below_drewX ?_)); done))
                   intro A6 c6 w6 hown6 hgrow6 hbel6
                   have kg6 : Blk w6 g 43 #[.slice A1 q1 c1, .int .i64 (N1 : Nat)] := Blk.grown (by (repeat' (first | with_reducible exact kg6 | with_reducible exact kg5 | with_reducible exact kgO | with_reducible exact kg | with_reducible refine Blk.drewX ?_)); done) hgrow6 (own_row_ne (show Blk _ g 43 #[.slice A1 q1 c1, .int .i64 (N1 : Nat)] by (repeat' (first | with_reducible exact kg6 | with_reducible exact kg5 | with_reducible exact kgO | with_reducible exact kg | with_reducible refine Blk.drewX ?_)); done) (show World.ownsRow _ W9.heap.size 5 1 (.slice A5 (q + pl) c5) (q + pl) (u8s L ++ u8s (putL N1)) by (repeat' (first | with_reducible exact hown5 | with_reducible exact hownO | with_reducible exact hownE | with_reducible refine own_drewS ?_)); done) (by decide))
                   have hbe6 : Below W9.heap.size W9 w6 := Below.trans (by (repeat' (first | with_reducible exact hbe5 | with_reducible exact hbeO | with_reducible exact hbe | with_reducible refine below_drewX ?_)); done) hbel6)
                | (have hz := hownO
                   apply step_spread rfl (.tmp 57) (.tmp 61) 24 rfl elU8 (v := .slice A q c) (n := q) (base := W9.heap.size) (xs := u8s L) (A := A4) (m := pl) (c := c4); (case hown => ((repeat' (first | with_reducible exact hown5 | with_reducible exact hownO | with_reducible exact hownE | with_reducible refine own_drewS ?_)); done)); (case hs => rfl); (case hx => rfl); (case hr => exact (Has.of_own (base := bP) (e := 5) (size := 1) (n := pl) (xs := u8s (putL N1)) (by (repeat' (first | with_reducible exact hown4 | with_reducible refine own_drewS ?_)); done))); (case hl => exact (by rw [u8s_len, HPl.out, Nat.mul_one])); (case h1 => exact u8s_one _); (case hmax => exact m1); (case h63 => exact m2); (case hbase => (refine Below.size (B := W9.heap.size) (w := W9) ?_; (repeat' (first | with_reducible exact hbe5 | with_reducible exact hbeO | with_reducible exact hbe | with_reducible refine below_drewX ?_)); done))
                   intro A5 c5 w5 hown5 hgrow5 hbel5
                   have kg5 : Blk w5 g 43 #[.slice A1 q1 c1, .int .i64 (N1 : Nat)] := Blk.grown (by (repeat' (first | with_reducible exact kg6 | with_reducible exact kg5 | with_reducible exact kgO | with_reducible exact kg | with_reducible refine Blk.drewX ?_)); done) hgrow5 (own_row_ne (show Blk _ g 43 #[.slice A1 q1 c1, .int .i64 (N1 : Nat)] by (repeat' (first | with_reducible exact kg6 | with_reducible exact kg5 | with_reducible exact kgO | with_reducible exact kg | with_reducible refine Blk.drewX ?_)); done) (show World.ownsRow _ W9.heap.size 5 1 (.slice A q c) q (u8s L) by (repeat' (first | with_reducible exact hown5 | with_reducible exact hownO | with_reducible exact hownE | with_reducible refine own_drewS ?_)); done) (by decide))
                   have hbe5 : Below W9.heap.size W9 w5 := Below.trans (by (repeat' (first | with_reducible exact hbe5 | with_reducible exact hbeO | with_reducible exact hbe | with_reducible refine below_drewX ?_)); done) hbel5)
                | (go_at_call 15
                   refine (put_any N1 (by omega) _).mono ?_
                   rintro e9 w4 ⟨v, rfl, A4, c4, rfl, hown4, hb4⟩
                   rw [HPl.out] at hown4 ⊢
                   obtain ⟨bP, hown4⟩ : ∃ bP, w4.ownsRow bP 5 1 (.slice A4 pl c4) pl (u8s (putL N1)) := ⟨_, hown4⟩
                   have hownO : w4.ownsRow W9.heap.size 5 1 (.slice A q c) q (u8s L) := own_next (by (repeat' (first | with_reducible exact hown5 | with_reducible exact hownO | with_reducible exact hownE | with_reducible refine own_drewS ?_)); done) hb4
                   have kgO : Blk w4 g 43 #[.slice A1 q1 c1, .int .i64 (N1 : Nat)] := Blk.next (by (repeat' (first | with_reducible exact kg6 | with_reducible exact kg5 | with_reducible exact kgO | with_reducible exact kg | with_reducible refine Blk.drewX ?_)); done) hb4
                   have hbeO : Below W9.heap.size W9 w4 := bnext (by (repeat' (first | with_reducible exact hbe5 | with_reducible exact hbeO | with_reducible exact hbe | with_reducible refine below_drewX ?_)); done) hb4))
            all_goals
              have HO6 := Lib.hid hown6
              have HB6 := Lib.hid hbe6
              go_wp2_with fail
              go_roundw
              case rel =>
                refine ⟨1, q + pl + q1, A6, c6, L ++ partB bT, by omega, by omega, by go_num, rfl, Lib.hid ⟨?_, ?_⟩, Lib.hid ?_, HB6.out⟩
                · unfold partB; rw [List.length_append, List.length_append, hL.out.1, HN1.out, HPl.out, Hq1.out]; omega
                · rw [hL.out.2]; rfl
                · unfold partB; rw [HN1.out, u8s_app, u8s_app, ← List.append_assoc]; exact HO6.out
              case measure => simp [intOf]
          · have hG := kS.next hbr2
            have u0 : wr.cell? ⟨gS, 2, none⟩ = some (.slice A2 q2 c2) := hG.cell 2
            have u1 : wr.cell? ⟨gS, 3, none⟩ = some (.int .i64 (N2 : Nat)) := hG.cell 3
            have hbs2 := hbr2.size
            have kg : Blk (wr.alloc (.cells #[.slice A2 q2 c2, .int .i64 (N2 : Nat)] 43)) wr.heap.size 43 #[.slice A2 q2 c2, .int .i64 (N2 : Nat)] := Blk.new _ _ _
            have hownE := hown.out.alloc (.cells #[.slice A2 q2 c2, .int .i64 (N2 : Nat)] 43)
            have hbe := hbr2.alloc hbs2 (.cells #[.slice A2 q2 c2, .int .i64 (N2 : Nat)] 43)
            go_wp2_with fail
            obtain ⟨g, hg⟩ : ∃ g, wr.heap.size = g := ⟨_, rfl⟩
            obtain ⟨we, hwe⟩ : ∃ we, wr.alloc (.cells #[.slice A2 q2 c2, .int .i64 (N2 : Nat)] 43) = we := ⟨_, rfl⟩
            rw [hwe] at kg hownE hbe
            rw [hwe]
            rw [hg] at kg ⊢
            clear hwe hg hG u0 u1 hbs2
            have y0 : we.cell? ⟨g, 0, none⟩ = some (.slice A2 q2 c2) := kg.cell 0
            have y1 : we.cell? ⟨g, 1, none⟩ = some (.int .i64 (N2 : Nat)) := kg.cell 1
            have eN : IntKind.u64.wrap ((N2 : Nat) : Int) = ((N2 : Nat) : Int) := by rw [IntKind.wrap_u64]; omega
            obtain ⟨pl, hpl⟩ : ∃ pl, (putL N2).length = pl := ⟨_, rfl⟩
            have hpl10 : pl ≤ 10 := by rw [← hpl]; exact putL_len10 (by omega)
            have HPl := Lib.hid hpl
            have m1 : (q + pl) * 1 ≤ 140737488355328 := by omega
            have m2 : q + pl ≤ maxLen := by unfold maxLen; omega
            have m3 : (q + pl + q2) * 1 ≤ 140737488355328 := by omega
            have m4 : q + pl + q2 ≤ maxLen := by unfold maxLen; omega
            clear hpl
            go_region_held_law (fun w' => w'.cell? ⟨g, 0, none⟩ = some (.slice A2 q2 c2) ∧ w'.cell? ⟨g, 1, none⟩ = some (.int .i64 (N2 : Nat)))
              (first | (refine keepS2 (t := 43) ?_; (repeat' (first | with_reducible exact kg6 | with_reducible exact kg5 | with_reducible exact kgO | with_reducible exact kg | with_reducible refine Blk.drewX ?_)); done) | (trace_state; fail))
              (first
                | (have hz := hgrow5
                   apply step_spread rfl (.tmp 62) (.tmp 64) 24 rfl elU8 (v := .slice A5 (q + pl) c5) (n := q + pl) (base := W9.heap.size) (xs := u8s L ++ u8s (putL N2)) (A := A2) (m := q2) (c := c2); (case hown => ((repeat' (first | with_reducible exact hown5 | with_reducible exact hownO | with_reducible exact hownE | with_reducible refine own_drewS ?_)); done)); (case hs => rfl); (case hx => rfl); (case hr => exact (HV9.out.next (by (repeat' (first | with_reducible exact hbe5 | with_reducible exact hbeO | with_reducible exact hbe | with_reducible refine below_drewX ?_)); done))); (case hl => exact (by rw [u8s_len, Hq2.out, Nat.mul_one])); (case h1 => exact u8s_one _); (case hmax => exact m3); (case h63 => exact m4); (case hbase => (refine Below.size (B := W9.heap.size) (w := W9) ?_; (repeat' (first | with_reducible exact hbe5 | with_reducible exact hbeO | with_reducible exact hbe | with_reducible refine below_drewX ?_)); done))
                   intro A6 c6 w6 hown6 hgrow6 hbel6
                   have kg6 : Blk w6 g 43 #[.slice A2 q2 c2, .int .i64 (N2 : Nat)] := Blk.grown (by (repeat' (first | with_reducible exact kg6 | with_reducible exact kg5 | with_reducible exact kgO | with_reducible exact kg | with_reducible refine Blk.drewX ?_)); done) hgrow6 (own_row_ne (show Blk _ g 43 #[.slice A2 q2 c2, .int .i64 (N2 : Nat)] by (repeat' (first | with_reducible exact kg6 | with_reducible exact kg5 | with_reducible exact kgO | with_reducible exact kg | with_reducible refine Blk.drewX ?_)); done) (show World.ownsRow _ W9.heap.size 5 1 (.slice A5 (q + pl) c5) (q + pl) (u8s L ++ u8s (putL N2)) by (repeat' (first | with_reducible exact hown5 | with_reducible exact hownO | with_reducible exact hownE | with_reducible refine own_drewS ?_)); done) (by decide))
                   have hbe6 : Below W9.heap.size W9 w6 := Below.trans (by (repeat' (first | with_reducible exact hbe5 | with_reducible exact hbeO | with_reducible exact hbe | with_reducible refine below_drewX ?_)); done) hbel6)
                | (have hz := hownO
                   apply step_spread rfl (.tmp 57) (.tmp 61) 24 rfl elU8 (v := .slice A q c) (n := q) (base := W9.heap.size) (xs := u8s L) (A := A4) (m := pl) (c := c4); (case hown => ((repeat' (first | with_reducible exact hown5 | with_reducible exact hownO | with_reducible exact hownE | with_reducible refine own_drewS ?_)); done)); (case hs => rfl); (case hx => rfl); (case hr => exact (Has.of_own (base := bP) (e := 5) (size := 1) (n := pl) (xs := u8s (putL N2)) (by (repeat' (first | with_reducible exact hown4 | with_reducible refine own_drewS ?_)); done))); (case hl => exact (by rw [u8s_len, HPl.out, Nat.mul_one])); (case h1 => exact u8s_one _); (case hmax => exact m1); (case h63 => exact m2); (case hbase => (refine Below.size (B := W9.heap.size) (w := W9) ?_; (repeat' (first | with_reducible exact hbe5 | with_reducible exact hbeO | with_reducible exact hbe | with_reducible refine below_drewX ?_)); done))
                   intro A5 c5 w5 hown5 hgrow5 hbel5
                   have kg5 : Blk w5 g 43 #[.slice A2 q2 c2, .int .i64 (N2 : Nat)] := Blk.grown (by (repeat' (first | with_reducible exact kg6 | with_reducible exact kg5 | with_reducible exact kgO | with_reducible exact kg | with_reducible refine Blk.drewX ?_)); done) hgrow5 (own_row_ne (show Blk _ g 43 #[.slice A2 q2 c2, .int .i64 (N2 : Nat)] by (repeat' (first | with_reducible exact kg6 | with_reducible exact kg5 | with_reducible exact kgO | with_reducible exact kg | with_reducible refine Blk.drewX ?_)); done) (show World.ownsRow _ W9.heap.size 5 1 (.slice A q c) q (u8s L) by (repeat' (first | with_reducible exact hown5 | with_reducible exact hownO | with_reducible exact hownE | with_reducible refine own_drewS ?_)); done) (by decide))
                   have hbe5 : Below W9.heap.size W9 w5 := Below.trans (by (repeat' (first | with_reducible exact hbe5 | with_reducible exact hbeO | with_reducible exact hbe | with_reducible refine below_drewX ?_)); done) hbel5)
                | (go_at_call 15
                   refine (put_any N2 (by omega) _).mono ?_
                   rintro e9 w4 ⟨v, rfl, A4, c4, rfl, hown4, hb4⟩
                   rw [HPl.out] at hown4 ⊢
                   obtain ⟨bP, hown4⟩ : ∃ bP, w4.ownsRow bP 5 1 (.slice A4 pl c4) pl (u8s (putL N2)) := ⟨_, hown4⟩
                   have hownO : w4.ownsRow W9.heap.size 5 1 (.slice A q c) q (u8s L) := own_next (by (repeat' (first | with_reducible exact hown5 | with_reducible exact hownO | with_reducible exact hownE | with_reducible refine own_drewS ?_)); done) hb4
                   have kgO : Blk w4 g 43 #[.slice A2 q2 c2, .int .i64 (N2 : Nat)] := Blk.next (by (repeat' (first | with_reducible exact kg6 | with_reducible exact kg5 | with_reducible exact kgO | with_reducible exact kg | with_reducible refine Blk.drewX ?_)); done) hb4
                   have hbeO : Below W9.heap.size W9 w4 := bnext (by (repeat' (first | with_reducible exact hbe5 | with_reducible exact hbeO | with_reducible exact hbe | with_reducible refine below_drewX ?_)); done) hb4))
            all_goals
              have HO6 := Lib.hid hown6
              have HB6 := Lib.hid hbe6
              go_wp2_with fail
              go_roundw
              case rel =>
                refine ⟨2, q + pl + q2, A6, c6, L ++ partB bV, by omega, by omega, by go_num, rfl, Lib.hid ⟨?_, ?_⟩, Lib.hid ?_, HB6.out⟩
                · unfold partB; rw [List.length_append, List.length_append, hL.out.1, HN2.out, HPl.out, Hq2.out]; omega
                · rw [hL.out.2]; rfl
                · unfold partB; rw [HN2.out, u8s_app, u8s_app, ← List.append_assoc]; exact HO6.out
              case measure => simp [intOf]
          · have hL2 := hL.out.2
            rw [if_neg (by omega), if_neg (by omega), ← HSl.out] at hL2
            have HL2 := Lib.hid hL2
            clear hL2
            have hlen := hL.out.1
            rw [HL2.out] at hlen
            have Hlen := Lib.hid hlen
            clear hlen
            go_wp2_with fail
            go_ret2
            rw [HR.out]
            refine RV.mk ⟨A, c, by show Value.tuple #[.slice A q c, .int .i64 0] = Value.tuple #[.slice A (sealB l).length c, .int .i64 0]; rw [Hlen.out], ?_, ?_⟩
            · rw [Hlen.out]
              have h9 := hown.out
              rw [HL2.out] at h9
              exact own_less h9 (Nat.le_trans hbs hb09.size)
            · exact hbr.trans ((bnext hb09 hbr2).mono hbs)
  · have HR := Lib.hid (show r = ([], z) by rw [← hr]; unfold sealN; rw [if_pos (by rw [hz]; exact hz0), hz])
    have f1 : (z != 0) = true := by rw [bne_iff_ne]; exact hz0
    have Hck := Lib.hid hck
    clear hr hz hck
    go_enter Tryd.func6, Tryd.ntmps6
    go_wp2_with fail
    refine (Hck.out).mono ?_
    rintro e w1 ⟨rfl, n1, rfl⟩
    go_wp2_with fail
    go_ret2
    rw [HR.out]
    exact RV.mk ⟨none, 0, rfl, ⟨rfl, .inl ⟨rfl, rfl⟩⟩, below_drewN (Below.refl _ _) _⟩
end Go.Proofs.YtmbpgenjjgepiaaDoor
