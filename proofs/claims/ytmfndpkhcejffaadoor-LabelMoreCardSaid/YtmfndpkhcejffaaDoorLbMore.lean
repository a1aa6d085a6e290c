/- LabelMore: who asks for more is not fitted by more. Conditions: what comes in lies in its cells. -/
import Derived.Test.YtmfndpkhcejffaaDoorLbNot
import Derived.Deep.RegionHeldLaw
namespace Go.Proofs.YtmfndpkhcejffaaDoor
open Go.RowKit

theorem elMt : Elem Tryd.prog 29 24 3 40 := Elem.mk' (z := .agg #[.int .i64 0, .string ⟨#[]⟩, .string ⟨#[]⟩]) Tryd.underlying29 (by kernel_rfl) rfl (by decide)
theorem mtCs_one (l : List Mt) : ∀ u ∈ mtCs l, u.oneCell' = true := by
  intro u hu
  obtain ⟨x, _, h⟩ := List.mem_flatMap.1 hu
  simp [mtC] at h
  rcases h with rfl | rfl | rfl <;> rfl
theorem mtCs_app1 (l : List Mt) (x : Mt) : mtCs (l ++ [x]) = mtCs l ++ (#[.int .i64 x.k, .string x.nm, .string x.v] : Array Value).toList := by simp [mtCs, mtC]
set_option maxRecDepth 1000000 in
set_option maxHeartbeats 400000 in
theorem cloneM_any (A : Option Addr) (n c : Nat) (l : List Mt) (hl : l.length = n) (hA : A = none → n = 0 ∧ c = 0) (hmax : n * 40 ≤ 140737488355328) (w : World) (h : Has w w.heap.size A (mtCs l)) :
    Calls Tryd.prog 10 #[.slice A n c] w (RV fun v w' => ∃ A' c', v = .slice A' n c' ∧ w'.ownsRow w.heap.size 24 3 (.slice A' n c') n (mtCs l) ∧ Below w.heap.size w w') := by
  have hq := fun (w : World) (a : Option Addr) (n c n' c' : Nat) => Lib.run_eql_slice_nil (P := Tryd.prog) w 29 24 a n c n' c' Tryd.underlying29
  cases A with
  | none =>
    obtain ⟨rfl, rfl⟩ := hA rfl
    obtain rfl : l = [] := List.length_eq_zero_iff.1 hl
    go_enter Tryd.func10, Tryd.ntmps10
    go_wp2
    go_ret
    exact RV.mk ⟨none, 0, rfl, ⟨rfl, .inl ⟨rfl, rfl⟩⟩, Below.refl _ _⟩
  | some ad =>
    have Hl := Lib.hid hl; clear hl
    go_enter Tryd.func10, Tryd.ntmps10
    go_wp2_with (at_builtin; refine wpList_spread rfl _ _ _ rfl elMt rfl (World.ownsRow_made (base := w.heap.size) w #[] 0 (Nat.le_refl _) (Nat.zero_le _) rfl) rfl ((h.keep fun p hp => World.cell?_alloc_lt w _ p hp)) ?_ ?c1 ?c2 ?c3 ?c4 ?c5; intro A' c' w1 hown hgrow hbel)
    case c1 => rw [mtCs_len, Hl.out]
    case c2 => exact mtCs_one l
    case c3 => omega
    case c4 => unfold maxLen; omega
    case c5 => simp
    go_ret
    rw [Nat.zero_add, List.nil_append] at hown
    exact RV.mk ⟨A', c', rfl, hown, ((Below.refl _ _).alloc (Nat.le_refl _) _).trans hbel⟩

theorem Blk.drewM {w : World} {g : Nat} {t : TypeId} {cs : Array Value} (h : Blk w g t cs) : Blk w.drew g t cs := h
theorem Blk.newM (w : World) (t : TypeId) (cs : Array Value) (g : Nat) (h : w.heap.size = g) : Blk (w.alloc (.cells cs t)) g t cs := by subst h; exact Blk.new _ _ _
theorem below_drewM {B : Nat} {a w : World} (h : Below B a w) : Below B a w.drew := below_drewN h 1
theorem below_allocM {a w : World} {o : Obj} (h : Below a.heap.size a w) : Below a.heap.size a (w.alloc o) := h.alloc h.size o
theorem has_allocM {w : World} {A : Option Addr} {xs : List Value} {o : Obj} (h : Has w w.heap.size A xs) : Has (w.alloc o) (w.alloc o).heap.size A xs := h.next (one_allocL w o)
theorem has_drewM {w : World} {A : Option Addr} {xs : List Value} (h : Has w w.heap.size A xs) : Has w.drew w.drew.heap.size A xs := h
theorem own_drewM {w : World} {base size n : Nat} {e : TypeId} {v : Value} {xs : List Value} (h : w.ownsRow base e size v n xs) : w.drew.ownsRow base e size v n xs := own_drewN h 1
theorem keepM3 {W : World} {g : Nat} {t : TypeId} {x0 x1 x2 : Value} (h : Blk W g t #[x0, x1, x2]) : W.cell? ⟨g, 0, none⟩ = some x0 ∧ W.cell? ⟨g, 1, none⟩ = some x1 ∧ W.cell? ⟨g, 2, none⟩ = some x2 := ⟨h.cell 0, h.cell 1, h.cell 2⟩

theorem fitsE_more (L : List Lab) (M : List Mt) (x : Mt) (h : fitsE L (M ++ [x]) = 0) : fitsE L M = 0 ∧ fitsE L [x] = 0 ∧ fitsL L (M ++ [x]) = (fitsL L M && fitsL L [x]) := by
  obtain ⟨h1, h2, h3⟩ := fitsL_ok h
  obtain ⟨g1, g2⟩ := chkM_iff.1 h3
  have k1 : chkM M = 0 := chkM_iff.2 ⟨by rw [List.length_append] at g1; omega, fun y hy => g2 y (List.mem_append_left _ hy)⟩
  have k2 : chkM [x] = 0 := by rw [chkM1]; exact g2 x (by simp)
  have e1 : fitsE L M = 0 := by unfold fitsE; rw [if_neg (fun g => g h2)]; exact k1
  have e2 : fitsE L [x] = 0 := by unfold fitsE; rw [if_neg (fun g => g h2)]; exact k2
  exact ⟨e1, e2, by rw [h1, (fitsL_ok e1).1, (fitsL_ok e2).1, List.all_append]⟩

set_option maxRecDepth 1000000 in
set_option maxHeartbeats 8000000 in
theorem labelMore_any (w : World) (A : Option Addr) (c : Nat) (L : List Lab) (hL : ∀ e ∈ L, LabOk e) (hnc : L.length ≤ c) (hcm : c ≤ maxLen) (_hA : A = none → c = 0) (h : Has w w.heap.size A (labCs L)) (_hr : L.length * 32 ≤ 140737488351232)
    (B : Option Addr) (d : Nat) (M : List Mt) (hM : ∀ e ∈ M, MtOk e) (hmd : M.length ≤ d) (hdm : d ≤ maxLen) (hB : B = none → d = 0) (h' : Has w w.heap.size B (mtCs M)) (hr' : M.length * 40 ≤ 140737488351232) (x : Mt) (hx : MtOk x) (hlen : LenAt w) :
    Calls Tryd.prog 5 #[.slice A L.length c, .slice B M.length d, .agg #[.int .i64 x.k, .string x.nm, .string x.v]] w (R1 (.bool true) (Below w.heap.size w)) := by
  obtain ⟨n, hn⟩ : ∃ n, L.length = n := ⟨_, rfl⟩
  obtain ⟨m, hm⟩ : ∃ m, M.length = m := ⟨_, rfl⟩
  have hc : n ≤ maxLen := by omega
  have hc2 : m ≤ maxLen := by omega
  rw [hn, hm]
  rw [hm] at hr' hmd
  have h2 := fun (w' : World) (hb : Below w.heap.size w w') => lfits_any A B n m c d L M hn hm hc hc2 w' (hlen.next hb) (h.next hb) (h'.next hb) hL hM
  have h1 := lfits1 A n c L hn hc hL w hlen h x hx
  have hMx : ∀ e ∈ M ++ [x], MtOk e := fun e he => by
    rcases List.mem_append.1 he with he | he
    · exact hM e he
    · rw [List.mem_singleton.1 he]; exact hx
  have h3 := fun (A5 : Option Addr) (c5 : Nat) (w' : World) (hb : Below w.heap.size w w') (hh : Has w' w'.heap.size A5 (mtCs (M ++ [x]))) => lfits_any A A5 n (m + 1) c c5 L (M ++ [x]) hn (by rw [List.length_append, hm]; rfl) hc (by unfold maxLen; omega) w' (hlen.next hb) (h.next hb) hh hL hMx
  have HCl := Lib.hid (fun (w' : World) (hh : Has w' w'.heap.size B (mtCs M)) => cloneM_any B m d M hm (fun e => by have := hB e; omega) (by omega) w' hh)
  have hmore := fitsE_more L M x
  obtain ⟨E1, hE1⟩ : ∃ E, fitsE L [x] = E := ⟨_, rfl⟩
  obtain ⟨E2, hE2⟩ : ∃ E, fitsE L M = E := ⟨_, rfl⟩
  obtain ⟨E3, hE3⟩ : ∃ E, fitsE L (M ++ [x]) = E := ⟨_, rfl⟩
  obtain ⟨b1, hb1⟩ : ∃ b, fitsL L [x] = b := ⟨_, rfl⟩
  obtain ⟨b2, hb2⟩ : ∃ b, fitsL L M = b := ⟨_, rfl⟩
  obtain ⟨b3, hb3⟩ : ∃ b, fitsL L (M ++ [x]) = b := ⟨_, rfl⟩
  have hbad : E3 ≠ 0 → b3 = false := fun g => hb3.symm.trans (fitsL_bad (by rw [hE3]; exact g))
  rw [hE1, hE2, hE3, hb1, hb2, hb3] at hmore
  rw [hE1, hb1] at h1
  rw [hE2, hb2] at h2
  rw [hE3, hb3] at h3
  have H1 := Lib.hid h1
  have H2 := Lib.hid h2
  have H3 := Lib.hid h3
  have HB := Lib.hid hbad
  have HO := Lib.hid hmore
  have Hh' := Lib.hid h'
  have hgd := Lib.hid (fun (w : World) (e f : Int) => good_any _ 2 2 [e, f] rfl (by simp) _ (Has.fresh w #[.int .i64 e, .int .i64 f] 26))
  have HA := Lib.hid (fun w => labels_any w)
  have h63 : m + 1 ≤ maxLen := by unfold maxLen; omega
  have h16 : (m + 1) * 40 ≤ 140737488355328 := by omega
  clear h1 h2 h3 hbad hmore hE1 hE2 hE3 hb1 hb2 hb3 hn hm h hL hlen hx h' hM hMx hB hnc hcm hmd hdm
  obtain ⟨q, nm, v⟩ := x
  simp only [] at H1 ⊢
  obtain ⟨W0, hW0⟩ : ∃ W0, w.alloc (.cells #[.int .i64 q, .string nm, .string v] 24) = W0 := ⟨_, rfl⟩
  obtain ⟨g, hg⟩ : ∃ g, w.heap.size = g := ⟨_, rfl⟩
  have hb0 : Below w.heap.size w W0 := by rw [← hW0]; exact one_allocL w _
  have ka : Blk W0 g 24 #[.int .i64 q, .string nm, .string v] := by rw [← hW0, ← hg]; exact Blk.new _ _ _
  have HW := Lib.hid hW0
  have HG := Lib.hid hg
  clear hW0 hg
  go_enter Tryd.func5, Tryd.ntmps5
  go_wp2_with fail
  rw [HW.out, HG.out]
  refine (HA.out W0).mono ?_
  rintro e w1 ⟨rfl, hb1⟩
  have ka1 := ka.next hb1
  have hb01 := bnext hb0 hb1
  have HM1 := Hh'.out.next hb01
  have y0 : w1.cell? ⟨g, 0, none⟩ = some (.int .i64 q) := ka1.cell 0
  have y1 : w1.cell? ⟨g, 1, none⟩ = some (.string nm) := ka1.cell 1
  have y2 : w1.cell? ⟨g, 2, none⟩ = some (.string v) := ka1.cell 2
  clear hb1 ka
  go_wp2_with fail
  go_region_held_law (fun w' => w'.cell? ⟨g, 0, none⟩ = some (.int .i64 q) ∧ w'.cell? ⟨g, 1, none⟩ = some (.string nm) ∧ w'.cell? ⟨g, 2, none⟩ = some (.string v))
    (first | (refine keepM3 (t := 24) ?_; (repeat' (first | with_reducible exact ka8 | with_reducible exact ka5 | with_reducible exact kaC | with_reducible exact ka1 | with_reducible refine Blk.drewM ?_ | with_reducible refine Blk.alloc ?_ _)); done) | (trace_state; fail))
    (first
      | (have hz := hownA
         go_at_call 8
         refine (H3.out A5 c5 _ (by (repeat' (first | with_reducible exact hb05 | with_reducible refine below_drewM ?_)); done) (by (repeat' (first | with_reducible exact hHA | with_reducible refine has_drewM ?_)); done)).mono ?_
         rintro e9 w8 ⟨rfl, hb8⟩
         have hb08 : Below w.heap.size w w8 := bnext (by (repeat' (first | with_reducible exact hb05 | with_reducible refine below_drewM ?_)); done) hb8
         have ka8 : Blk w8 g 24 #[.int .i64 q, .string nm, .string v] := Blk.next (by (repeat' (first | with_reducible exact ka5 | with_reducible refine Blk.drewM ?_)); done) hb8)
      | (have hz := hownC
         apply step_append1 rfl (.tmp 18) (.tmp 20) 29 rfl elMt (v := .slice A4 m c4) (n := m) (base := bC) (xs := mtCs M); (case hown => (repeat' (first | with_reducible exact hownC | with_reducible refine World.ownsRow.alloc ?_ _ | with_reducible refine own_drewM ?_)); done); (case hs => rfl); (case hx => rfl); (case hb => first | exact heap_alloc_new _ _ | exact kV); (case hl => rfl); (case h1 => (intro u hu; simp at hu; rcases hu with rfl | rfl | rfl <;> rfl)); (case hmax => exact h16); (case h63 => exact h63); (case hbase => first | exact hbC2 | exact Nat.le_trans hbC2 (one_allocL _ _).size)
         intro A5 c5 w5 hown5 hgrow5 hbel5
         have ka5 : Blk w5 g 24 #[.int .i64 q, .string nm, .string v] := Blk.grown (by (repeat' (first | with_reducible exact kaC | with_reducible refine Blk.drewM ?_ | with_reducible refine Blk.alloc ?_ _)); done) hgrow5 hneG
         have hb05 : Below w.heap.size w w5 := Below.trans (by (repeat' (first | with_reducible exact hb04 | with_reducible refine below_drewM ?_ | with_reducible refine below_allocM ?_)); done) (hbel5.mono hbC0)
         have hownA := hown5
         have hHA : Has w5 w5.heap.size A5 (mtCs (M ++ [⟨q, nm, v⟩])) := by rw [mtCs_app1]; exact Has.of_own hown5)
      | (go_at_call 10
         refine (HCl.out _ (by (repeat' (first | with_reducible exact HM1 | with_reducible refine has_drewM ?_ | with_reducible refine has_allocM ?_)); done)).mono ?_
         rintro e9 w4 ⟨v4, rfl, A4, c4, rfl, hownC, hbC⟩
         have hB4 : Below w1.heap.size w1 w4 := bnext (by (repeat' (first | with_reducible exact Below.refl _ _ | with_reducible refine below_allocM ?_ | with_reducible refine below_drewM ?_)); done) hbC
         have kaC := ka1.next hB4
         have hb04 := bnext hb01 hB4
         first
           | (have kV : Blk w4 w1.heap.size 24 #[.int .i64 q, .string nm, .string v] := by refine Blk.next ?_ hbC; (repeat' (first | (with_reducible refine Blk.newM _ _ _ _ ?_; rfl) | with_reducible refine Blk.drewM ?_)); done)
           | skip
         obtain ⟨bC, hbC1, hbC2, hownC⟩ : ∃ bC, w1.heap.size ≤ bC ∧ bC ≤ w4.heap.size ∧ w4.ownsRow bC 24 3 (.slice A4 m c4) m (mtCs M) := ⟨_, Below.size (B := w1.heap.size) (w := w1) (by (repeat' (first | with_reducible exact Below.refl _ _ | with_reducible refine below_allocM ?_ | with_reducible refine below_drewM ?_)); done), hbC.size, hownC⟩
         have hbC0 : w.heap.size ≤ bC := Nat.le_trans hb01.size hbC1
         have hneG : some g ≠ (Value.slice A4 m c4).ownBlock := fun h => by have h2 := (hownC.lt g h.symm).1; have h3 := ka1.lt; omega))
  all_goals
    have Hka := Lib.hid ka8
    have Hbb := Lib.hid hb08
    clear ka8 hb08 hb8 hHA hownA hb05 ka5 hbel5 hgrow5 hown5 hneG hbC0 hbC2 hbC1 hownC hb04 kaC hB4 hbC
    go_wp2_with fail
    refine (H2.out w8 Hbb.out).mono ?_
    rintro e w9 ⟨rfl, hb9⟩
    have hb09 := bnext Hbb.out hb9
    have ka9 := Hka.out.next hb9
    have z0 : w9.cell? ⟨g, 0, none⟩ = some (.int .i64 q) := ka9.cell 0
    have z1 : w9.cell? ⟨g, 1, none⟩ = some (.string nm) := ka9.cell 1
    have z2 : w9.cell? ⟨g, 2, none⟩ = some (.string v) := ka9.cell 2
    clear hb9 ka9
    go_wp2_with fail
    refine (H1.out w9 hb09).mono ?_
    rintro e w10 ⟨rfl, hb10⟩
    have hb010 := bnext hb09 hb10
    clear hb10 z0 z1 z2 hb09
    by_cases hz : E3 = 0
    · obtain ⟨rfl, rfl, he⟩ := HO.out hz
      subst hz he
      have HD := Lib.hid (hgd.out w10 0 0)
      cases b1 <;> cases b2
      all_goals
        go_wp2_with fail
        refine HD.out.mono ?_
        rintro e w11 ⟨rfl, hd11⟩
        have hb011 := bnext hb010 (bnext (one_allocL w10 _) (drawn_below hd11))
        clear hd11
        go_wp2_with fail
        go_ret
        exact R1.mk rfl hb011
    · have he := HB.out hz
      subst he
      have f1 : (E3 != 0) = true := bne_iff_ne.2 hz
      clear hz
      go_wp2_with fail
      go_ret
      exact R1.mk rfl hb010
end Go.Proofs.YtmfndpkhcejffaaDoor
