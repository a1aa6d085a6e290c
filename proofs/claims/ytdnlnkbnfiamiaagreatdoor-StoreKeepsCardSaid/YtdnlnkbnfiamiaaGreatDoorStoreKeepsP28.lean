/- Texts of the proof of StoreKeeps, joined (by merge.py). Conditions: each theorem's own hypotheses. -/
import Derived.Test.YtdnlnkbnfiamiaaGreatDoorStoreKeepsP27
namespace Go.Proofs.YtdnlnkbnfiamiaaGreatDoor
open Go.RowKit

theorem elPut : Elem Tryz.prog 22 29 3 40 := Elem.mk' (z := .agg #[.slice none 0 0, .int .i64 0, .int .i64 0]) Tryz.underlying22 (by kernel_rfl) rfl (by decide)
theorem StM.grown {w w' : World} {base b2 size n g : Nat} {dk : List Nat} {sf : Int} {st : StD} {v' : Value} {xs : List Value} (h : StM w base g dk sf st) (ho : w.ownsRow b2 29 size v' n xs) (hg : w.grownBy w' v'.ownBlock) : StM w' base g dk sf st := by
  obtain ⟨b, dg, A, c, es, clock, kvs, h⟩ := h
  have hk := own_kindS ho
  refine ⟨b, dg, A, c, es, clock, kvs, ?_⟩
  exact
  { obj := h.obj.grown hg (fun e => by obtain ⟨cs, hc⟩ := hk g e.symm; have := h.obj.symm.trans hc; simp at this)
    mp := (hg.block b (Array.getElem?_eq_some_iff.1 h.mp).1 (fun e => by obtain ⟨cs, hc⟩ := hk b e.symm; have := h.mp.symm.trans hc; simp at this)).trans h.mp
    shape := h.shape
    rows := h.rows.keep fun v y k => by
      obtain ⟨A, n, c, A', n', c', h1, h2, h3, h4, h5⟩ := k
      exact ⟨A, n, c, A', n', c', h1, h2, h3, own_keep h4 hg (own_apart h4 ho (by decide)), own_keep h5 hg (own_apart h5 ho (by decide))⟩
    disk := ⟨h.disk.1.grown hg (fun e => by obtain ⟨cs, hc⟩ := hk dg e.symm; have := h.disk.1.symm.trans hc; simp at this), own_keep h.disk.2 hg (own_apart h.disk.2 ho (by decide))⟩
    og := h.og
    ob := h.ob
    od := h.od }
/-- the state at the head of the loop of puts -/
def KeepR (W : World) (base g : Nat) (l : List PutE) (j m c safe : Nat) (A : Option Addr) (wr : World) : Prop :=
  (oksE (l.take j)).length = m ∧ wr.ownsRow base 29 3 (.slice A m c) m (putCs (oksE (l.take j))) ∧ StM wr base g (dkOf (oksE (l.take j))) (sfOf (oksE (l.take j)) safe) (stOf (oksE (l.take j))) ∧ Below W.heap.size W wr ∧ base ≤ wr.heap.size
theorem take_snocE {l : List PutE} {j : Nat} (h : j < l.length) : l.take (j + 1) = l.take j ++ [at_ l j] := by
  rw [List.take_add_one, List.getElem?_eq_getElem h, at_eq h]
  rfl
theorem KeepR.no {W : World} {base g : Nat} {l : List PutE} {j m c safe : Nat} {A : Option Addr} {wr w7 : World} (h : KeepR W base g l j m c safe A wr) (hj : j < l.length) (hno : ¬ okP ((at_ l j).t.l, (at_ l j).x)) (hW : W.heap.size ≤ base) {w6 : World} (h6 : Below wr.heap.size wr w6) (hM : StM w7 base g (dkOf (oksE (l.take j))) (sfOf (oksE (l.take j)) safe) (stOf (oksE (l.take j)))) (hO : OutS base w6 w7) : KeepR W base g l (j + 1) m c safe A w7 := by
  obtain ⟨h1, h2, h3, h4, h5⟩ := h
  have e : oksE (l.take (j + 1)) = oksE (l.take j) := by rw [take_snocE hj, oksE_snoc, if_neg hno, List.append_nil]
  refine ⟨by rw [e]; exact h1, by rw [e]; exact hO.own (own_next h2 h6) (by unfold StKind; decide), by rw [e]; exact hM, (bnext h4 h6).trans (hO.below.mono hW), Nat.le_trans h5 (Nat.le_trans h6.size hO.size)⟩
theorem KeepR.yes {W : World} {base g : Nat} {l : List PutE} {j m c safe : Nat} {A : Option Addr} {wr w7 w8 : World} (h : KeepR W base g l j m c safe A wr) (hs : safe ≤ m) (hj : j < l.length) (hok : okP ((at_ l j).t.l, (at_ l j).x)) (hW : W.heap.size ≤ base) {w6 : World} (h6 : Below wr.heap.size wr w6) (hM : StM w7 base g (dkOf (oksE (l.take j)) ++ frameL (recN (at_ l j).t.l (at_ l j).x)) (sfOf (oksE (l.take j)) safe) (addN (stOf (oksE (l.take j))) (at_ l j).t.l (at_ l j).x)) (hO : OutS base w6 w7) {A8 : Option Addr} {c8 : Nat} (ho8 : w8.ownsRow base 29 3 (.slice A8 (m + 1) c8) (m + 1) (putCs (oksE (l.take j)) ++ putC (at_ l j))) (hg8 : w7.grownBy w8 (Value.slice A m c).ownBlock) : KeepR W base g l (j + 1) (m + 1) c8 safe A8 w8 := by
  obtain ⟨h1, h2, h3, h4, h5⟩ := h
  have ho7 := hO.own (own_next h2 h6) (by unfold StKind; decide)
  have e : oksE (l.take (j + 1)) = oksE (l.take j) ++ [at_ l j] := by rw [take_snocE hj, oksE_snoc, if_pos hok]
  have h57 := Nat.le_trans h5 (Nat.le_trans h6.size hO.size)
  have hB7 := (bnext h4 h6).trans (hO.below.mono hW)
  refine ⟨by rw [e, List.length_append, h1]; rfl, ?_, ?_, hB7.trans ((grown_below ho7 hg8 h57).mono hW), Nat.le_trans h57 hg8.size⟩
  · rw [e, putCs_app]
    simpa [putCs] using ho8
  · rw [e, dkOf_snoc, stOf_snoc _ _ hok, sfOf_snoc _ _ (by omega)]
    exact hM.grown ho7 hg8
theorem KeepR.sync {W : World} {base g : Nat} {l : List PutE} {j m c safe : Nat} {A : Option Addr} {wr w7 : World} (h : KeepR W base g l j m c safe A wr) (hW : W.heap.size ≤ base) (hM : StM w7 base g (dkOf (oksE (l.take j))) (dkOf (oksE (l.take j))).length (stOf (oksE (l.take j)))) (hO : OutS base wr w7) : KeepR W base g l j m c m A w7 := by
  obtain ⟨h1, h2, h3, h4, h5⟩ := h
  refine ⟨h1, hO.own h2 (by unfold StKind; decide), ?_, h4.trans (hO.below.mono hW), Nat.le_trans h5 hO.size⟩
  rw [← h1, sfOf_all]
  exact hM
set_option maxRecDepth 1000000 in
set_option maxHeartbeats 8000000 in
theorem storeKeeps_any (W : World) (A : Option Addr) (c : Nat) (l : List PutE) (ok : ∀ e ∈ l, e.good W) (_lc : l.length ≤ c) (_cm : c ≤ maxLen) (_nil : A = none → c = 0) (has : Has W W.heap.size A (putCs l)) (_reach : l.length * 40 ≤ 140737488351232) (synced : Int) (_hsy : -9223372036854775808 ≤ synced ∧ synced ≤ 9223372036854775807) (keep : Int) (hke : -9223372036854775808 ≤ keep ∧ keep ≤ 9223372036854775807) (tS : SgAt W) :
    Calls Tryz.prog 6 #[.slice A l.length c, .int .i64 synced, .int .i64 keep] W (R1 (.bool true) (Below W.heap.size W)) := by
  obtain ⟨n, hn⟩ : ∃ n, l.length = n := ⟨_, rfl⟩
  rw [hn]
  have HSt := Lib.hid (stores_true W tS)
  by_cases h12 : (12 : Int) < (n : Int)
  · go_enter Tryz.func6, Tryz.ntmps6
    go_wp2_with fail
    refine HSt.out.mono ?_
    rintro e w1 ⟨rfl, hb1⟩
    go_wp2_with fail
    go_ret
    exact R1.mk rfl hb1
  have h12' : n ≤ 12 := by omega
  have Hn := Lib.hid hn
  have Hok := Lib.hid ok
  have Hh := Lib.hid has
  have HS := Lib.hid tS
  have Hke := Lib.hid hke
  clear hn ok has tS hke _hsy _nil
  go_enter Tryz.func6, Tryz.ntmps6
  go_wp2_with fail
  refine HSt.out.mono ?_
  rintro e w1 ⟨rfl, hb1⟩
  go_wp2_with fail
  refine (snew_any _).mono ?_
  rintro e w2 ⟨v, rfl, g, rfl, hM2, hb2⟩
  have hW1 := Lib.hid hb1.size
  have hK2 : Hid (KeepR W w1.heap.size g l 0 0 0 0 none w2) := Lib.hid ⟨by rw [List.take_zero]; rfl, World.ownsRow_nil _ _ _ _, by rw [List.take_zero]; exact hM2, bnext hb1 hb2, hb2.size⟩
  have hsg : Hid (0 < w1.heap.size) := Lib.hid (Nat.lt_of_lt_of_le HS.out.1 hb1.size)
  obtain ⟨base, hbase⟩ : ∃ base, w1.heap.size = base := ⟨_, rfl⟩
  rw [hbase] at hK2 hW1 hsg
  clear hM2 hb1 hb2 hbase
  go_wp2_with fail
  go_loopw [8, 9, 22] (fun v s i wr => ∃ (j m c safe : Nat) (A : Option Addr), j ≤ n ∧ i = .int .i64 (j : Nat) ∧ v = .slice A m c ∧ s = .int .i64 (safe : Nat) ∧ m ≤ j ∧ safe ≤ m ∧ Hid (KeepR W base g l j m c safe A wr)) (fun _ _ i _ => n + 5 - (intOf i).toNat)
  case atStart => exact ⟨0, 0, 0, 0, none, by omega, rfl, rfl, rfl, by omega, by omega, hK2⟩
  case round =>
    obtain ⟨j, m, c3, safe, A3, hj, rfl, rfl, rfl, hmj, hsm, hK⟩ := hrel
    by_cases hlt : (j : Int) < (n : Int)
    · have hjl : j < l.length := by rw [Hn.out]; omega
      have hjn : j < n := by omega
      have hbr := hK.out.2.2.2.1
      have hHr := Hh.out.next hbr
      obtain ⟨ad, rfl, _, c0⟩ := hHr.at (putCs_0 hjl)
      obtain ⟨ad', e', _, c1⟩ := hHr.at (putCs_1 hjl)
      injection e' with e'
      subst e'
      obtain ⟨ad', e', _, c2⟩ := hHr.at (putCs_2 hjl)
      injection e' with e'
      subst e'
      have c1 := cell_off c1 (by decide)
      have c2 := cell_off c2 (by decide)
      obtain ⟨⟨gl1, gl2, gl3, gl4, gl5⟩, gx⟩ := (Hok.out _ (at_mem hjl)).next hbr
      have hYes := Lib.hid (fun (w6 w7 w8 : World) (A8 : Option Addr) (c8 : Nat) hok h6 hM hO ho8 hg8 => hK.out.yes (w6 := w6) (w7 := w7) (w8 := w8) (A8 := A8) (c8 := c8) hsm hjl hok hW1.out h6 hM hO ho8 hg8)
      have hNo := Lib.hid (fun (w6 w7 : World) hno h6 hM hO => hK.out.no (w6 := w6) (w7 := w7) hjl hno hW1.out h6 hM hO)
      have hI := taken_inv (taken_ok (l := l.take j) (fun e he => Hok.out e (List.mem_of_mem_take he)))
      have hlk : (oksE (l.take j)).length ≤ 12 := by rw [hK.out.1]; omega
      have hok3 := hI.ok (by omega)
      have hdk3 : (dkOf (oksE (l.take j))).length ≤ 1238 * (oksE (l.take j)).length := hI.disk
      have hM3 := hK.out.2.2.1
      have ho3 := hK.out.2.1
      have hbs3 := hK.out.2.2.2.2
      obtain ⟨tk, htk⟩ : ∃ tk, oksE (l.take j) = tk := ⟨_, rfl⟩
      rw [htk] at hYes hNo hok3 hdk3 hM3 hlk ho3
      obtain ⟨⟨⟨LA, lc, L⟩, x⟩, hp⟩ : ∃ p, at_ l j = p := ⟨_, rfl⟩
      rw [hp] at c0 c1 c2 gl1 gl2 gl3 gl4 gl5 gx hYes hNo
      simp only [] at c0 c1 c2 gl1 gl2 gl3 gl4 gl5 gx hYes hNo
      obtain ⟨ln, hln⟩ : ∃ ln, L.length = ln := ⟨_, rfl⟩
      rw [hln] at c0 gl2
      have hpc : putC ⟨⟨LA, lc, L⟩, x⟩ = [.slice LA ln lc, .int .i64 x.t, .int .i64 x.v] := by rw [← hln]; rfl
      rw [hpc] at hYes
      have Hln := Lib.hid hln
      have q1 : (0 : Int) ≤ (j : Int) := by omega
      have gl5 := Lib.hid gl5
      have gl1 := Lib.hid gl1
      have hM3 := Lib.hid hM3
      have ho3 := Lib.hid ho3
      have hok3 := Lib.hid hok3
      have hbs3 := Lib.hid hbs3
      have hbr := Lib.hid hbr
      clear hp hln hjl hHr hI htk hpc
      go_upto_region 11 with fail
      obtain ⟨W6, hW6⟩ : ∃ W6, wr.alloc (.cells #[.slice LA ln lc, .int .i64 x.t, .int .i64 x.v] 29) = W6 := ⟨_, rfl⟩
      obtain ⟨q6, hq6⟩ : ∃ q6, wr.heap.size = q6 := ⟨_, rfl⟩
      have hb6 : Below wr.heap.size wr W6 := by rw [← hW6]; exact one_allocB _ _
      have k6 : Blk W6 q6 29 #[.slice LA ln lc, .int .i64 x.t, .int .i64 x.v] := by rw [← hW6]; exact Blk.newD _ _ _ _ hq6
      rw [hW6, hq6]
      have x0 : W6.cell? ⟨q6, 0, none⟩ = some (.slice LA ln lc) := k6.cell 0
      have x1 : W6.cell? ⟨q6, 1, none⟩ = some (.int .i64 x.t) := k6.cell 1
      have x2 : W6.cell? ⟨q6, 2, none⟩ = some (.int .i64 x.v) := k6.cell 2
      have hbr6 := bnext hbr.out hb6
      have hP := put_store base g (dkOf tk) (sfOf tk safe) (stOf tk) hok3.out (by omega) LA ln lc L Hln.out (by omega) (fun e => by have := gl4 e; omega) x gx gl1.out W6 (hM3.out.next hb6) (Nat.le_trans hbs3.out hb6.size) (gl5.out.next hb6) (HS.out.next hbr6)
      have ho6 := Lib.hid (own_next ho3.out hb6)
      have hbr6 := Lib.hid hbr6
      have hbs6 := Lib.hid (Nat.le_trans hbs3.out hb6.size)
      have hb6 := Lib.hid hb6
      clear hW6 hq6
      by_cases hokp : okP (L, x)
      · have e1 : putN (stOf tk, dkOf tk) L x = _ := putN_ok (p := (L, x)) hokp
        rw [e1] at hP
        have hP := Lib.hid hP
        replace hokp := Lib.hid hokp
        have k6 := Lib.hid k6
        clear e1
        by_cases hsy : (j : Int) = synced
        · skip
          have hsq : ((j : Int) == synced) = true := by rw [beq_iff_eq]; exact hsy
          replace hsy := Lib.hid hsy
          go_wp2_with fail
          refine hP.out.mono ?_
          rintro e w7 ⟨rfl, hM7, hO7⟩
          have k7 := hO7.blk k6.out (by unfold StKind; decide)
          have y0 : w7.cell? ⟨q6, 0, none⟩ = some (.slice LA ln lc) := k7.cell 0
          have y1 : w7.cell? ⟨q6, 1, none⟩ = some (.int .i64 x.t) := k7.cell 1
          have y2 : w7.cell? ⟨q6, 2, none⟩ = some (.int .i64 x.v) := k7.cell 2
          have ho7 := hO7.own ho6.out (by unfold StKind; decide)
          have hbs7 : base ≤ w7.heap.size := Nat.le_trans hbs6.out hO7.size
          have hM7 := Lib.hid hM7
          have hO7 := Lib.hid hO7
          clear x0 x1 x2 k7
          go_wp2_with (at_builtin; refine wpList_append1 rfl _ _ _ rfl elPut rfl ho7 rfl rfl rfl ?_ ?k1 ?k2 ?k3 ?k4; intro A8 c8 w8 hown8 hgrow8 hbel8)
          case k1 => first | exact ⟨rfl, rfl, rfl⟩ | (intro u hu; simp at hu; rcases hu with rfl | rfl | rfl <;> rfl)
          case k2 => omega
          case k3 => unfold maxLen; omega
          case k4 => exact hbs7
          have hK8 := Lib.hid (hYes.out W6 w7 w8 A8 c8 hokp.out hb6.out hM7.out hO7.out hown8 hgrow8)
          clear hown8 hgrow8 hbel8 ho7 y0 y1 y2
          go_wp2_with fail
          refine (sync_store base g _ _ _ _ hK8.out.2.2.1).mono ?_
          rintro e w9 ⟨rfl, hM9, hO9⟩
          have hK9 := Lib.hid (hK8.out.sync hW1.out hM9 hO9)
          clear hM9 hO9
          go_wp2_with fail
          go_roundw
          case rel => exact ⟨j + 1, m + 1, c8, m + 1, A8, by omega, by go_num, rfl, by go_num, by omega, by omega, hK9⟩
          case measure => simp [intOf]; omega
        · skip
          have hsq : ((j : Int) == synced) = false := by rw [beq_eq_false_iff_ne]; exact hsy
          replace hsy := Lib.hid hsy
          go_wp2_with fail
          refine hP.out.mono ?_
          rintro e w7 ⟨rfl, hM7, hO7⟩
          have k7 := hO7.blk k6.out (by unfold StKind; decide)
          have y0 : w7.cell? ⟨q6, 0, none⟩ = some (.slice LA ln lc) := k7.cell 0
          have y1 : w7.cell? ⟨q6, 1, none⟩ = some (.int .i64 x.t) := k7.cell 1
          have y2 : w7.cell? ⟨q6, 2, none⟩ = some (.int .i64 x.v) := k7.cell 2
          have ho7 := hO7.own ho6.out (by unfold StKind; decide)
          have hbs7 : base ≤ w7.heap.size := Nat.le_trans hbs6.out hO7.size
          have hM7 := Lib.hid hM7
          have hO7 := Lib.hid hO7
          clear x0 x1 x2 k7
          go_wp2_with (at_builtin; refine wpList_append1 rfl _ _ _ rfl elPut rfl ho7 rfl rfl rfl ?_ ?k1 ?k2 ?k3 ?k4; intro A8 c8 w8 hown8 hgrow8 hbel8)
          case k1 => first | exact ⟨rfl, rfl, rfl⟩ | (intro u hu; simp at hu; rcases hu with rfl | rfl | rfl <;> rfl)
          case k2 => omega
          case k3 => unfold maxLen; omega
          case k4 => exact hbs7
          have hK8 := Lib.hid (hYes.out W6 w7 w8 A8 c8 hokp.out hb6.out hM7.out hO7.out hown8 hgrow8)
          clear hown8 hgrow8 hbel8 ho7 y0 y1 y2
          go_wp2_with fail
          go_roundw
          case rel => exact ⟨j + 1, m + 1, c8, safe, A8, by omega, by go_num, rfl, rfl, by omega, by omega, hK8⟩
          case measure => simp [intOf]; omega
      · have e1 : putN (stOf tk, dkOf tk) L x = _ := putN_no (p := (L, x)) hokp
        rw [e1] at hP
        simp only [] at hP
        have her : ((encN L x).2 == 0) = false := by rw [beq_eq_false_iff_ne]; exact hokp
        obtain ⟨er, her'⟩ : ∃ er, (encN L x).2 = er := ⟨_, rfl⟩
        rw [her'] at hP her
        have hP := Lib.hid hP
        replace hokp := Lib.hid hokp
        clear e1 her' k6
        by_cases hsy : (j : Int) = synced
        · skip
          have hsq : ((j : Int) == synced) = true := by rw [beq_iff_eq]; exact hsy
          replace hsy := Lib.hid hsy
          go_wp2_with fail
          refine hP.out.mono ?_
          rintro e w7 ⟨rfl, hM7, hO7⟩
          have hK8 := Lib.hid (hNo.out W6 w7 hokp.out hb6.out hM7 hO7)
          clear hM7 hO7 x0 x1 x2
          go_wp2_with fail
          refine (sync_store base g _ _ _ _ hK8.out.2.2.1).mono ?_
          rintro e w9 ⟨rfl, hM9, hO9⟩
          have hK9 := Lib.hid (hK8.out.sync hW1.out hM9 hO9)
          clear hM9 hO9
          go_wp2_with fail
          go_roundw
          case rel => exact ⟨j + 1, m, c3, m, A3, by omega, by go_num, rfl, by go_num, by omega, by omega, hK9⟩
          case measure => simp [intOf]; omega
        · skip
          have hsq : ((j : Int) == synced) = false := by rw [beq_eq_false_iff_ne]; exact hsy
          replace hsy := Lib.hid hsy
          go_wp2_with fail
          refine hP.out.mono ?_
          rintro e w7 ⟨rfl, hM7, hO7⟩
          have hK8 := Lib.hid (hNo.out W6 w7 hokp.out hb6.out hM7 hO7)
          clear hM7 hO7 x0 x1 x2
          go_wp2_with fail
          go_roundw
          case rel => exact ⟨j + 1, m, c3, safe, A3, by omega, by go_num, rfl, rfl, by omega, by omega, hK8⟩
          case measure => simp [intOf]; omega
    · obtain rfl : j = n := by omega
      have hall : l.take j = l := List.take_of_length_le (by rw [Hn.out]; exact Nat.le_refl _)
      obtain ⟨hl3, ho3, hM3, hbr, hbs3⟩ := hK.out
      rw [hall] at hl3 ho3 hM3
      have htok := taken_ok (l := l) Hok.out
      have hgd : ∀ e ∈ oksE l, e.good W := fun e he => Hok.out e (oksE_mem he)
      obtain ⟨tk, htk⟩ : ∃ tk, oksE l = tk := ⟨_, rfl⟩
      rw [htk] at hl3 ho3 hM3 htok hgd
      have hI := taken_inv htok
      have ok3 := Lib.hid (hI.ok (by omega))
      have ky3 := Lib.hid hI.keyOk
      have hdl : (dkOf tk).length ≤ 1238 * tk.length := hI.disk
      have hsl := sfOf_le tk safe
      have hm12 : m ≤ 12 := by omega
      have hdm : (dkOf tk).length ≤ 1000000 := by omega
      have hM3 := Lib.hid hM3
      have ho3 := Lib.hid ho3
      have Hl3 := Lib.hid hl3
      have hbr := Lib.hid hbr
      have hbs3 := Lib.hid hbs3
      have hgd := Lib.hid hgd
      have htok := Lib.hid htok
      clear hall hK htk hl3 hI
      have Hdl := Lib.hid hdl
      obtain ⟨dkl, hdkl⟩ : ∃ k, (dkOf tk).length = k := ⟨_, rfl⟩
      obtain ⟨sfl, hsfl⟩ : ∃ k, sfOf tk safe = k := ⟨_, rfl⟩
      by_cases hk : keep < 0 ∨ ((dkOf tk).length : Int) - (sfOf tk safe : Int) < keep
      · have hC := Lib.hid (fun (w4 : World) (hb : Below wr.heap.size wr w4) => crash_no base g (dkOf tk) (sfOf tk safe) (stOf tk) hsl hdm keep Hke.out hk w4 (hM3.out.next hb))
        replace hk := Lib.hid hk
        clear hdl hsl hdm hdkl hsfl
        go_wp2_with fail
        refine (all_any base g _ _ _ ok3.out ky3.out _ hM3.out).mono ?_
        rintro e w4 ⟨v, rfl, A4, n4, c4, es4, rfl, hn4, ho4, hr4, hb4⟩
        have Hn4 := Lib.hid hn4
        have hlt4 := own_len ho4
        have ho4 := Lib.hid ho4
        have hr4 := Lib.hid hr4
        have hb4 := Lib.hid hb4
        clear hn4
        go_wp2_with fail
        refine (hC.out _ hb4.out).mono ?_
        rintro e w5 ⟨rfl, hb5⟩
        go_wp2_with fail
        refine (all_any base g _ _ _ ok3.out ky3.out _ (hM3.out.next (bnext hb4.out hb5))).mono ?_
        rintro e w6 ⟨v, rfl, A6, n6, c6, es6, rfl, hn6, ho6, hr6, hb6⟩
        have hlt6 := own_len ho6
        have hEq := Lib.hid (sameSer_any A6 A4 n6 n4 c6 c4 (allN (stOf tk)) (allN (stOf tk)) es6 es4 _ _ hn6 Hn4.out (by omega) (by omega) w6 (Has.of_own ho6) hr6 ((Has.of_own ho4.out).next (bnext hb5 hb6)) (hr4.out.next (bnext hb5 hb6)))
        rw [decide_eq_true rfl] at hEq
        have hb06 := Lib.hid (bnext hbr.out (bnext hb4.out (bnext hb5 hb6)))
        clear hn6 ho6 hr6 hb6 hb5
        go_wp2_with fail
        refine hEq.out.mono ?_
        rintro e w7 ⟨rfl, hb7⟩
        go_wp2_with fail
        go_ret
        exact R1.mk rfl (bnext hb06.out hb7)
      · obtain ⟨kp, rfl⟩ : ∃ kp : Nat, keep = kp := ⟨keep.toNat, by omega⟩
        have hkk : sfOf tk safe + kp ≤ (dkOf tk).length := by omega
        obtain ⟨m0, hm1, hm2, hcut, htake, hle⟩ := keep_torn htok.out (safe := safe) (k := kp) (by rw [ptsOf_len, Hl3.out]; omega) hkk
        rw [ptsOf_len, Hl3.out] at hm2
        have eq0 : (ptsOf tk).take m0 = ptsOf (tk.take m0) := by unfold ptsOf; rw [List.map_take]
        rw [eq0] at hcut htake hle
        have htok0 : ∀ p ∈ ptsOf (tk.take m0), okP p ∧ SmpIn p.2 := fun p hp => htok.out p (by rw [← eq0] at hp; exact List.mem_of_mem_take hp)
        have hl0 : (tk.take m0).length = m0 := by rw [List.length_take, Hl3.out, Nat.min_eq_left hm2]
        have hI0 := taken_inv htok0
        rw [hl0] at hI0
        have ok0 := Lib.hid (hI0.ok (by omega))
        have ky0 := Lib.hid hI0.keyOk
        have hcut2 : cutN ((dkOf tk).take (dkOf (tk.take m0)).length) = (recsOf (ptsOf (tk.take m0)), (dkOf (tk.take m0)).length) := by
          unfold dkOf
          rw [htake]
          exact cut_flat (recs_short htok0)
        have hC := Lib.hid (fun (w4 : World) (hb : Below wr.heap.size wr w4) => crash_yes base g (dkOf tk) (sfOf tk safe) (stOf tk) hsl (recs_bytes _) hdm kp hkk (dkOf (tk.take m0)).length (ptsOf (tk.take m0)) hcut hle hcut2 htok0 (by rw [ptsOf_len, hl0]; omega) w4 (hM3.out.next hb) (Nat.le_trans hbs3.out hb.size) (HS.out.next (bnext hbr.out hb)) hsg.out)
        have hokq := Lib.hid (fun (q : Nat) (hq : q ≤ m0) => show (∀ p ∈ ptsOf (tk.take q), okP p ∧ SmpIn p.2) ∧ (tk.take q).length = q from
          ⟨fun p hp => htok.out p (by rw [show ptsOf (tk.take q) = (ptsOf tk).take q by unfold ptsOf; rw [List.map_take]] at hp; exact List.mem_of_mem_take hp), by rw [List.length_take, Hl3.out, Nat.min_eq_left (Nat.le_trans hq hm2)]⟩)
        obtain ⟨t0, ht0⟩ : ∃ t, tk.take m0 = t := ⟨_, rfl⟩
        have HT0 := Lib.hid ht0
        rw [ht0] at ok0 ky0 hC
        clear hdl hsl hdm hdkl hsfl hk hkk hcut htake hle eq0 htok0 hl0 hI0 hcut2 ht0
        go_wp2_with fail
        refine (all_any base g _ _ _ ok3.out ky3.out _ hM3.out).mono ?_
        rintro e w4 ⟨v, rfl, A4, n4, c4, es4, rfl, hn4, ho4, hr4, hb4⟩
        have hb4 := Lib.hid hb4
        clear hn4 ho4 hr4
        go_wp2_with fail
        refine (hC.out _ hb4.out).mono ?_
        rintro e w5 ⟨rfl, hM5, hO5⟩
        have hM5 : Hid (StM w5 base g _ _ (stOf t0)) := Lib.hid hM5
        have ho5 := hO5.own (own_next ho3.out hb4.out) (by unfold StKind; decide)
        have hb5 := Lib.hid ((bnext hbr.out hb4.out).trans (hO5.below.mono hW1.out))
        obtain ⟨l1, l2⟩ := own_len ho5
        have hnA : A3 = none → m = 0 ∧ c3 = 0 := fun e => by subst e; exact own_nil ho5
        have ho5 := Lib.hid ho5
        clear hO5
        go_wp2_with fail
        go_loopw [13] (fun v wr => ∃ q : Nat, safe ≤ q ∧ q ≤ m0 ∧ v = .int .i64 (q : Nat) ∧ Hid (Below w5.heap.size w5 wr)) (fun v _ => m + 5 - (intOf v).toNat)
        case atStart => exact ⟨safe, by omega, by omega, rfl, Lib.hid (Below.refl _ _)⟩
        case round =>
          obtain ⟨q, hq1, hq2, rfl, hbq⟩ := hrel
          obtain ⟨htq, hlq⟩ := hokq.out q hq2
          have hIq := taken_inv htq
          rw [hlq] at hIq
          have okq := Lib.hid (hIq.ok (by omega))
          have kyq := Lib.hid hIq.keyOk
          have hHq : Hid (Has wr wr.heap.size A3 (putCs (tk.take q))) := Lib.hid (by have := ((Has.of_own ho5.out).next hbq.out).take (q * 3); rw [putCs_take] at this; exact this)
          have hMr := Lib.hid (hM5.out.next hbq.out)
          have HSd := Lib.hid (fun (w' : World) (hb : Below wr.heap.size wr w') => stored_any A3 q c3 (tk.take q) hlq (by omega) w' (fun e he => (hgd.out e (List.mem_of_mem_take he)).next (bnext hb5.out (bnext hbq.out hb))) (hHq.out.next hb) (HS.out.next (bnext hb5.out (bnext hbq.out hb))))
          have hqm : (q : Int) ≤ (m : Int) := by omega
          have hqc : (q : Int) ≤ (c3 : Int) := by omega
          have hq0 : (0 : Int) ≤ (q : Int) := by omega
          obtain ⟨tq, htq'⟩ : ∃ t, tk.take q = t := ⟨_, rfl⟩
          rw [htq'] at okq kyq HSd
          have HTq := Lib.hid htq'
          unfold StoredP at HSd
          clear htq hlq hIq hHq htq'
          by_cases hE : allN (stOf t0) = allN (stOf tq)
          · skip
            have HSm : Hid (∀ (A B : Option Addr) (n m c d : Nat) (es ks : List (Value × Value)) (b1 b2 : Nat), (allN (stOf t0)).length = n → (allN (stOf tq)).length = m → n ≤ maxLen → m ≤ maxLen → ∀ w' : World, Has w' w'.heap.size A (serCs es) → SerRow w' b1 es (allN (stOf t0)) → Has w' w'.heap.size B (serCs ks) → SerRow w' b2 ks (allN (stOf tq)) → Calls Tryz.prog 10 #[.slice A n c, .slice B m d] w' (R1 (.bool true) (Below w'.heap.size w'))) := Lib.hid (fun A B n m c d es ks b1 b2 hn hm hl hk w' h hr h' hr' => by
              have := sameSer_any A B n m c d (allN (stOf t0)) (allN (stOf tq)) es ks b1 b2 hn hm hl hk w' h hr h' hr'
              rw [decide_eq_true hE] at this
              exact this)
            replace hE := Lib.hid hE
            obtain hA3 | ⟨ad, hA3⟩ : A3 = none ∨ ∃ ad, A3 = some ad := by
              cases A3 with
              | none => exact .inl rfl
              | some ad => exact .inr ⟨ad, rfl⟩
            all_goals
              subst hA3
              try (obtain ⟨rfl, rfl⟩ := hnA rfl; obtain rfl : q = 0 := by omega)
              clear hnA
              go_upto_region 23 with fail
              go_region_held_law (fun _ => True) (trivial)
                (first
                  | (have hz := hR9
                     go_at_call 10
                     refine (HSm.out A7 A9 n7 n9 c7 c9 es7 es9 _ _ hn7 hn9 (Nat.le_trans (own_len ho7).1 (own_len ho7).2) (Nat.le_trans (own_len ho9).1 (own_len ho9).2) _ (Has.next (Has.of_own ho7) (by (repeat' (first | with_reducible exact hN9 | with_reducible exact Below.refl _ _ | with_reducible refine below_drewT ?_ | with_reducible refine below_allocU ?_ _)); done)) (SerRow.next hr7 (by (repeat' (first | with_reducible exact hN9 | with_reducible exact Below.refl _ _ | with_reducible refine below_drewT ?_ | with_reducible refine below_allocU ?_ _)); done)) (Has.next (Has.of_own ho9) (by (repeat' (first | with_reducible exact Below.refl _ _ | with_reducible refine below_drewT ?_ | with_reducible refine below_allocU ?_ _)); done)) (SerRow.next hR9 (by (repeat' (first | with_reducible exact Below.refl _ _ | with_reducible refine below_drewT ?_ | with_reducible refine below_allocU ?_ _)); done))).mono ?_
                     rintro e9 w10 ⟨rfl, hb10⟩
                     have hB10 : Below wr.heap.size wr w10 := bnext (by (repeat' (first | with_reducible exact hB9 | with_reducible exact Below.refl _ _ | with_reducible refine below_drewT ?_ | with_reducible refine below_allocU ?_ _)); done) hb10)
                  | (have hz := hM8
                     go_at_call 12
                     refine (all_any _ g8 _ 0 _ okq.out kyq.out _ (StM.next hM8 (by (repeat' (first | with_reducible exact Below.refl _ _ | with_reducible refine below_drewT ?_ | with_reducible refine below_allocU ?_ _)); done))).mono ?_
                     rintro e9 w9 ⟨v9, rfl, A9, n9, c9, es9, rfl, hn9, ho9, hR9, hb9⟩
                     have hB9 : Below wr.heap.size wr w9 := bnext (by (repeat' (first | with_reducible exact hB8 | with_reducible exact Below.refl _ _ | with_reducible refine below_drewT ?_ | with_reducible refine below_allocU ?_ _)); done) hb9
                     have hN9 : Below w7.heap.size w7 w9 := bnext (by (repeat' (first | with_reducible exact hN8 | with_reducible exact Below.refl _ _ | with_reducible refine below_drewT ?_ | with_reducible refine below_allocU ?_ _)); done) hb9)
                  | (have hz := hr7
                     go_at_call 11
                     refine (HSd.out _ (by (repeat' (first | with_reducible exact hB7 | with_reducible exact Below.refl _ _ | with_reducible refine below_drewT ?_ | with_reducible refine below_allocU ?_ _)); done)).mono ?_
                     rintro e9 w8 ⟨v8, rfl, g8, rfl, hM8, hb8⟩
                     have hB8 : Below wr.heap.size wr w8 := bnext (by (repeat' (first | with_reducible exact hB7 | with_reducible exact Below.refl _ _ | with_reducible refine below_drewT ?_ | with_reducible refine below_allocU ?_ _)); done) hb8
                     have hN8 : Below w7.heap.size w7 w8 := bnext (by (repeat' (first | with_reducible exact Below.refl _ _ | with_reducible refine below_drewT ?_ | with_reducible refine below_allocU ?_ _)); done) hb8)
                  | (go_at_call 12
                     refine (all_any _ g _ _ _ ok0.out ky0.out _ (StM.next hMr.out (by (repeat' (first | with_reducible exact Below.refl _ _ | with_reducible refine below_drewT ?_ | with_reducible refine below_allocU ?_ _)); done))).mono ?_
                     rintro e9 w7 ⟨v7, rfl, A7, n7, c7, es7, rfl, hn7, ho7, hr7, hb7⟩
                     have hB7 : Below wr.heap.size wr w7 := bnext (by (repeat' (first | with_reducible exact Below.refl _ _ | with_reducible refine below_drewT ?_ | with_reducible refine below_allocU ?_ _)); done) hb7))
              all_goals
                have hbF := Lib.hid hB10
                clear hn7 ho7 hr7 hb7 hM8 hb8 hn9 ho9 hR9 hb9 hB7 hB8 hB9 hN8 hN9 hb10 hB10
                go_wp2_with fail
                go_ret
                exact R1.mk rfl (bnext hb5.out (bnext hbq.out hbF.out))
          · skip
            have HSm : Hid (∀ (A B : Option Addr) (n m c d : Nat) (es ks : List (Value × Value)) (b1 b2 : Nat), (allN (stOf t0)).length = n → (allN (stOf tq)).length = m → n ≤ maxLen → m ≤ maxLen → ∀ w' : World, Has w' w'.heap.size A (serCs es) → SerRow w' b1 es (allN (stOf t0)) → Has w' w'.heap.size B (serCs ks) → SerRow w' b2 ks (allN (stOf tq)) → Calls Tryz.prog 10 #[.slice A n c, .slice B m d] w' (R1 (.bool false) (Below w'.heap.size w'))) := Lib.hid (fun A B n m c d es ks b1 b2 hn hm hl hk w' h hr h' hr' => by
              have := sameSer_any A B n m c d (allN (stOf t0)) (allN (stOf tq)) es ks b1 b2 hn hm hl hk w' h hr h' hr'
              rw [decide_eq_false hE] at this
              exact this)
            replace hE := Lib.hid hE
            have hqlt : q < m0 := by
              rcases Nat.lt_or_ge q m0 with h | h
              · exact h
              · exact absurd (by rw [← HT0.out, ← HTq.out, show q = m0 by omega]) hE.out
            have Hq' : ∃ q', Hid (q' = q + 1) := ⟨_, Lib.hid rfl⟩
            obtain ⟨q', Hq'⟩ := Hq'
            obtain hA3 | ⟨ad, hA3⟩ : A3 = none ∨ ∃ ad, A3 = some ad := by
              cases A3 with
              | none => exact .inl rfl
              | some ad => exact .inr ⟨ad, rfl⟩
            all_goals
              subst hA3
              try (obtain ⟨rfl, rfl⟩ := hnA rfl; obtain rfl : q = 0 := by omega)
              clear hnA
              go_upto_region 23 with fail
              go_region_held_law (fun _ => True) (trivial)
                (first
                  | (have hz := hR9
                     go_at_call 10
                     refine (HSm.out A7 A9 n7 n9 c7 c9 es7 es9 _ _ hn7 hn9 (Nat.le_trans (own_len ho7).1 (own_len ho7).2) (Nat.le_trans (own_len ho9).1 (own_len ho9).2) _ (Has.next (Has.of_own ho7) (by (repeat' (first | with_reducible exact hN9 | with_reducible exact Below.refl _ _ | with_reducible refine below_drewT ?_ | with_reducible refine below_allocU ?_ _)); done)) (SerRow.next hr7 (by (repeat' (first | with_reducible exact hN9 | with_reducible exact Below.refl _ _ | with_reducible refine below_drewT ?_ | with_reducible refine below_allocU ?_ _)); done)) (Has.next (Has.of_own ho9) (by (repeat' (first | with_reducible exact Below.refl _ _ | with_reducible refine below_drewT ?_ | with_reducible refine below_allocU ?_ _)); done)) (SerRow.next hR9 (by (repeat' (first | with_reducible exact Below.refl _ _ | with_reducible refine below_drewT ?_ | with_reducible refine below_allocU ?_ _)); done))).mono ?_
                     rintro e9 w10 ⟨rfl, hb10⟩
                     have hB10 : Below wr.heap.size wr w10 := bnext (by (repeat' (first | with_reducible exact hB9 | with_reducible exact Below.refl _ _ | with_reducible refine below_drewT ?_ | with_reducible refine below_allocU ?_ _)); done) hb10)
                  | (have hz := hM8
                     go_at_call 12
                     refine (all_any _ g8 _ 0 _ okq.out kyq.out _ (StM.next hM8 (by (repeat' (first | with_reducible exact Below.refl _ _ | with_reducible refine below_drewT ?_ | with_reducible refine below_allocU ?_ _)); done))).mono ?_
                     rintro e9 w9 ⟨v9, rfl, A9, n9, c9, es9, rfl, hn9, ho9, hR9, hb9⟩
                     have hB9 : Below wr.heap.size wr w9 := bnext (by (repeat' (first | with_reducible exact hB8 | with_reducible exact Below.refl _ _ | with_reducible refine below_drewT ?_ | with_reducible refine below_allocU ?_ _)); done) hb9
                     have hN9 : Below w7.heap.size w7 w9 := bnext (by (repeat' (first | with_reducible exact hN8 | with_reducible exact Below.refl _ _ | with_reducible refine below_drewT ?_ | with_reducible refine below_allocU ?_ _)); done) hb9)
                  | (have hz := hr7
                     go_at_call 11
                     refine (HSd.out _ (by (repeat' (first | with_reducible exact hB7 | with_reducible exact Below.refl _ _ | with_reducible refine below_drewT ?_ | with_reducible refine below_allocU ?_ _)); done)).mono ?_
                     rintro e9 w8 ⟨v8, rfl, g8, rfl, hM8, hb8⟩
                     have hB8 : Below wr.heap.size wr w8 := bnext (by (repeat' (first | with_reducible exact hB7 | with_reducible exact Below.refl _ _ | with_reducible refine below_drewT ?_ | with_reducible refine below_allocU ?_ _)); done) hb8
                     have hN8 : Below w7.heap.size w7 w8 := bnext (by (repeat' (first | with_reducible exact Below.refl _ _ | with_reducible refine below_drewT ?_ | with_reducible refine below_allocU ?_ _)); done) hb8)
                  | (go_at_call 12
                     refine (all_any _ g _ _ _ ok0.out ky0.out _ (StM.next hMr.out (by (repeat' (first | with_reducible exact Below.refl _ _ | with_reducible refine below_drewT ?_ | with_reducible refine below_allocU ?_ _)); done))).mono ?_
                     rintro e9 w7 ⟨v7, rfl, A7, n7, c7, es7, rfl, hn7, ho7, hr7, hb7⟩
                     have hB7 : Below wr.heap.size wr w7 := bnext (by (repeat' (first | with_reducible exact Below.refl _ _ | with_reducible refine below_drewT ?_ | with_reducible refine below_allocU ?_ _)); done) hb7))
              all_goals
                have hbF := Lib.hid hB10
                clear hn7 ho7 hr7 hb7 hM8 hb8 hn9 ho9 hR9 hb9 hB7 hB8 hB9 hN8 hN9 hb10 hB10
                go_wp2_with fail
                go_roundw
                case rel => exact ⟨q', by have := Hq'.out; omega, by have := Hq'.out; omega, by (have := Hq'.out; subst this; go_num), Lib.hid (bnext hbq.out hbF.out)⟩
                case measure => (have := Hq'.out; first | (simp [intOf]; done) | (simp [intOf]; omega))
end Go.Proofs.YtdnlnkbnfiamiaaGreatDoor
