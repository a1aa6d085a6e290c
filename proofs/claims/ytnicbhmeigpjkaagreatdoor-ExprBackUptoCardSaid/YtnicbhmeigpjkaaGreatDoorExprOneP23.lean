/- Texts of the proof of ExprOne, joined (by merge.py). Conditions: each theorem's own hypotheses. -/
import Derived.Test.YtnicbhmeigpjkaaGreatDoorExprOneP5
import Derived.Test.YtnicbhmeigpjkaaGreatDoorExprOneP16
import Derived.Test.YtnicbhmeigpjkaaGreatDoorExprOneP17
import Derived.Test.YtnicbhmeigpjkaaGreatDoorExprOneP19
import Derived.Deep.RegionHeldLaw
namespace Go.Proofs.YtnicbhmeigpjkaaGreatDoor
open Go.RowKit

def RowsP (l : List RowN) (w : World) (v : Value) (w' : World) : Prop := ∃ A n c es, v = .slice A n c ∧ RowsAt w' w.heap.size A n c es l ∧ Below w.heap.size w w'
def sel1 (now : Int) (m : List Mt) (wd : Int) (s : List Lab × List Smp) : Option RowN :=
  if fitsL s.1 m = true then (rangeN s.2 (now - wd + 1) (now + 1)).getLast?.map fun x => (s.1, x.v) else none
theorem selN_take {all : List (List Lab × List Smp)} {now : Int} {m : List Mt} {wd : Int} {j : Nat} (h : j < all.length) : selN (all.take (j + 1)) now m wd = selN (all.take j) now m wd ++ (sel1 now m wd all[j]).toList := by
  unfold selN
  rw [List.take_add_one, List.getElem?_eq_getElem h, List.filterMap_append]
  congr 1
theorem sersX_at {l : List SerE} {j : Nat} (h : j < l.length) : (sersX l)[j]'(by rw [sersX_len]; exact h) = serX (at_ l j) := by
  unfold sersX
  rw [List.getElem_map, at_eq h]
theorem last_at {l : List Smp} {k : Nat} (h : l.length = k + 1) : l.getLast? = some (at_ l k) := by
  rw [List.getLast?_eq_getElem?, h, at_eq (by omega)]
  exact List.getElem?_eq_getElem _
theorem keep2E {w W : World} {g : Nat} {t : TypeId} {x y : Value} {a : Addr} {v : Value} (hk : Blk w g t #[x, y]) (hc : w.cell? a = some v) (hb : Below w.heap.size w W) : W.cell? ⟨g, 0, none⟩ = some x ∧ W.cell? a = some v :=
  ⟨(hk.next hb).cell 0, (hb.cell (World.block_lt_of_cell? w _ hc)).trans hc⟩
theorem keepG {w W W' : World} {g : Nat} {t : TypeId} {x y : Value} {a : Addr} {v : Value} {row : Option Nat} (hk : Blk w g t #[x, y]) (hc : w.cell? a = some v) (hb : Below w.heap.size w W) (hg : W.grownBy W' row) (h1 : some g ≠ row) (h2 : some a.block ≠ row) :
    W'.cell? ⟨g, 0, none⟩ = some x ∧ W'.cell? a = some v := by
  have ha := World.block_lt_of_cell? w _ hc
  exact ⟨((hk.next hb).grown hg h1).cell 0, (World.cell?_of_block (hg.block _ (Nat.lt_of_lt_of_le ha hb.size) h2)).trans ((hb.cell ha).trans hc)⟩
set_option maxRecDepth 1000000 in
set_option maxHeartbeats 8000000 in
theorem sel_any (SA : Option Addr) (sn sc : Nat) (ss : List SerE) (hn : ss.length = sn) (hsl : sn ≤ 200) (now : Int) (hnow : -1152921504606846976 ≤ now ∧ now ≤ 1152921504606846976) (e : ExE) (w : World) (hG : e.G w) (hwd : 1 ≤ e.w ∧ e.w ≤ 1099511627776)
    (hgood : ∀ s ∈ ss, s.good w) (hall : AllOk (sersX ss)) (h : Has w w.heap.size SA (sersC ss)) (tS : SgAt w) (hlen : LenAt w) :
    Calls Tryz.prog 54 #[.agg #[.slice SA sn sc, .int .i64 now], exV e] w (RV (RowsP (selN (sersX ss) now e.m e.w) w)) := by
  have ho := hG.own
  clear hG
  cases e with | mk k0 n0 w0 ma mc m ba bc b xa xc x =>
  have ml : m.length ≤ mc := ho.ml
  have hmc : mc ≤ maxLen := ho.mc
  have bl : b.length ≤ bc := ho.bl
  have hbc : bc ≤ maxLen := ho.bc
  have xl : x.length ≤ xc := ho.xl
  have hxc : xc ≤ maxLen := ho.xc
  have mh : Has w w.heap.size ma (mtCs m) := ho.mh
  have mok : ∀ y ∈ m, MtOk y := ho.ms
  unfold exV
  simp only [ExE.kind, ExE.n, ExE.w, ExE.ma, ExE.mc, ExE.m, ExE.ba, ExE.bc, ExE.b, ExE.xa, ExE.xc, ExE.x] at hwd ⊢
  obtain ⟨hw1, hw2⟩ := hwd
  obtain ⟨hnw1, hnw2⟩ := hnow
  obtain ⟨xn, hxn⟩ : ∃ n, x.length = n := ⟨_, rfl⟩
  obtain ⟨mn, hmn⟩ : ∃ n, m.length = n := ⟨_, rfl⟩
  obtain ⟨bn, hbn⟩ : ∃ n, b.length = n := ⟨_, rfl⟩
  rw [hxn] at xl ⊢
  rw [hmn] at ml ⊢
  rw [hbn] at bl ⊢
  obtain ⟨W1, hW1⟩ : ∃ W1, w.alloc (.cells #[.slice SA sn sc, .int .i64 now] 69) = W1 := ⟨_, rfl⟩
  obtain ⟨W0, hW0⟩ : ∃ W0, W1.alloc (.cells #[.int .i64 k0, .int .i64 n0, .int .i64 w0, .slice ma mn mc, .slice ba bn bc, .slice xa xn xc] 28) = W0 := ⟨_, rfl⟩
  obtain ⟨q, hq⟩ : ∃ q, w.heap.size = q := ⟨_, rfl⟩
  have hb1 : Below w.heap.size w W1 := by rw [← hW1]; exact one_allocB _ _
  have hb0' : Below W1.heap.size W1 W0 := by rw [← hW0]; exact one_allocB _ _
  have hb0 : Below w.heap.size w W0 := bnext hb1 hb0'
  have hq1 : W1.heap.size = q + 1 := by rw [← hW1, ← hq]; simp
  have ka : Blk W0 q 69 #[.slice SA sn sc, .int .i64 now] := Blk.next (by rw [← hW1]; exact Blk.newM _ _ _ _ hq) hb0'
  have kx : Blk W0 (q + 1) 28 #[.int .i64 k0, .int .i64 n0, .int .i64 w0, .slice ma mn mc, .slice ba bn bc, .slice xa xn xc] := by rw [← hW0]; exact Blk.newM _ _ _ _ hq1
  have a0 : W0.cell? ⟨q, 0, none⟩ = some (.slice SA sn sc) := ka.cell 0
  have hxl : (sersX ss).length = sn := by rw [sersX_len, hn]
  have HW1 := Lib.hid hW1
  have HW0 := Lib.hid hW0
  have Hq := Lib.hid hq
  have Hn := Lib.hid hn
  have Hxl := Lib.hid hxl
  have Hmn := Lib.hid hmn
  have hb0 := Lib.hid hb0
  have ka := Lib.hid ka
  have kx := Lib.hid kx
  have mh := Lib.hid mh
  have mok := Lib.hid mok
  have hgood := Lib.hid hgood
  have hall := Lib.hid hall
  have h := Lib.hid h
  have tS := Lib.hid tS
  have hlen := Lib.hid hlen
  have hmn1 : mn ≤ maxLen := by omega
  clear hn hxl hmn hbn hxn hW1 hW0 hq hq1 hb1 hb0' ho
  go_enter Tryz.func54, Tryz.ntmps54
  go_upto_region 1 with fail
  rw [HW1.out, HW0.out, Hq.out]
  go_wp2_with fail
  go_loopw [5, 15] (fun v i wr => ∃ (j n5 c5 : Nat) (A5 : Option Addr) (es5 : List RowE), j ≤ sn ∧ i = .int .i64 (j : Nat) ∧ v = .slice A5 n5 c5 ∧ n5 ≤ j ∧ Hid (RowsAt wr W0.heap.size A5 n5 c5 es5 (selN ((sersX ss).take j) now m w0)) ∧ Hid (Below W0.heap.size W0 wr)) (fun _ i _ => sn + 5 - (intOf i).toNat)
  case atStart => exact ⟨0, 0, 0, none, [], by omega, rfl, rfl, by omega, Lib.hid (by rw [List.take_zero]; exact RowsAt.nil _ _), Lib.hid (Below.refl _ _)⟩
  case round =>
    obtain ⟨j, n5, c5, A5, es5, hj, rfl, rfl, hn5, hR, hbr⟩ := hrel
    have hbwr := Lib.hid (bnext hb0.out hbr.out)
    by_cases hlt : (j : Int) < (sn : Int)
    · have hjl : j < ss.length := by rw [Hn.out]; omega
      have hmem : at_ ss j ∈ ss := at_mem hjl
      obtain ⟨ad, had, hadb, c0, c1⟩ := sersC_cells (h.out.next hbwr.out) hjl
      have hst := Lib.hid (selN_take (all := sersX ss) (now := now) (m := m) (wd := w0) (show j < (sersX ss).length by rw [sersX_len]; exact hjl))
      have hsx := sersX_at hjl
      have hgd := (hgood.out _ hmem).next hbwr.out
      have hmx : serX (at_ ss j) ∈ sersX ss := List.mem_map.2 ⟨_, hmem, rfl⟩
      have hchl := hall.out.lab _ hmx
      have hchs := hall.out.smp _ hmx
      rw [hsx] at hst
      obtain ⟨⟨⟨LA, lc, L⟩, TA, tc, T⟩, hp⟩ : ∃ p, at_ ss j = p := ⟨_, rfl⟩
      rw [hp] at c0 c1 hst hgd hchl hchs
      have hst : Hid (selN ((sersX ss).take (j + 1)) now m w0 = selN ((sersX ss).take j) now m w0 ++ (sel1 now m w0 (L, T)).toList) := hst
      have hchl : chkL L = 0 := hchl
      have hchs : chkS T = 0 := hchs
      obtain ⟨gl1, gl2, gl3, gl4, gl5⟩ := hgd.lab
      have gt := hgd.xs
      have gt2 := hgd.sl
      have gt3 := hgd.sc
      have gt5 := hgd.sh
      simp only [] at c0 c1 gl1 gl2 gl3 gl4 gl5 gt gt2 gt3 gt5
      obtain ⟨ln, hln⟩ : ∃ ln, L.length = ln := ⟨_, rfl⟩
      obtain ⟨tn, htn⟩ : ∃ tn, T.length = tn := ⟨_, rfl⟩
      rw [hln] at c0 gl2
      rw [htn] at c1 gt2
      have Hln := Lib.hid hln
      have q1 : (0 : Int) ≤ (j : Int) := by omega
      subst had
      have gl5 := Lib.hid gl5
      have gt5 := Lib.hid gt5
      have hchl := Lib.hid hchl
      have kar := ka.out.next hbr.out
      have kxr := kx.out.next hbr.out
      clear hp hln hjl hmem hsx hmx hgd
      go_upto_region 5 with fail
      obtain ⟨W6, hW6⟩ : ∃ W6, wr.alloc (.cells #[.slice LA ln lc, .slice TA tn tc] 50) = W6 := ⟨_, rfl⟩
      obtain ⟨q6, hq6⟩ : ∃ q6, wr.heap.size = q6 := ⟨_, rfl⟩
      have hb6 : Below wr.heap.size wr W6 := by rw [← hW6]; exact one_allocB _ _
      have k6 : Blk W6 q6 50 #[.slice LA ln lc, .slice TA tn tc] := by rw [← hW6]; exact Blk.newM _ _ _ _ hq6
      rw [hW6, hq6]
      have y0 : W6.cell? ⟨q6, 0, none⟩ = some (.slice LA ln lc) := k6.cell 0
      have y1 : W6.cell? ⟨q6, 1, none⟩ = some (.slice TA tn tc) := k6.cell 1
      have ka6 := kar.next hb6
      have kx6 := kxr.next hb6
      have z3 : W6.cell? ⟨q + 1, 3, none⟩ = some (.slice ma mn mc) := kx6.cell 3
      have hF := lfits_any LA ma ln mn lc mc L m Hln.out Hmn.out (by omega) hmn1 W6 (hlen.out.next (bnext hbwr.out hb6)) (gl5.out.next hb6) (mh.out.next (bnext hbwr.out hb6)) gl1 mok.out
      obtain ⟨fe, hfe⟩ : ∃ fe, fitsE L m = fe := ⟨_, rfl⟩
      obtain ⟨fb, hfb⟩ : ∃ fb, fitsL L m = fb := ⟨_, rfl⟩
      rw [hfe, hfb] at hF
      have Hfb := Lib.hid hfb
      have hF := Lib.hid hF
      have e1 : IntKind.i64.wrap (now - w0) = now - w0 := IntWalk.i64_in _ (by omega)
      have e2 : IntKind.i64.wrap (now - w0 + 1) = now - w0 + 1 := IntWalk.i64_in _ (by omega)
      have e3 : IntKind.i64.wrap (now + 1) = now + 1 := IntWalk.i64_in _ (by omega)
      have hRg := fun (w' : World) (hb : Below W6.heap.size W6 w') => range_any TA tc T (by rw [htn]; exact gt2) gt3 (now - w0 + 1) (now + 1) w' (gt5.out.next (bnext hb6 hb))
      rw [htn] at hRg
      unfold RangeP at hRg
      rw [hchs] at hRg
      obtain ⟨R, hRR⟩ : ∃ R, rangeN T (now - w0 + 1) (now + 1) = R := ⟨_, rfl⟩
      rw [hRR] at hRg
      obtain ⟨rn, hrn⟩ : ∃ rn, R.length = rn := ⟨_, rfl⟩
      rw [hrn] at hRg
      have hRg := Lib.hid hRg
      have hs1 : Hid (sel1 now m w0 (L, T) = if fb = true then (R.getLast?.map fun x => (L, x.v)) else none) := Lib.hid (by unfold sel1; simp only []; rw [hfb, hRR])
      have hRo : Hid (∀ x ∈ R, x.ok) := Lib.hid (fun x hx => gt x ((hRR ▸ range_sub T (now - w0 + 1) (now + 1)).subset hx))
      have hrl : rn ≤ tn := by have := (hRR ▸ range_sub T (now - w0 + 1) (now + 1) : R.Sublist T).length_le; omega
      have Hrn := Lib.hid hrn
      have hb6 := Lib.hid hb6
      have Hq6 := Lib.hid hq6
      have k6 := Lib.hid k6
      have ka6 := Lib.hid ka6
      have kx6 := Lib.hid kx6
      clear hfe hfb hRR hrn htn hchs gt kar kxr hW6 hq6 e1 e2 e3
      have e1 : IntKind.i64.wrap (now - w0) = now - w0 := IntWalk.i64_in _ (by omega)
      have e2 : IntKind.i64.wrap (now - w0 + 1) = now - w0 + 1 := IntWalk.i64_in _ (by omega)
      have e3 : IntKind.i64.wrap (now + 1) = now + 1 := IntWalk.i64_in _ (by omega)
      cases fb with
      | false =>
        go_wp2_with fail
        refine hF.out.mono ?_
        rintro e w7 ⟨rfl, hb7⟩
        have k7 := k6.out.next hb7
        have y1 : w7.cell? ⟨q6, 1, none⟩ = some (.slice TA tn tc) := k7.cell 1
        have a1 : w7.cell? ⟨q, 1, none⟩ = some (.int .i64 now) := (ka6.out.next hb7).cell 1
        have z2 : w7.cell? ⟨q + 1, 2, none⟩ = some (.int .i64 w0) := (kx6.out.next hb7).cell 2
        have hb67 := Lib.hid hb7
        clear k7 hb7
        go_wp2_with fail
        refine (hRg.out _ hb67.out).mono ?_
        rintro e w8 ⟨v, rfl, A8, c8, rfl, ho8, hb8⟩
        have hst0 : Hid (selN ((sersX ss).take (j + 1)) now m w0 = selN ((sersX ss).take j) now m w0) := Lib.hid (by rw [hst.out, hs1.out, if_neg (by decide)]; simp)
        have hbr8 := Lib.hid (bnext hb6.out (bnext hb67.out hb8))
        clear ho8 hb8
        go_wp2_with fail
        go_roundw
        case rel => exact ⟨j + 1, n5, c5, A5, es5, by omega, by go_num, rfl, by omega, Lib.hid (by rw [hst0.out]; exact hR.out.next hbr8.out), Lib.hid (bnext hbr.out hbr8.out)⟩
        case measure => simp [intOf]; omega
      | true =>
        rcases Nat.eq_zero_or_pos rn with hr0 | hr0
        · subst hr0
          have hR0 : R = [] := List.length_eq_zero_iff.1 Hrn.out
          have HR0 := Lib.hid hR0
          clear hR0
          go_wp2_with fail
          refine hF.out.mono ?_
          rintro e w7 ⟨rfl, hb7⟩
          have k7 := k6.out.next hb7
          have y1 : w7.cell? ⟨q6, 1, none⟩ = some (.slice TA tn tc) := k7.cell 1
          have a1 : w7.cell? ⟨q, 1, none⟩ = some (.int .i64 now) := (ka6.out.next hb7).cell 1
          have z2 : w7.cell? ⟨q + 1, 2, none⟩ = some (.int .i64 w0) := (kx6.out.next hb7).cell 2
          have hb67 := Lib.hid hb7
          clear k7 hb7
          go_wp2_with fail
          refine (hRg.out _ hb67.out).mono ?_
          rintro e w8 ⟨v, rfl, A8, c8, rfl, ho8, hb8⟩
          have hst0 : Hid (selN ((sersX ss).take (j + 1)) now m w0 = selN ((sersX ss).take j) now m w0) := Lib.hid (by rw [hst.out, hs1.out, HR0.out]; simp)
          have hbr8 := Lib.hid (bnext hb6.out (bnext hb67.out hb8))
          clear ho8 hb8
          go_wp2_with fail
          go_roundw
          case rel => exact ⟨j + 1, n5, c5, A5, es5, by omega, by go_num, rfl, by omega, Lib.hid (by rw [hst0.out]; exact hR.out.next hbr8.out), Lib.hid (bnext hbr.out hbr8.out)⟩
          case measure => simp [intOf]; omega
        · obtain ⟨k, hk⟩ : ∃ k, rn = k + 1 := ⟨rn - 1, by omega⟩
          have hlk : R.length = k + 1 := by rw [Hrn.out, hk]
          obtain ⟨xx, hxx⟩ : ∃ xx, at_ R k = xx := ⟨_, rfl⟩
          have hs2 : Hid (selN ((sersX ss).take (j + 1)) now m w0 = selN ((sersX ss).take j) now m w0 ++ [(L, xx.v)]) := Lib.hid (by rw [hst.out, hs1.out, last_at hlk, hxx]; simp)
          have hxo : in64 xx.v := (hRo.out xx (by rw [← hxx]; exact at_mem (by omega))).2
          have Hxx := Lib.hid hxx
          have Hlk := Lib.hid hlk
          have e4 : IntKind.i64.wrap ((rn : Int) - 1) = (k : Int) := by rw [IntWalk.i64_in _ (by unfold maxLen at *; omega)]; omega
          have k1 : (0 : Int) ≤ (k : Int) := by omega
          have k2 : (k : Int) < (rn : Int) := by omega
          have k3 : (0 : Int) < (rn : Int) := by omega
          have Hk := Lib.hid hk
          clear hk hlk hxx
          go_wp2_with fail
          refine hF.out.mono ?_
          rintro e w7 ⟨rfl, hb7⟩
          have k7 := k6.out.next hb7
          have y1 : w7.cell? ⟨q6, 1, none⟩ = some (.slice TA tn tc) := k7.cell 1
          have a1 : w7.cell? ⟨q, 1, none⟩ = some (.int .i64 now) := (ka6.out.next hb7).cell 1
          have z2 : w7.cell? ⟨q + 1, 2, none⟩ = some (.int .i64 w0) := (kx6.out.next hb7).cell 2
          have hb67 := Lib.hid hb7
          clear k7 hb7
          go_wp2_with fail
          refine (hRg.out _ hb67.out).mono ?_
          rintro e w8 ⟨v, rfl, A8, c8, rfl, ho8, hb8⟩
          have k8 := k6.out.next (bnext hb67.out hb8)
          obtain ⟨ad8, had8, _, cv⟩ := (Has.of_own (show w8.ownsRow w7.heap.size 98 2 (.slice A8 rn c8) rn (smpCs R) from ho8)).at (smpCs_v (show k < R.length by rw [Hlk.out]; omega))
          have cv := cell_off cv (by decide)
          rw [Hxx.out] at cv
          have hbo8 := own_blockZ ho8
          subst had8
          have hrow8 : w7.heap.size ≤ ad8.block := (hbo8 _ rfl).1
          have hbr8 := bnext hb6.out (bnext hb67.out hb8)
          have hR8 := hR.out.next hbr8
          have hrowA : ∀ z, (Value.slice A5 n5 c5).ownBlock = some z → z < wr.heap.size := fun z hz => (own_blockZ hR.out.own z hz).2
          have hne1 : Hid (some q6 ≠ (Value.slice A5 n5 c5).ownBlock) := Lib.hid (fun e => by have h1 := hrowA _ e.symm; have h2 := Hq6.out; omega)
          have hne2 : Hid (some (ad8.add (k * 2)).block ≠ (Value.slice A5 n5 c5).ownBlock) := Lib.hid (fun e => by have h1 := hrowA _ e.symm; rw [add_block] at h1; have h2 := hb6.out.size; have h3 := hb67.out.size; omega)
          have HRow := Lib.hid (fun (w' : World) (hb : Below w8.heap.size w8 w') => rowOf_any LA ln lc L Hln.out (fun e => by have := gl4 e; omega) hchl.out xx.v w' (gl5.out.next (bnext hbr8 hb)) (tS.out.next (bnext hbwr.out (bnext hbr8 hb))))
          unfold RowOfP at HRow
          rw [Hln.out] at HRow
          have hW0s := Lib.hid hbr.out.size
          clear hbo8 ho8
          go_upto_region 8 with fail
          go_region_held_law (fun w' => w'.cell? ⟨q6, 0, none⟩ = some (.slice LA ln lc) ∧ w'.cell? ⟨(ad8.add (k * 2)).block, (ad8.add (k * 2)).off + 1, none⟩ = some (.int .i64 xx.v))
            (first | exact kE | (refine keep2E k8 cv ?_; (repeat' (first | with_reducible exact hb9 | with_reducible exact Below.refl _ _ | with_reducible refine below_drewM ?_ | with_reducible refine below_allocM ?_ _))); done)
            (first
              | (have hz := hown9
                 apply step_append1 rfl (.tmp 48) (.tmp 59) 67 rfl elRow (v := .slice A5 n5 c5) (n := n5) (base := W0.heap.size) (xs := rowCs es5); (case hown => (repeat' (first | with_reducible exact hoR9 | with_reducible refine World.ownsRow.alloc ?_ _)); done); (case hs => rfl); (case hx => rfl); (case hb => exact heap_alloc_new _ _); (case hl => rfl); (case h1 => (intro u hu; simp at hu; rcases hu with rfl | rfl | rfl <;> rfl)); (case hmax => omega); (case h63 => (unfold maxLen; omega)); (case hbase => exact Nat.le_trans hW0s9 (one_allocB _ _).size)
                 intro A10 c10 w10 hown10 hgrow10 hbel10
                 have kE : w10.cell? ⟨q6, 0, none⟩ = some (.slice LA ln lc) ∧ w10.cell? ⟨(ad8.add (k * 2)).block, (ad8.add (k * 2)).off + 1, none⟩ = some (.int .i64 xx.v) := keepG k8 cv (bnext hb9 (one_allocB _ _)) hgrow10 hne1.out hne2.out)
              | (go_at_call 53
                 refine (HRow.out _ (by (repeat' (first | with_reducible exact Below.refl _ _ | with_reducible refine below_drewM ?_ | with_reducible refine below_allocM ?_ _)); done)).mono ?_
                 rintro e9 w9 ⟨u9, rfl, A9, c9, rfl, hown9, hb9'⟩
                 have hb9 : Below w8.heap.size w8 w9 := bnext (by (repeat' (first | with_reducible exact Below.refl _ _ | with_reducible refine below_drewM ?_ | with_reducible refine below_allocM ?_ _)); done) hb9'
                 have hoR9 : World.ownsRow w9 W0.heap.size 72 3 (.slice A5 n5 c5) n5 (rowCs es5) := own_next hR8.own hb9
                 have hW0s9 : W0.heap.size ≤ w9.heap.size := Nat.le_trans hW0s.out (Nat.le_trans hbr8.size hb9.size)))
          all_goals
            have hown10 := Lib.hid hown10
            have hgrow10 := Lib.hid hgrow10
            have hown9 := Lib.hid hown9
            have hbel := Lib.hid (hbr.out.trans (((bnext hbr8 (bnext hb9 (one_allocB _ (.cells #[.string (txK L), .slice A9 ln c9, .int .i64 xx.v] 72)))).mono hW0s.out).trans hbel10))
            have hb8s := Lib.hid (Nat.le_trans hW0s.out hbr8.size)
            clear kE hbel10 hoR9 hz hb9'
            go_wp2_with fail
            go_roundw
            case rel =>
              have hh := Hln.out
              subst hh
              refine ⟨j + 1, n5 + 1, c10, A10, es5 ++ [⟨A9, c9, (L, xx.v)⟩], by omega, by go_num, rfl, by omega, Lib.hid ?_, hbel⟩
              rw [hs2.out]
              refine hR.out.snoc (e := ⟨A9, c9, (L, xx.v)⟩) (bnext hbr8 (bnext hb9 (one_allocB _ _))) ?_ rfl hown10.out hgrow10.out
              exact own_next (own_less hown9.out hb8s.out) (one_allocB _ _)
            case measure => simp [intOf]; omega
    · obtain rfl : j = sn := by omega
      have hall2 : (sersX ss).take j = sersX ss := List.take_of_length_le (by rw [Hxl.out]; exact Nat.le_refl _)
      rw [hall2] at hR
      clear hall2
      go_wp2_with fail
      go_ret
      exact RV.mk ⟨A5, n5, c5, es5, rfl, hR.out.less hb0.out.size, hbwr.out⟩
end Go.Proofs.YtnicbhmeigpjkaaGreatDoor
