/- Texts of the proof of ExprOne, joined (by merge.py). Conditions: each theorem's own hypotheses. -/
import Derived.Test.YtnicbhmeigpjkaaGreatDoorExprOneP17
import Derived.Test.YtnicbhmeigpjkaaGreatDoorExprOneP21
import Derived.Test.YtnicbhmeigpjkaaGreatDoorExprOneP22
import Derived.Test.YtnicbhmeigpjkaaGreatDoorExprOneP23
import Derived.Deep.DeepCutAuto
import Derived.Lib.MinMax
namespace Go.Proofs.YtnicbhmeigpjkaaGreatDoor
open Go.RowKit

theorem keep9 {w W : World} {a0 a1 a2 a3 a4 a5 a6 a7 a8 : Addr} {v0 v1 v2 v3 v4 v5 v6 v7 v8 : Value} (h : w.cell? a0 = some v0 ∧ w.cell? a1 = some v1 ∧ w.cell? a2 = some v2 ∧ w.cell? a3 = some v3 ∧ w.cell? a4 = some v4 ∧ w.cell? a5 = some v5 ∧ w.cell? a6 = some v6 ∧ w.cell? a7 = some v7 ∧ w.cell? a8 = some v8) (hb : Below w.heap.size w W) :
    W.cell? a0 = some v0 ∧ W.cell? a1 = some v1 ∧ W.cell? a2 = some v2 ∧ W.cell? a3 = some v3 ∧ W.cell? a4 = some v4 ∧ W.cell? a5 = some v5 ∧ W.cell? a6 = some v6 ∧ W.cell? a7 = some v7 ∧ W.cell? a8 = some v8 := by
  have k : ∀ {a : Addr} {v : Value}, w.cell? a = some v → W.cell? a = some v := fun h => (hb.cell (World.block_lt_of_cell? w _ h)).trans h
  obtain ⟨h0, h1, h2, h3, h4, h5, h6, h7, h8⟩ := h
  exact ⟨k h0, k h1, k h2, k h3, k h4, k h5, k h6, k h7, k h8⟩
theorem RowsOk.take {l : List RowN} (h : RowsOk l) (j : Nat) : RowsOk (l.take j) :=
  ⟨fun r hr => h.ok r (List.mem_of_mem_take hr), fun r hr => h.num r (List.mem_of_mem_take hr), h.one.sublist ((List.take_sublist j l).map _)⟩
theorem rowCs_set2 (l : List RowE) (k : Nat) (v : Int) : (rowCs l).set (k * 3 + 2) (.int .i64 v) = rowCs (l.set k { at_ l k with r := ((at_ l k).r.1, v) }) := by
  induction l generalizing k with
  | nil => rfl
  | cons y l ih =>
    cases k with
    | zero => rfl
    | succ k =>
      rw [List.set_cons_succ]
      show (Value.string _ :: Value.slice _ _ _ :: Value.int _ _ :: rowCs l).set ((k + 1) * 3 + 2) _ = Value.string _ :: Value.slice _ _ _ :: Value.int _ _ :: rowCs (l.set k { at_ l k with r := ((at_ l k).r.1, v) })
      rw [← ih, show (k + 1) * 3 + 2 = k * 3 + 2 + 1 + 1 + 1 from by omega]
      rfl
theorem map_at {es : List RowE} {k : Nat} (h : k < es.length) : at_ (es.map (·.r)) k = (at_ es k).r := by
  rw [at_eq (by rw [List.length_map]; exact h), List.getElem_map, at_eq h]
/-- a row of the call's own has another number -/
theorem RowsAt.setV {w : World} {base g n c : Nat} {es : List RowE} {l : List RowN} (h : RowsAt w base (some ⟨g, 0, none⟩) n c es l) {k : Nat} (hk : k < n) (v : Int) :
    RowsAt (w.setCell ⟨g, k * 3 + 2, none⟩ (.int .i64 v)) base (some ⟨g, 0, none⟩) n c (es.set k { at_ es k with r := ((at_ es k).r.1, v) }) (l.set k ((at_ l k).1, v)) := by
  obtain ⟨h1, h2⟩ := h.own.stored (k * 3 + 2) (.int .i64 v)
  have hke : k < es.length := by rw [h.len]; exact hk
  refine ⟨by rw [List.length_set, h.len], ?_, by rw [← rowCs_set2]; exact h1, fun e he => ?_⟩
  · rw [List.map_set, h.map]
    congr 1
    rw [← h.map, map_at hke]
  · have hw : RowOwn w base e := by
      obtain ⟨i, hi, rfl⟩ := List.getElem_of_mem he
      rw [List.length_set] at hi
      rw [List.getElem_set]
      split
      · rename_i e1
        subst e1
        have := h.labs _ (at_mem hke)
        exact this
      · exact h.labs _ (List.getElem_mem hi)
    exact RowsAt.snoc.own_keepX hw h2 (RowsAt.snoc.own_apartX hw h.own (by decide))
/-- what lies at keys, told by labels -/
theorem keys_ne {es : List RowE} {l : List RowN} (hm : es.map (·.r) = l) (hl : RowsOk l) {L : List Lab} (hL : chkL L = 0) {k : Nat} (hk : k < es.length) : (keyE (at_ es k) = txK L ↔ (at_ l k).1 = L) := by
  subst hm
  rw [map_at hk]
  have hc := hl.ok _ (show (at_ es k).r ∈ es.map (·.r) from List.mem_map.2 ⟨_, at_mem hk, rfl⟩)
  exact ⟨fun e => txInj _ _ hc hL e, fun e => by unfold keyE; rw [e]⟩
set_option maxRecDepth 1000000 in
set_option maxHeartbeats 8000000 in
theorem xgroup_any (SA : Option Addr) (sn sc : Nat) (_hsn : sn ≤ sc) (_hsc : sc ≤ maxLen) (now : Int) (e : ExE) (w : World) (hG : e.G w) (y : ExE) (hxy : e.x = [y]) (hkind : e.kind = 3 ∨ e.kind = 4 ∨ e.kind = 5) (l : List RowN) (hl : RowsOk l) (hl2 : l.length ≤ 200) (tS : SgAt w)
    (HEv : ∀ W, Below w.heap.size w W → Calls Tryz.prog 29 #[.agg #[.slice SA sn sc, .int .i64 now], exV y] W (RV (RowsP l W))) :
    Calls Tryz.prog 51 #[.agg #[.slice SA sn sc, .int .i64 now], exV e] w (RV (RowsP (groupN e.kind e.b l) w)) := by
  have ho := hG.own
  have hyG := hG.sub y (by rw [hxy]; exact List.mem_cons_self)
  have hyo := hyG.own
  clear hG
  cases e with | mk k0 n0 w0 ma mc m ba bc b xa xc x =>
  have ml : m.length ≤ mc := ho.ml
  have hmc : mc ≤ maxLen := ho.mc
  have bl : b.length ≤ bc := ho.bl
  have hbc : bc ≤ maxLen := ho.bc
  have xl : x.length ≤ xc := ho.xl
  have hxc : xc ≤ maxLen := ho.xc
  have bh : Has w w.heap.size ba (strCs b) := ho.bh
  have xh : Has w w.heap.size xa (exCs x) := ho.xh
  have hxy : x = [y] := hxy
  subst hxy
  unfold exV at HEv ⊢
  simp only [ExE.kind, ExE.n, ExE.w, ExE.ma, ExE.mc, ExE.m, ExE.ba, ExE.bc, ExE.b, ExE.xa, ExE.xc, ExE.x, List.length_singleton] at hkind ⊢
  have xl : 1 ≤ xc := xl
  obtain ⟨mn, hmn⟩ : ∃ n, m.length = n := ⟨_, rfl⟩
  obtain ⟨bn, hbn⟩ : ∃ n, b.length = n := ⟨_, rfl⟩
  rw [hmn] at ml ⊢
  rw [hbn] at bl ⊢
  have y1 : y.m.length ≤ y.mc := hyo.ml
  have y2 : y.mc ≤ maxLen := hyo.mc
  have y3 : y.b.length ≤ y.bc := hyo.bl
  have y4 : y.bc ≤ maxLen := hyo.bc
  have y5 : y.x.length ≤ y.xc := hyo.xl
  have y6 : y.xc ≤ maxLen := hyo.xc
  obtain ⟨W1, hW1⟩ : ∃ W1, w.alloc (.cells #[.slice SA sn sc, .int .i64 now] 69) = W1 := ⟨_, rfl⟩
  obtain ⟨W0, hW0⟩ : ∃ W0, W1.alloc (.cells #[.int .i64 k0, .int .i64 n0, .int .i64 w0, .slice ma mn mc, .slice ba bn bc, .slice xa 1 xc] 28) = W0 := ⟨_, rfl⟩
  obtain ⟨q, hq⟩ : ∃ q, w.heap.size = q := ⟨_, rfl⟩
  have hb1 : Below w.heap.size w W1 := by rw [← hW1]; exact one_allocB _ _
  have hb0' : Below W1.heap.size W1 W0 := by rw [← hW0]; exact one_allocB _ _
  have hb0 : Below w.heap.size w W0 := bnext hb1 hb0'
  have hq1 : W1.heap.size = q + 1 := by rw [← hW1, ← hq]; simp
  have ka : Blk W0 q 69 #[.slice SA sn sc, .int .i64 now] := Blk.next (by rw [← hW1]; exact Blk.newM _ _ _ _ hq) hb0'
  have kx : Blk W0 (q + 1) 28 #[.int .i64 k0, .int .i64 n0, .int .i64 w0, .slice ma mn mc, .slice ba bn bc, .slice xa 1 xc] := by rw [← hW0]; exact Blk.newM _ _ _ _ hq1
  obtain ⟨ad, had, hadb, c0, c1, c2, c3, c4, c5⟩ := exCs_cells (xh.next hb0) (show 0 < [y].length by simp)
  have haty : at_ [y] 0 = y := rfl
  rw [haty] at c0 c1 c2 c3 c4 c5
  have hadd : ad.add (0 * 6) = ad := by rw [Nat.zero_mul]; unfold Addr.add; simp
  rw [hadd] at c0 c1 c2 c3 c4 c5
  subst had
  have hS0 : W0.cell? ⟨q, 0, none⟩ = some (.slice SA sn sc) ∧ W0.cell? ⟨q, 1, none⟩ = some (.int .i64 now) ∧ W0.cell? ⟨q + 1, 5, none⟩ = some (.slice (some ad) 1 xc) ∧ W0.cell? ad = some (.int .i64 y.kind) ∧ W0.cell? ⟨ad.block, ad.off + 1, none⟩ = some (.int .i64 y.n) ∧ W0.cell? ⟨ad.block, ad.off + 2, none⟩ = some (.int .i64 y.w) ∧ W0.cell? ⟨ad.block, ad.off + 3, none⟩ = some (.slice y.ma y.m.length y.mc) ∧ W0.cell? ⟨ad.block, ad.off + 4, none⟩ = some (.slice y.ba y.b.length y.bc) ∧ W0.cell? ⟨ad.block, ad.off + 5, none⟩ = some (.slice y.xa y.x.length y.xc) := ⟨ka.cell 0, ka.cell 1, kx.cell 5, c0, c1, c2, c3, c4, c5⟩
  have HW1 := Lib.hid hW1
  have HW0 := Lib.hid hW0
  have Hq := Lib.hid hq
  have Hbn := Lib.hid hbn
  have hb0 := Lib.hid hb0
  have kx := Lib.hid kx
  have bh := Lib.hid bh
  have hl := Lib.hid hl
  have tS := Lib.hid tS
  have HEv := Lib.hid (fun (W : World) (hb : Below W0.heap.size W0 W) => HEv W (bnext hb0.out hb))
  have hbn1 : bn ≤ maxLen := by omega
  clear hmn hbn hW1 hW0 hq hq1 hb1 hb0' ho hyo hyG ka hadd haty xh c0 c1 c2 c3 c4 c5
  go_enter Tryz.func51, Tryz.ntmps51
  go_upto_region 1 with fail
  rw [HW1.out, HW0.out, Hq.out]
  go_upto_region 2 with fail
  go_region_held_law (fun w' => w'.cell? ⟨q, 0, none⟩ = some (.slice SA sn sc) ∧ w'.cell? ⟨q, 1, none⟩ = some (.int .i64 now) ∧ w'.cell? ⟨q + 1, 5, none⟩ = some (.slice (some ad) 1 xc) ∧ w'.cell? ad = some (.int .i64 y.kind) ∧ w'.cell? ⟨ad.block, ad.off + 1, none⟩ = some (.int .i64 y.n) ∧ w'.cell? ⟨ad.block, ad.off + 2, none⟩ = some (.int .i64 y.w) ∧ w'.cell? ⟨ad.block, ad.off + 3, none⟩ = some (.slice y.ma y.m.length y.mc) ∧ w'.cell? ⟨ad.block, ad.off + 4, none⟩ = some (.slice y.ba y.b.length y.bc) ∧ w'.cell? ⟨ad.block, ad.off + 5, none⟩ = some (.slice y.xa y.x.length y.xc))
    (first | exact hS0 | (refine keep9 hS0 ?_; (repeat' (first | with_reducible exact hb2 | with_reducible exact Below.refl _ _ | with_reducible refine below_drewM ?_ | with_reducible refine below_allocM ?_ _))); done)
    (first
      | (go_at_call 29
         refine (HEv.out _ (by (repeat' (first | with_reducible exact Below.refl _ _ | with_reducible refine below_drewM ?_ | with_reducible refine below_allocM ?_ _)); done)).mono ?_
         rintro e9 w2 ⟨u2, rfl, A2, n2, c2, es2, rfl, hR2, hb2'⟩
         have hb2 : Below W0.heap.size W0 w2 := bnext (by (repeat' (first | with_reducible exact Below.refl _ _ | with_reducible refine below_drewM ?_ | with_reducible refine below_allocM ?_ _)); done) hb2'))
  all_goals
    have hR2 : Hid (RowsAt w2 W0.heap.size A2 n2 c2 es2 l) := Lib.hid hR2
    have hb2 := Lib.hid hb2
    have hn2 : n2 ≤ 200 := by rw [← hR2.out.lenN]; exact hl2
    clear hb2' hS0
    go_wp2_with fail
    go_loopw [5, 19] (fun s i wr => ∃ (j n5 c5 : Nat) (A5 : Option Addr) (es5 : List RowE), j ≤ n2 ∧ i = .int .i64 (j : Nat) ∧ s = .slice A5 n5 c5 ∧ n5 ≤ j ∧ Hid (RowsAt wr w2.heap.size A5 n5 c5 es5 (groupN k0 b (l.take j))) ∧ Hid (Below w2.heap.size w2 wr)) (fun _ i _ => n2 + 5 - (intOf i).toNat)
    case atStart => exact ⟨0, 0, 0, none, [], by omega, rfl, rfl, by omega, Lib.hid (by rw [List.take_zero]; exact RowsAt.nil _ _), Lib.hid (Below.refl _ _)⟩
    case round =>
      obtain ⟨j, n5, c5, A5, es5, hj, rfl, rfl, hn5, hR, hbr⟩ := hrel
      have hbwr := Lib.hid (bnext hb2.out hbr.out)
      have hb0r := Lib.hid (bnext hb0.out hbwr.out)
      by_cases hlt : (j : Int) < (n2 : Int)
      · have hje : j < es2.length := by rw [hR2.out.len]; omega
        have hjl : j < l.length := by rw [hR2.out.lenN]; omega
        have hR2r := hR2.out.next hbr.out
        obtain ⟨ad2, had2, _, d0, d1, d2⟩ := rowCs_cells (Has.of_own hR2r.own) hje
        have hlab := hR2r.labs _ (at_mem hje)
        have hat : at_ l j = (at_ es2 j).r := by rw [← hR2.out.map, map_at hje]
        have hgt := groupN_take (k := k0) (b := b) hjl
        have hlm := at_mem hjl
        rw [hat] at hgt hlm
        obtain ⟨⟨RA, rc, L, v⟩, hp⟩ : ∃ p, at_ es2 j = p := ⟨_, rfl⟩
        rw [hp] at d0 d1 d2 hlab hgt hlm
        simp only [] at d0 d1 d2 hlab hgt hlm
        have hchk : chkL L = 0 := hl.out.ok _ hlm
        have hv64 : in64 v := hl.out.num _ hlm
        have hl10 := (chkL_iff.1 hchk).1
        have hlab : wr.ownsRow W0.heap.size 78 2 (.slice RA L.length rc) L.length (labCs L) := hlab
        obtain ⟨ln, hln⟩ : ∃ ln, L.length = ln := ⟨_, rfl⟩
        rw [hln] at d1 hlab hl10
        obtain ⟨lc1, lc2⟩ := own_len hlab
        have hRAn : RA = none → ln = 0 ∧ rc = 0 := fun e => by subst e; exact own_nilM hlab
        have hGok : Hid (RowsOk (groupN k0 b (l.take j))) := Lib.hid ((RowsOk.take hl.out j).group k0 b)
        have hq0 : (0 : Int) ≤ (j : Int) := by omega
        have Hln := Lib.hid hln
        have Hgt := Lib.hid hgt
        have hchk := Lib.hid hchk
        have hlab := Lib.hid hlab
        subst had2
        clear hp hat hln hgt hlm hje hjl hR2r
        go_upto_region 5 with fail
        obtain ⟨W6, hW6⟩ : ∃ W6, wr.alloc (.cells #[.string (txK L), .slice RA ln rc, .int .i64 v] 72) = W6 := ⟨_, rfl⟩
        obtain ⟨q6, hq6⟩ : ∃ q6, wr.heap.size = q6 := ⟨_, rfl⟩
        have hb6 : Below wr.heap.size wr W6 := by rw [← hW6]; exact one_allocB _ _
        have k6 : Blk W6 q6 72 #[.string (txK L), .slice RA ln rc, .int .i64 v] := by rw [← hW6]; exact Blk.newM _ _ _ _ hq6
        rw [hW6, hq6]
        have z1 : W6.cell? ⟨q6, 1, none⟩ = some (.slice RA ln rc) := k6.cell 1
        have hCl := Lib.hid (cloneXLab_any RA ln rc (labCs L) (by rw [labCs_len, Hln.out]) (labCs_oneX L) hRAn (by omega) W6 ((Has.of_own hlab.out).next hb6))
        have hDel := Lib.hid (fun (w7 : World) (A7 : Option Addr) (c7 : Nat) (hown7 : w7.ownsRow W6.heap.size 78 2 (.slice A7 ln c7) ln (labCs L)) (hb7 : Below W6.heap.size W6 w7) => delFX_any L ln Hln.out W6.heap.size A7 c7 (fun x => !inB b x.nm) ⟨q + 1, 0, none⟩ (by omega) w7 hown7 hb7.size (Lib.hid (fun W x _ hg => by
          have hbW : Below W6.heap.size W6 W := hb7.trans (grown_below hown7 hg hb7.size)
          have hbx := bnext hbwr.out (bnext hb6 hbW)
          exact group1_any (q + 1) ba bn bc b Hbn.out hbn1 ⟨bl, hbc⟩ x W ((kx.out.next hbx).cell 4) (bh.out.next (bnext hb0.out hbx)))))
        have hb6 := Lib.hid hb6
        have Hq6 := Lib.hid hq6
        have k6 := Lib.hid k6
        clear hW6 hq6
        go_wp2_with fail
        refine hCl.out.mono ?_
        rintro e w7 ⟨u, rfl, A7, c7, rfl, ho7, hb7⟩
        have hD := Lib.hid (hDel.out w7 A7 c7 ho7 hb7)
        have hb7 := Lib.hid hb7
        clear ho7
        go_wp2_with fail
        refine hD.out.mono ?_
        rintro e w8 ⟨u, rfl, A8, n8, c8, rfl, hn8, ho8, hb8, _⟩
        have hM : (L.filter fun x => !(!inB b x.nm)) = labsBy b L := by unfold labsBy; congr 1; funext x; rw [Bool.not_not]
        rw [hM] at hn8 ho8
        have hchM := chkL_by hchk.out b
        have hM10 := (chkL_iff.1 hchM).1
        obtain ⟨M, hMM⟩ : ∃ M, labsBy b L = M := ⟨_, rfl⟩
        rw [hMM] at hn8 ho8 hchM hM10
        have Hgt2 : Hid (groupN k0 b (l.take (j + 1)) = addG k0 M (valG k0 v) (groupN k0 b (l.take j))) := Lib.hid (by rw [Hgt.out, hMM])
        have hb68 := Lib.hid (hb7.out.trans hb8)
        have k8 := k6.out.next hb68.out
        have kx8 := kx.out.next (bnext hbwr.out (bnext hb6.out hb68.out))
        have t2 : w8.cell? ⟨q6, 2, none⟩ = some (.int .i64 v) := k8.cell 2
        have t0 : w8.cell? ⟨q + 1, 0, none⟩ = some (.int .i64 k0) := kx8.cell 0
        rw [hn8] at hM10
        have hvg := valG_in (k := k0) hv64
        have hRw := Lib.hid (rowOf_any A8 n8 c8 M hn8 (fun e => by subst e; exact own_nilM ho8) hchM (valG k0 v) w8 (Has.of_own ho8) (tS.out.next (bnext hb0r.out (bnext hb6.out hb68.out))))
        have hchM := Lib.hid hchM
        have hn8 := Lib.hid hn8
        have kx8 := Lib.hid kx8
        clear hM hMM ho8 hb8 k8 z1
        have hv5 : valG k0 v = if (k0 == 5) = true then 1 else v := by
          unfold valG
          by_cases h5 : k0 = 5
          · rw [if_pos h5, if_pos (by rw [beq_iff_eq]; exact h5)]
          · rw [if_neg h5, if_neg (by rw [beq_iff_eq]; exact h5)]
        obtain ⟨b5, hb5⟩ : ∃ b5, (k0 == 5) = b5 := ⟨_, rfl⟩
        rw [hb5] at hv5
        have Hv5 := Lib.hid hv5
        clear hv5
        go_upto_if 34 with fail
        clear hb5
        go_cut [9] from 34 to 34 (fun s wx => s = .int .i64 (valG k0 v) ∧ wx = w8)
        case first =>
          cases b5
          · go_wp2_with fail
            go_meet
            case rel => exact ⟨by rw [Hv5.out]; simp, rfl⟩
          · go_wp2_with fail
            go_meet
            case rel => exact ⟨by rw [Hv5.out]; simp, rfl⟩
        case rest =>
          obtain ⟨rfl, rfl⟩ := hcut
          obtain ⟨vg, hvgE⟩ : ∃ vg, valG k0 v = vg := ⟨_, rfl⟩
          rw [hvgE] at hvg hRw Hgt2 ⊢
          clear t2 t0 hvgE
          go_wp2_with fail
          refine hRw.out.mono ?_
          rintro e w9 ⟨u, rfl, A9, c9, rfl, ho9, hb9⟩
          rw [hn8.out] at ho9 ⊢
          obtain ⟨l91, l92⟩ := own_len ho9
          have ho9 := Lib.hid ho9
          have hb69 := Lib.hid (bnext hb68.out hb9)
          have hb9 := Lib.hid hb9
          go_upto_region 10 with fail
          obtain ⟨W10, hW10⟩ : ∃ W10, w9.alloc (.cells #[.string (txK M), .slice A9 n8 c9, .int .i64 vg] 72) = W10 := ⟨_, rfl⟩
          obtain ⟨q10, hq10⟩ : ∃ q10, w9.heap.size = q10 := ⟨_, rfl⟩
          have hb10 : Below w9.heap.size w9 W10 := by rw [← hW10]; exact one_allocB _ _
          have k10 : Blk W10 q10 72 #[.string (txK M), .slice A9 n8 c9, .int .i64 vg] := by rw [← hW10]; exact Blk.newM _ _ _ _ hq10
          rw [hW10, hq10]
          have hbr10 := bnext hb6.out (bnext hb69.out hb10)
          have hR10 := hR.out.next hbr10
          have ho10 := own_next ho9.out hb10
          have hIx := Lib.hid (idxR_any es5 n5 hR.out.len A5 c5 q10 (txK M) (by unfold maxLen; omega) W10 (Has.of_own hR10.own) (fun e he => own_len (hR10.labs e he)) (k10.cell 0))
          have k10 := Lib.hid k10
          have hR10 := Lib.hid hR10
          have hbr10 := Lib.hid hbr10
          have ho10 := Lib.hid ho10
          have hb9x := Lib.hid (bnext hb9.out hb10)
          clear hW10 hq10 hb10
          go_wp2_with fail
          refine hIx.out.mono ?_
          rintro e w11 ⟨u, rfl, hP, hb11⟩
          have hR11 := hR10.out.next hb11
          have k11 := k10.out.next hb11
          have ho11 := own_next ho10.out hb11
          have hbr11 := Lib.hid (bnext hbr10.out hb11)
          have kx11 := kx8.out.next (bnext hb9x.out hb11)
          have hR11L := hR11.lenN
          have hes5 := hR11.len
          have hRm := hR11.map
          rcases hP with ⟨i, rfl, hi, hki, hqi⟩ | ⟨rfl, hqn⟩
          · have hin : i < n5 := by omega
            have hki' : (at_ (groupN k0 b (l.take j)) i).1 = M := (keys_ne hRm (hGok.out) hchM.out hi).1 hki
            have hqi' : ∀ q, q < i → (at_ (groupN k0 b (l.take j)) q).1 ≠ M := fun q hq e => hqi q hq ((keys_ne hRm (hGok.out) hchM.out (by omega)).2 e)
            have hG2 : Hid (groupN k0 b (l.take (j + 1)) = (groupN k0 b (l.take j)).set i ((at_ (groupN k0 b (l.take j)) i).1, opN k0 (at_ (groupN k0 b (l.take j)) i).2 vg)) := Lib.hid (by rw [Hgt2.out]; exact addG_at (by omega) hki' hqi')
            obtain ⟨g5, cap5, ev5, hg5, _⟩ := hR11.own.form (by omega)
            injection ev5 with e51 _ e53
            subst e51 e53
            obtain ⟨ad5, had5, _, s0, s1, s2⟩ := rowCs_cells (Has.of_own hR11.own) hi
            injection had5 with had5
            subst had5
            have hadd5 : (⟨g5, 0, none⟩ : Addr).add (i * 3) = ⟨g5, i * 3, none⟩ := by unfold Addr.add; split <;> simp_all <;> omega
            rw [hadd5] at s2
            replace s2 : w11.cell? ⟨g5, i * 3 + 1 + 1, none⟩ = some (.int .i64 (at_ es5 i).r.2) := s2
            have hat5 : (at_ es5 i).r = at_ (groupN k0 b (l.take j)) i := by rw [← hRm, map_at hi]
            rw [hat5] at s2
            obtain ⟨⟨uL, uv⟩, huu⟩ : ∃ u, at_ (groupN k0 b (l.take j)) i = u := ⟨_, rfl⟩
            rw [huu] at s2 hG2
            have hRs := fun (z : Int) => hR11.setV hin z
            rw [huu] at hRs
            have f5 : w11.frozen? ⟨g5, i * 3 + 1 + 1, none⟩ = false := hR11.own.frozenAt _
            have t0 : w11.cell? ⟨q + 1, 0, none⟩ = some (.int .i64 k0) := kx11.cell 0
            have hRs := Lib.hid hRs
            have hbs := Lib.hid (fun (z : Int) => (hbr.out.trans (hbr11.out.mono hbr.out.size)).setCell (p := ⟨g5, i * 3 + 2, none⟩) hg5 (.int .i64 z))
            have hi0 : (0 : Int) ≤ (i : Int) := by omega
            have hin' : (i : Int) < (n5 : Int) := by omega
            clear hqi hki hki' hqi' s0 s1 hadd5 hat5 huu hR11L hes5 hRm hR11 kx11 hi
            by_cases h4 : k0 = 4
            · have h4b : (k0 == 4) = true := by rw [beq_iff_eq]; exact h4
              have e4 : opN k0 uv vg = max uv vg := by unfold opN; rw [if_pos h4]
              have E4 := Lib.hid e4
              clear h4 e4 hkind
              go_wp2_with fail
              go_roundw
              case rel => exact ⟨j + 1, n5, c5, some ⟨g5, 0, none⟩, _, by omega, by go_num, rfl, by omega, Lib.hid (by rw [hG2.out]; simp only [E4.out]; exact hRs.out (max uv vg)), Lib.hid (hbs.out (max uv vg))⟩
              case measure => simp [intOf]; omega
            · have h4b : (k0 == 4) = false := by rw [beq_eq_false_iff_ne]; exact h4
              have e4 : opN k0 uv vg = w64 (uv + vg) := by unfold opN; rw [if_neg h4]
              have E4 := Lib.hid (e4.trans (IntWalk.i64_left _))
              clear h4 e4 hkind
              go_wp2_with fail
              go_roundw
              case rel => exact ⟨j + 1, n5, c5, some ⟨g5, 0, none⟩, _, by omega, by go_num, rfl, by omega, Lib.hid (by rw [hG2.out]; simp only [E4.out]; exact hRs.out (wrap64 (uv + vg))), Lib.hid (hbs.out (wrap64 (uv + vg)))⟩
              case measure => simp [intOf]; omega
          · have hnone : ∀ o ∈ groupN k0 b (l.take j), o.1 ≠ M := fun o hm e => by
              obtain ⟨p, hp, rfl⟩ := List.getElem_of_mem hm
              have hp' : p < es5.length := by omega
              exact hqn p hp' ((keys_ne hRm hGok.out hchM.out hp').2 (by rw [at_eq hp]; exact e))
            have s0 : w11.cell? ⟨q10, 0, none⟩ = some (.string (txK M)) := k11.cell 0
            have s1 : w11.cell? ⟨q10, 1, none⟩ = some (.slice A9 n8 c9) := k11.cell 1
            have s2 : w11.cell? ⟨q10, 2, none⟩ = some (.int .i64 vg) := k11.cell 2
            have hown11 := hR11.own
            have hsz11 : w2.heap.size ≤ w11.heap.size := Nat.le_trans hbr.out.size hbr11.out.size
            have hG2 : Hid (groupN k0 b (l.take (j + 1)) = groupN k0 b (l.take j) ++ [(M, vg)]) := Lib.hid (by rw [Hgt2.out, addG_none hnone])
            have hR11 := Lib.hid hR11
            have ho11 := Lib.hid ho11
            clear hnone hqn hRm hes5 hR11L kx11 k11
            go_wp2_with (at_builtin; refine wpList_append1 rfl _ _ _ rfl elRow rfl hown11 rfl rfl rfl ?_ ?k1 ?k2 ?k3 ?k4; intro A12 c12 w12 hown12 hgrow12 hbel12)
            case k1 => first | exact ⟨rfl, rfl, rfl⟩ | (intro u hu; simp at hu; rcases hu with rfl | rfl | rfl <;> rfl)
            case k2 => omega
            case k3 => unfold maxLen; omega
            case k4 => exact hsz11
            all_goals
              have hown12 := Lib.hid hown12
              have hgrow12 := Lib.hid hgrow12
              have hb12 := Lib.hid (hbr.out.trans ((hbr11.out.mono hbr.out.size).trans hbel12))
              clear hbel12 hown11 s0 s1 s2
              go_wp2_with fail
              go_roundw
              case rel =>
                have hh := hn8.out
                subst hh
                refine ⟨j + 1, n5 + 1, c12, A12, es5 ++ [⟨A9, c9, (M, vg)⟩], by omega, by go_num, rfl, by omega, Lib.hid ?_, hb12⟩
                rw [hG2.out]
                refine hR11.out.snoc (e := ⟨A9, c9, (M, vg)⟩) (Below.refl _ _) ?_ rfl hown12.out hgrow12.out
                exact own_less ho11.out (by have h1 := hbr.out.size; have h2 := hb6.out.size; have h3 := hb68.out.size; omega)
              case measure => simp [intOf]; omega
      · obtain rfl : j = n2 := by omega
        have hall : l.take j = l := List.take_of_length_le (by rw [hR2.out.lenN]; exact Nat.le_refl _)
        rw [hall] at hR
        clear hall
        go_wp2_with fail
        go_ret
        exact RV.mk ⟨A5, n5, c5, es5, rfl, hR.out.less (Nat.le_trans hb0.out.size hb2.out.size), hb0r.out⟩
end Go.Proofs.YtnicbhmeigpjkaaGreatDoor
namespace Go.Proofs.YtnicbhmeigpjkaaGreatDoor
open Go.RowKit

theorem keep15 {w W : World} {a0 a1 a2 a3 a4 a5 a6 a7 a8 a9 a10 a11 a12 a13 a14 : Addr} {v0 v1 v2 v3 v4 v5 v6 v7 v8 v9 v10 v11 v12 v13 v14 : Value} (h : w.cell? a0 = some v0 ∧ w.cell? a1 = some v1 ∧ w.cell? a2 = some v2 ∧ w.cell? a3 = some v3 ∧ w.cell? a4 = some v4 ∧ w.cell? a5 = some v5 ∧ w.cell? a6 = some v6 ∧ w.cell? a7 = some v7 ∧ w.cell? a8 = some v8 ∧ w.cell? a9 = some v9 ∧ w.cell? a10 = some v10 ∧ w.cell? a11 = some v11 ∧ w.cell? a12 = some v12 ∧ w.cell? a13 = some v13 ∧ w.cell? a14 = some v14) (hb : Below w.heap.size w W) :
    W.cell? a0 = some v0 ∧ W.cell? a1 = some v1 ∧ W.cell? a2 = some v2 ∧ W.cell? a3 = some v3 ∧ W.cell? a4 = some v4 ∧ W.cell? a5 = some v5 ∧ W.cell? a6 = some v6 ∧ W.cell? a7 = some v7 ∧ W.cell? a8 = some v8 ∧ W.cell? a9 = some v9 ∧ W.cell? a10 = some v10 ∧ W.cell? a11 = some v11 ∧ W.cell? a12 = some v12 ∧ W.cell? a13 = some v13 ∧ W.cell? a14 = some v14 := by
  have k : ∀ {a : Addr} {v : Value}, w.cell? a = some v → W.cell? a = some v := fun h => (hb.cell (World.block_lt_of_cell? w _ h)).trans h
  obtain ⟨h0, h1, h2, h3, h4, h5, h6, h7, h8, h9, h10, h11, h12, h13, h14⟩ := h
  exact ⟨k h0, k h1, k h2, k h3, k h4, k h5, k h6, k h7, k h8, k h9, k h10, k h11, k h12, k h13, k h14⟩
set_option maxRecDepth 100000 in
theorem single_any (A : Option Addr) (n c : Nat) (es : List RowE) (l : List RowN) (base : Nat) (hn200 : n ≤ 200) (w : World) (hR : RowsAt w base A n c es l) :
    Calls Tryz.prog 80 #[.slice A n c] w (R1 (.bool (singleN l)) (fun w' => w' = w)) := by
  by_cases h1 : n = 1
  · subst h1
    have hk : 0 < es.length := by rw [hR.len]; omega
    obtain ⟨ad, rfl, _, c0, c1, c2⟩ := rowCs_cells (Has.of_own hR.own) hk
    have hadd : ad.add (0 * 3) = ad := by rw [Nat.zero_mul]; unfold Addr.add; simp
    rw [hadd] at c1
    have hl1 : l.length = 1 := hR.lenN
    have hat : (at_ l 0).1 = (at_ es 0).r.1 := by rw [← hR.map, map_at hk]
    obtain ⟨l1, l2⟩ := own_len (hR.labs _ (at_mem hk))
    have hs : singleN l = decide ((at_ es 0).r.1.length = 0) := by
      unfold singleN
      rw [decide_eq_true hl1, Bool.true_and, hat]
      congr 1
      rw [List.length_eq_zero_iff]
    rw [hs]
    obtain ⟨m, hm⟩ : ∃ m, (at_ es 0).r.1.length = m := ⟨_, rfl⟩
    rw [hm] at c1 l1 ⊢
    have e0 : ((m : Int) == 0) = decide (m = 0) := by
      by_cases h : m = 0
      · subst h; rfl
      · rw [decide_eq_false h, beq_eq_false_iff_ne]; omega
    obtain ⟨b, hb⟩ : ∃ b, decide (m = 0) = b := ⟨_, rfl⟩
    rw [hb] at e0 ⊢
    clear hk hl1 hat hs hm hb hR c0 c2 hadd
    unfold maxLen at l2
    go_enter Tryz.func80, Tryz.ntmps80
    cases b
    · go_wp2_with fail
      go_ret
      exact R1.mk rfl rfl
    · go_wp2_with fail
      go_ret
      exact R1.mk rfl rfl
  · have hs : singleN l = false := by
      unfold singleN
      rw [decide_eq_false (by rw [hR.lenN]; exact h1), Bool.false_and]
    have e0 : ((n : Int) == 1) = false := by rw [beq_eq_false_iff_ne]; omega
    rw [hs]
    clear hR hs h1
    go_enter Tryz.func80, Tryz.ntmps80
    go_wp2_with fail
    go_ret
    exact R1.mk rfl rfl
theorem both_any (k a b : Int) (w : World) : Calls Tryz.prog 81 #[.int .i64 k, .int .i64 a, .int .i64 b] w (R1 (.int .i64 (bothN k a b)) (fun w' => w' = w)) := by
  by_cases h6 : k = 6
  · subst h6
    have e : bothN 6 a b = wrap64 (a + b) := by unfold bothN w64; rw [if_pos rfl, IntWalk.i64_left]
    rw [e]
    go_enter Tryz.func81, Tryz.ntmps81
    go_wp2_with fail
    go_ret
    exact R1.mk rfl rfl
  by_cases h7 : k = 7
  · subst h7
    have e : bothN 7 a b = wrap64 (a - b) := by unfold bothN w64; rw [if_neg (by decide), if_pos rfl, IntWalk.i64_left]
    rw [e]
    go_enter Tryz.func81, Tryz.ntmps81
    go_wp2_with fail
    go_ret
    exact R1.mk rfl rfl
  have e : bothN k a b = wrap64 (a * b) := by unfold bothN w64; rw [if_neg h6, if_neg h7, IntWalk.i64_left]
  rw [e]
  have b6 : (k == 6) = false := by rw [beq_eq_false_iff_ne]; exact h6
  have b7 : (k == 7) = false := by rw [beq_eq_false_iff_ne]; exact h7
  go_enter Tryz.func81, Tryz.ntmps81
  go_wp2_with fail
  go_ret
  exact R1.mk rfl rfl
/-- append of one value, told where the row lies behind it -/
theorem step_append1g {P : Program} {w : World} {ops : Array Oper} {o : Oper} {a : Act} {K : Act → World → Prop} {Q : Exit → Act → World → Prop} {F : Prop} (hgd : o.guard = none) (s x : Operand) (t : TypeId)
    (ho : o.op = .call { callee := .builtin .append, args := #[s, x], argTypes := #[t, t] })
    {base size bytes : Nat} {e : TypeId} (E : Elem P t e size bytes) {v : Value} {n : Nat} {xs : List Value} (hown : w.ownsRow base e size v n xs) (hs : a.eval s = v)
    {B c : Nat} (hx : a.eval x = .slice (some ⟨B, 0, none⟩) 1 c) {cs : Array Value} {e' : TypeId} {fr : Nat × Nat} (hb : w.heap[B]? = some (.cells cs e' fr)) (hl : cs.size = size)
    (h1 : ∀ u ∈ cs.toList, u.oneCell' = true) (hmax : (n + 1) * bytes ≤ 140737488355328) (h63 : n + 1 ≤ maxLen) (hbase : base ≤ w.heap.size)
    (h : ∀ g c' w', w'.ownsRow base e size (.slice (some ⟨g, 0, none⟩) (n + 1) c') (n + 1) (xs ++ cs.toList) → w.grownBy w' v.ownBlock → Below base w w' → (v.ownBlock = some g ∨ w.heap.size ≤ g) → K (a.put o.dst (.slice (some ⟨g, 0, none⟩) (n + 1) c')) w') :
    if Region.wanted o (yielded ops a.tmps) = true then Oper.wp P o a w K Q else F := by
  obtain ⟨ht, ⟨i, z, hi, hz, hsize, hby, hzs⟩, hsz⟩ := E
  exact step_append_lies (w := w) hgd s x t ho base e i z size bytes ht hi hz hsize hby hzs hsz v n xs hs hown ⟨B, 0, none⟩ 1 c cs.toList hx (by simpa using hl) (World.news_of_block hb) h1 (by omega) h63 hmax hbase w.heap.size rfl
    (fun g cap w' k1 k2 k3 _ => h _ _ _ k1 k2 (grown_below hown k2 hbase) (k3.imp id (fun e => Nat.le_of_eq e.symm)))
/-- what one row makes with another one -/
def pair1 (k : Int) (sm sl : Bool) (y z : RowN) : List RowN := if sm then [(y.1, bothN k y.2 z.2)] else if sl then [(z.1, bothN k y.2 z.2)] else if y.1 = z.1 then [(y.1, bothN k y.2 z.2)] else []
theorem pairR_one (k : Int) (l m : List RowN) (y : RowN) : pairR k l m y = m.flatMap (pair1 k (singleN m) (singleN l) y) := rfl
theorem flat_take {α β : Type} [Inhabited α] (f : α → List β) {l : List α} {j : Nat} (h : j < l.length) : (l.take (j + 1)).flatMap f = (l.take j).flatMap f ++ f (at_ l j) := by
  rw [List.take_add_one, List.getElem?_eq_getElem h, at_eq h, List.flatMap_append]
  simp
theorem keepP {w W : World} {g1 g2 g3 : Nat} {t1 t2 t3 : TypeId} {c1 c2 c3 : Array Value} (h1 : Blk w g1 t1 c1) (h2 : Blk w g2 t2 c2) (h3 : Blk w g3 t3 c3) (hb : Below w.heap.size w W) : Blk W g1 t1 c1 ∧ Blk W g2 t2 c2 ∧ Blk W g3 t3 c3 := ⟨h1.next hb, h2.next hb, h3.next hb⟩
theorem keepPG {w W W' : World} {g1 g2 g3 : Nat} {t1 t2 t3 : TypeId} {c1 c2 c3 : Array Value} {row : Option Nat} (h1 : Blk w g1 t1 c1) (h2 : Blk w g2 t2 c2) (h3 : Blk w g3 t3 c3) (hb : Below w.heap.size w W) (hg : W.grownBy W' row) (n1 : some g1 ≠ row) (n2 : some g2 ≠ row) (n3 : some g3 ≠ row) : Blk W' g1 t1 c1 ∧ Blk W' g2 t2 c2 ∧ Blk W' g3 t3 c3 :=
  ⟨(h1.next hb).grown hg n1, (h2.next hb).grown hg n2, (h3.next hb).grown hg n3⟩
theorem cells6 {w : World} {q9 q11 qx : Nat} {t1 t2 t3 : TypeId} {a0 a1 a2 b0 b1 b2 x0 x1 x2 x3 x4 x5 : Value} (h : Blk w q9 t1 #[a0, a1, a2] ∧ Blk w q11 t2 #[b0, b1, b2] ∧ Blk w qx t3 #[x0, x1, x2, x3, x4, x5]) :
    w.cell? ⟨q9, 1, none⟩ = some a1 ∧ w.cell? ⟨q9, 2, none⟩ = some a2 ∧ w.cell? ⟨q11, 1, none⟩ = some b1 ∧ w.cell? ⟨q11, 2, none⟩ = some b2 ∧ w.cell? ⟨qx, 0, none⟩ = some x0 := ⟨h.1.cell 1, h.1.cell 2, h.2.1.cell 1, h.2.1.cell 2, h.2.2.cell 0⟩
set_option maxRecDepth 1000000 in
set_option maxHeartbeats 16000000 in
theorem xpair_any (SA : Option Addr) (sn sc : Nat) (_hsn : sn ≤ sc) (_hsc : sc ≤ maxLen) (now : Int) (e : ExE) (w : World) (hG : e.G w) (y z : ExE) (hxy : e.x = [y, z]) (l m : List RowN) (hl : RowsOk l) (hl2 : l.length ≤ 200) (hm : RowsOk m) (hm2 : m.length ≤ 200) (tS : SgAt w)
    (HEy : ∀ W, Below w.heap.size w W → Calls Tryz.prog 29 #[.agg #[.slice SA sn sc, .int .i64 now], exV y] W (RV (RowsP l W)))
    (HEz : ∀ W, Below w.heap.size w W → Calls Tryz.prog 29 #[.agg #[.slice SA sn sc, .int .i64 now], exV z] W (RV (RowsP m W))) :
    Calls Tryz.prog 52 #[.agg #[.slice SA sn sc, .int .i64 now], exV e] w (RV (RowsP (pairN e.kind l m) w)) := by
  have ho := hG.own
  have hyG := hG.sub y (by rw [hxy]; simp)
  have hyo := hyG.own
  have hzo := (hG.sub z (by rw [hxy]; simp)).own
  clear hG
  cases e with | mk k0 n0 w0 ma mc ms ba bc b xa xc x =>
  have ml : ms.length ≤ mc := ho.ml
  have hmc : mc ≤ maxLen := ho.mc
  have bl : b.length ≤ bc := ho.bl
  have hbc : bc ≤ maxLen := ho.bc
  have xl : x.length ≤ xc := ho.xl
  have hxc : xc ≤ maxLen := ho.xc
  have xh : Has w w.heap.size xa (exCs x) := ho.xh
  have hxy : x = [y, z] := hxy
  subst hxy
  unfold exV at HEy HEz ⊢
  simp only [ExE.kind, ExE.n, ExE.w, ExE.ma, ExE.mc, ExE.m, ExE.ba, ExE.bc, ExE.b, ExE.xa, ExE.xc, ExE.x, List.length_cons, List.length_nil, Nat.zero_add, Nat.reduceAdd] at ⊢
  have xl : 2 ≤ xc := xl
  obtain ⟨mn, hmn⟩ : ∃ n, ms.length = n := ⟨_, rfl⟩
  obtain ⟨bn, hbn⟩ : ∃ n, b.length = n := ⟨_, rfl⟩
  rw [hmn] at ml ⊢
  rw [hbn] at bl ⊢
  have y1 : y.m.length ≤ y.mc := hyo.ml
  have y2 : y.mc ≤ maxLen := hyo.mc
  have y3 : y.b.length ≤ y.bc := hyo.bl
  have y4 : y.bc ≤ maxLen := hyo.bc
  have y5 : y.x.length ≤ y.xc := hyo.xl
  have y6 : y.xc ≤ maxLen := hyo.xc
  have z1 : z.m.length ≤ z.mc := hzo.ml
  have z2 : z.mc ≤ maxLen := hzo.mc
  have z3 : z.b.length ≤ z.bc := hzo.bl
  have z4 : z.bc ≤ maxLen := hzo.bc
  have z5 : z.x.length ≤ z.xc := hzo.xl
  have z6 : z.xc ≤ maxLen := hzo.xc
  obtain ⟨W1, hW1⟩ : ∃ W1, w.alloc (.cells #[.slice SA sn sc, .int .i64 now] 69) = W1 := ⟨_, rfl⟩
  obtain ⟨W0, hW0⟩ : ∃ W0, W1.alloc (.cells #[.int .i64 k0, .int .i64 n0, .int .i64 w0, .slice ma mn mc, .slice ba bn bc, .slice xa 2 xc] 28) = W0 := ⟨_, rfl⟩
  obtain ⟨q, hq⟩ : ∃ q, w.heap.size = q := ⟨_, rfl⟩
  have hb1 : Below w.heap.size w W1 := by rw [← hW1]; exact one_allocB _ _
  have hb0' : Below W1.heap.size W1 W0 := by rw [← hW0]; exact one_allocB _ _
  have hb0 : Below w.heap.size w W0 := bnext hb1 hb0'
  have hq1 : W1.heap.size = q + 1 := by rw [← hW1, ← hq]; simp
  have ka : Blk W0 q 69 #[.slice SA sn sc, .int .i64 now] := Blk.next (by rw [← hW1]; exact Blk.newM _ _ _ _ hq) hb0'
  have kx : Blk W0 (q + 1) 28 #[.int .i64 k0, .int .i64 n0, .int .i64 w0, .slice ma mn mc, .slice ba bn bc, .slice xa 2 xc] := by rw [← hW0]; exact Blk.newM _ _ _ _ hq1
  obtain ⟨ad, had, hadb, c0, c1, c2, c3, c4, c5⟩ := exCs_cells (xh.next hb0) (show 0 < [y, z].length by simp)
  have haty : at_ [y, z] 0 = y := rfl
  rw [haty] at c0 c1 c2 c3 c4 c5
  have hadd : ad.add (0 * 6) = ad := by rw [Nat.zero_mul]; unfold Addr.add; simp
  rw [hadd] at c0 c1 c2 c3 c4 c5
  obtain ⟨ad', had', _, d0, d1, d2, d3, d4, d5⟩ := exCs_cells (xh.next hb0) (show 1 < [y, z].length by simp)
  have hadz : ad = ad' := by rw [had] at had'; injection had'
  subst hadz
  have hatz : at_ [y, z] 1 = z := rfl
  have hadd6 : ad.add 6 = ⟨ad.block, ad.off + 6, none⟩ := by unfold Addr.add; rw [if_neg (by decide)]
  rw [hatz, Nat.one_mul, hadd6] at d0 d1 d2 d3 d4 d5
  subst had
  have hS0 : W0.cell? ⟨q, 0, none⟩ = some (.slice SA sn sc) ∧ W0.cell? ⟨q, 1, none⟩ = some (.int .i64 now) ∧ W0.cell? ⟨q + 1, 5, none⟩ = some (.slice (some ad) 2 xc) ∧ W0.cell? ad = some (.int .i64 y.kind) ∧ W0.cell? ⟨ad.block, ad.off + 1, none⟩ = some (.int .i64 y.n) ∧ W0.cell? ⟨ad.block, ad.off + 2, none⟩ = some (.int .i64 y.w) ∧ W0.cell? ⟨ad.block, ad.off + 3, none⟩ = some (.slice y.ma y.m.length y.mc) ∧ W0.cell? ⟨ad.block, ad.off + 4, none⟩ = some (.slice y.ba y.b.length y.bc) ∧ W0.cell? ⟨ad.block, ad.off + 5, none⟩ = some (.slice y.xa y.x.length y.xc) ∧ W0.cell? ⟨ad.block, ad.off + 6, none⟩ = some (.int .i64 z.kind) ∧ W0.cell? ⟨ad.block, ad.off + 6 + 1, none⟩ = some (.int .i64 z.n) ∧ W0.cell? ⟨ad.block, ad.off + 6 + 2, none⟩ = some (.int .i64 z.w) ∧ W0.cell? ⟨ad.block, ad.off + 6 + 3, none⟩ = some (.slice z.ma z.m.length z.mc) ∧ W0.cell? ⟨ad.block, ad.off + 6 + 4, none⟩ = some (.slice z.ba z.b.length z.bc) ∧ W0.cell? ⟨ad.block, ad.off + 6 + 5, none⟩ = some (.slice z.xa z.x.length z.xc) := ⟨ka.cell 0, ka.cell 1, kx.cell 5, c0, c1, c2, c3, c4, c5, d0, d1, d2, d3, d4, d5⟩
  have HW1 := Lib.hid hW1
  have HW0 := Lib.hid hW0
  have Hq := Lib.hid hq
  have hb0 := Lib.hid hb0
  have kx := Lib.hid kx
  have hl := Lib.hid hl
  have hm := Lib.hid hm
  have tS := Lib.hid tS
  have HEy := Lib.hid (fun (W : World) (hb : Below W0.heap.size W0 W) => HEy W (bnext hb0.out hb))
  have HEz := Lib.hid (fun (W : World) (hb : Below W0.heap.size W0 W) => HEz W (bnext hb0.out hb))
  clear hmn hbn hW1 hW0 hq hq1 hb1 hb0' ho hyo hzo hyG ka hadd hadd6 haty hatz had' hxy xh c0 c1 c2 c3 c4 c5 d0 d1 d2 d3 d4 d5
  go_enter Tryz.func52, Tryz.ntmps52
  go_upto_region 1 with fail
  rw [HW1.out, HW0.out, Hq.out]
  go_region_held_law (fun w' => w'.cell? ⟨q, 0, none⟩ = some (.slice SA sn sc) ∧ w'.cell? ⟨q, 1, none⟩ = some (.int .i64 now) ∧ w'.cell? ⟨q + 1, 5, none⟩ = some (.slice (some ad) 2 xc) ∧ w'.cell? ad = some (.int .i64 y.kind) ∧ w'.cell? ⟨ad.block, ad.off + 1, none⟩ = some (.int .i64 y.n) ∧ w'.cell? ⟨ad.block, ad.off + 2, none⟩ = some (.int .i64 y.w) ∧ w'.cell? ⟨ad.block, ad.off + 3, none⟩ = some (.slice y.ma y.m.length y.mc) ∧ w'.cell? ⟨ad.block, ad.off + 4, none⟩ = some (.slice y.ba y.b.length y.bc) ∧ w'.cell? ⟨ad.block, ad.off + 5, none⟩ = some (.slice y.xa y.x.length y.xc) ∧ w'.cell? ⟨ad.block, ad.off + 6, none⟩ = some (.int .i64 z.kind) ∧ w'.cell? ⟨ad.block, ad.off + 6 + 1, none⟩ = some (.int .i64 z.n) ∧ w'.cell? ⟨ad.block, ad.off + 6 + 2, none⟩ = some (.int .i64 z.w) ∧ w'.cell? ⟨ad.block, ad.off + 6 + 3, none⟩ = some (.slice z.ma z.m.length z.mc) ∧ w'.cell? ⟨ad.block, ad.off + 6 + 4, none⟩ = some (.slice z.ba z.b.length z.bc) ∧ w'.cell? ⟨ad.block, ad.off + 6 + 5, none⟩ = some (.slice z.xa z.x.length z.xc))
    (first | exact hS0 | (refine keep15 hS0 ?_; (repeat' (first | with_reducible exact hb3 | with_reducible exact hb2 | with_reducible exact Below.refl _ _ | with_reducible refine below_drewM ?_ | with_reducible refine below_allocM ?_ _))); done)
    (first
      | (have hz := hR2
         go_at_call 29
         refine (HEz.out _ (by (repeat' (first | with_reducible exact hb2 | with_reducible exact Below.refl _ _ | with_reducible refine below_drewM ?_ | with_reducible refine below_allocM ?_ _)); done)).mono ?_
         rintro e9 w3 ⟨u3, rfl, A3, n3, c3, es3, rfl, hR3, hb3'⟩
         have hb3 : Below W0.heap.size W0 w3 := bnext (by (repeat' (first | with_reducible exact hb2 | with_reducible exact Below.refl _ _ | with_reducible refine below_drewM ?_ | with_reducible refine below_allocM ?_ _)); done) hb3'
         have hb23 : Below w2.heap.size w2 w3 := bnext (by (repeat' (first | with_reducible exact Below.refl _ _ | with_reducible refine below_drewM ?_ | with_reducible refine below_allocM ?_ _)); done) hb3')
      | (go_at_call 29
         refine (HEy.out _ (by (repeat' (first | with_reducible exact Below.refl _ _ | with_reducible refine below_drewM ?_ | with_reducible refine below_allocM ?_ _)); done)).mono ?_
         rintro e9 w2 ⟨u2, rfl, A2, n2, c2, es2, rfl, hR2, hb2'⟩
         have hb2 : Below W0.heap.size W0 w2 := bnext (by (repeat' (first | with_reducible exact Below.refl _ _ | with_reducible refine below_drewM ?_ | with_reducible refine below_allocM ?_ _)); done) hb2'))
  all_goals
    have hRl : Hid (RowsAt w3 W0.heap.size A2 n2 c2 es2 l) := Lib.hid (RowsAt.next hR2 hb23)
    have hRm : Hid (RowsAt w3 W0.heap.size A3 n3 c3 es3 m) := Lib.hid (RowsAt.less hR3 hb2.size)
    have hb3 := Lib.hid hb3
    have hn2 : n2 ≤ 200 := by rw [← hRl.out.lenN]; exact hl2
    have hn3 : n3 ≤ 200 := by rw [← hRm.out.lenN]; exact hm2
    clear hb2' hb3' hb2 hb23 hS0 hR2 hR3
    obtain ⟨wB, hwB⟩ : ∃ wB, w3 = wB := ⟨_, rfl⟩
    rw [hwB] at hRl hRm hb3 ⊢
    clear hwB
    go_wp2_with fail
    go_loopw [7, 26] (fun s i wr => ∃ (i0 n7 c7 : Nat) (A7 : Option Addr) (es7 : List RowE), i0 ≤ n2 ∧ i = .int .i64 (i0 : Nat) ∧ s = .slice A7 n7 c7 ∧ n7 ≤ i0 * 200 ∧ Hid (RowsAt wr wB.heap.size A7 n7 c7 es7 ((l.take i0).flatMap (pairR k0 l m))) ∧ Hid (Below wB.heap.size wB wr)) (fun _ i _ => n2 + 5 - (intOf i).toNat)
    case atStart => exact ⟨0, 0, 0, none, [], by omega, rfl, rfl, by omega, Lib.hid (by rw [List.take_zero]; exact RowsAt.nil _ _), Lib.hid (Below.refl _ _)⟩
    case round =>
      obtain ⟨i0, n7, c7, A7, es7, hi0, rfl, rfl, hn7, hR, hbr⟩ := hrel
      obtain ⟨wo, rfl⟩ : ∃ wo : World, wo = wr := ⟨wr, rfl⟩
      have hbwr := Lib.hid (bnext hb3.out hbr.out)
      by_cases hlt : (i0 : Int) < (n2 : Int)
      · have hie : i0 < es2.length := by rw [hRl.out.len]; omega
        have hil : i0 < l.length := by rw [hRl.out.lenN]; omega
        have hRlr := hRl.out.next hbr.out
        obtain ⟨ad2, had2, _, d0, d1, d2⟩ := rowCs_cells (Has.of_own hRlr.own) hie
        have hylab := hRlr.labs _ (at_mem hie)
        have hylabB := hRl.out.labs _ (at_mem hie)
        have hat : at_ l i0 = (at_ es2 i0).r := by rw [← hRl.out.map, map_at hie]
        have hft := flat_take (pairR k0 l m) hil
        have hlm := at_mem hil
        rw [hat] at hft hlm
        obtain ⟨⟨YA, yc, yL, yv⟩, hp⟩ : ∃ p, at_ es2 i0 = p := ⟨_, rfl⟩
        rw [hp] at d0 d1 d2 hylab hylabB hft hlm
        simp only [] at d0 d1 d2 hylab hylabB hft hlm
        have hychk : chkL yL = 0 := hl.out.ok _ hlm
        have hylab : wo.ownsRow W0.heap.size 78 2 (.slice YA yL.length yc) yL.length (labCs yL) := hylab
        replace hylabB : wB.ownsRow W0.heap.size 78 2 (.slice YA yL.length yc) yL.length (labCs yL) := hylabB
        obtain ⟨yn, hyn⟩ : ∃ yn, yL.length = yn := ⟨_, rfl⟩
        rw [hyn] at d1 hylab hylabB
        obtain ⟨yc1, yc2⟩ := own_len hylab
        have hYAn : YA = none → yn = 0 ∧ yc = 0 := fun e => by subst e; exact own_nilM hylab
        have hq0 : (0 : Int) ≤ (i0 : Int) := by omega
        have Hyn := Lib.hid hyn
        have hft := Lib.hid hft
        have hychk := Lib.hid hychk
        have hylabB := Lib.hid hylabB
        have hYAn := Lib.hid hYAn
        subst had2
        clear hp hat hyn hlm hie hil hRlr hylab
        go_upto_region 6 with fail
        obtain ⟨W6, hW6⟩ : ∃ W6, wo.alloc (.cells #[.string (txK yL), .slice YA yn yc, .int .i64 yv] 72) = W6 := ⟨_, rfl⟩
        obtain ⟨q9, hq9⟩ : ∃ q9, wo.heap.size = q9 := ⟨_, rfl⟩
        have hb6 : Below wo.heap.size wo W6 := by rw [← hW6]; exact one_allocB _ _
        have k9 : Blk W6 q9 72 #[.string (txK yL), .slice YA yn yc, .int .i64 yv] := by rw [← hW6]; exact Blk.newM _ _ _ _ hq9
        rw [hW6, hq9]
        have hR6 : Hid (RowsAt W6 wB.heap.size A7 n7 c7 es7 ((l.take i0).flatMap (pairR k0 l m) ++ (m.take 0).flatMap (pair1 k0 (singleN m) (singleN l) (yL, yv)))) := Lib.hid (by rw [List.take_zero, List.flatMap_nil, List.append_nil]; exact hR.out.next hb6)
        have hrow9 : Hid (∀ r, (Value.slice A7 n7 c7).ownBlock = some r → r ≠ q9) := Lib.hid (fun r hr => by have := (own_blockZ hR.out.own r hr).2; omega)
        have hb06 := Lib.hid (bnext hbr.out hb6)
        have k9 := Lib.hid k9
        have Hq9 := Lib.hid hq9
        have hq9s : Hid (q9 < W6.heap.size) := Lib.hid k9.out.lt
        have hWr6 : Hid (wB.heap.size ≤ q9) := Lib.hid (by rw [← hq9]; exact hbr.out.size)
        clear hW6 hq9 hb6
        go_wp2_with fail
        have hbo0 : n7 ≤ i0 * 200 + 0 := by omega
        have Hi0 : Hid (i0 < n2) := Lib.hid (by omega)
        go_loopw [7, 32] (fun s jv wr => ∃ (j n7 c7 : Nat) (A7 : Option Addr) (es7 : List RowE), j ≤ n3 ∧ jv = .int .i64 (j : Nat) ∧ s = .slice A7 n7 c7 ∧ n7 ≤ i0 * 200 + j ∧ Hid (RowsAt wr wB.heap.size A7 n7 c7 es7 ((l.take i0).flatMap (pairR k0 l m) ++ (m.take j).flatMap (pair1 k0 (singleN m) (singleN l) (yL, yv)))) ∧ Hid (Below wB.heap.size wB wr ∧ Blk wr q9 72 #[.string (txK yL), .slice YA yn yc, .int .i64 yv] ∧ (∀ r, (Value.slice A7 n7 c7).ownBlock = some r → r ≠ q9))) (fun _ jv _ => n3 + 5 - (intOf jv).toNat)
        case atStart => exact ⟨0, n7, c7, A7, es7, by omega, rfl, rfl, hbo0, hR6, Lib.hid ⟨hb06.out, k9.out, hrow9.out⟩⟩
        case round =>
          obtain ⟨j, n7, c7, A7, es7, hj, rfl, rfl, hn7, hR, hX⟩ := hrel
          have hbrB := Lib.hid hX.out.1
          by_cases hltj : (j : Int) < (n3 : Int)
          · have hje : j < es3.length := by rw [hRm.out.len]; omega
            have hjl : j < m.length := by rw [hRm.out.lenN]; omega
            have hRmr := hRm.out.next hbrB.out
            obtain ⟨ad3, had3, _, d0, d1, d2⟩ := rowCs_cells (Has.of_own hRmr.own) hje
            have hzlab := hRmr.labs _ (at_mem hje)
            have hat : at_ m j = (at_ es3 j).r := by rw [← hRm.out.map, map_at hje]
            have hftj := flat_take (pair1 k0 (singleN m) (singleN l) (yL, yv)) hjl
            have hlm := at_mem hjl
            rw [hat] at hftj hlm
            obtain ⟨⟨ZA, zc, zL, zv⟩, hp⟩ : ∃ p, at_ es3 j = p := ⟨_, rfl⟩
            rw [hp] at d0 d1 d2 hzlab hftj hlm
            simp only [] at d0 d1 d2 hzlab hftj hlm
            have hzchk : chkL zL = 0 := hm.out.ok _ hlm
            have hzlab : wr.ownsRow W0.heap.size 78 2 (.slice ZA zL.length zc) zL.length (labCs zL) := hzlab
            obtain ⟨zn, hzn⟩ : ∃ zn, zL.length = zn := ⟨_, rfl⟩
            rw [hzn] at d1 hzlab
            obtain ⟨zc1, zc2⟩ := own_len hzlab
            have hZAn : ZA = none → zn = 0 ∧ zc = 0 := fun e => by subst e; exact own_nilM hzlab
            have hq0 : (0 : Int) ≤ (j : Int) := by omega
            have Hzn := Lib.hid hzn
            have hftj := Lib.hid hftj
            have hzchk := Lib.hid hzchk
            have hzlab := Lib.hid hzlab
            have hZAn := Lib.hid hZAn
            subst had3
            clear hp hat hzn hlm hje hjl hRmr
            go_upto_region 9 with fail
            obtain ⟨w11, hW11⟩ : ∃ W, wr.alloc (.cells #[.string (txK zL), .slice ZA zn zc, .int .i64 zv] 72) = W := ⟨_, rfl⟩
            obtain ⟨q11, hq11⟩ : ∃ q, wr.heap.size = q := ⟨_, rfl⟩
            have hb11i : Below wr.heap.size wr w11 := by rw [← hW11]; exact one_allocB _ _
            have k11 : Blk w11 q11 72 #[.string (txK zL), .slice ZA zn zc, .int .i64 zv] := by rw [← hW11]; exact Blk.newM _ _ _ _ hq11
            rw [hW11, hq11]
            have k9 := hX.out.2.1.next hb11i
            have hbB11 := bnext hbrB.out hb11i
            have kx11 := kx.out.next (bnext hb3.out hbB11)
            have hR11 := Lib.hid (hR.out.next hb11i)
            have hrowlt := fun r hr => (own_blockZ hR.out.own r hr).2
            have hne9 : Hid (some q9 ≠ (Value.slice A7 n7 c7).ownBlock) := Lib.hid (fun e => hX.out.2.2 q9 e.symm rfl)
            have hne11 : Hid (some q11 ≠ (Value.slice A7 n7 c7).ownBlock) := Lib.hid (fun e => by have := hrowlt q11 e.symm; omega)
            have hnex : Hid (some (q + 1) ≠ (Value.slice A7 n7 c7).ownBlock) := Lib.hid (fun e => by have h1 := (own_blockZ hR.out.own (q + 1) e.symm).1; have h2 := kx.out.lt; have h3 := hb3.out.size; omega)
            have hWsr : Hid (wB.heap.size ≤ wr.heap.size) := Lib.hid hbrB.out.size
            have hWs : Hid (wB.heap.size ≤ w11.heap.size) := Lib.hid hbB11.size
            have hSm := Lib.hid (fun (w' : World) (hb : Below w11.heap.size w11 w') => single_any (some ad3) n3 c3 es3 m W0.heap.size hn3 w' (hRm.out.next (bnext hbB11 hb)))
            have hSl := Lib.hid (fun (w' : World) (hb : Below w11.heap.size w11 w') => single_any (some ad2) n2 c2 es2 l W0.heap.size hn2 w' (hRl.out.next (bnext hbB11 hb)))
            have HBo := Lib.hid (fun (w' : World) => both_any k0 yv zv w')
            have HRy := fun (w' : World) (hb : Below w11.heap.size w11 w') (vv : Int) => rowOf_any YA yn yc yL Hyn.out hYAn.out hychk.out vv w' ((Has.of_own hylabB.out).next (bnext hbB11 hb)) (tS.out.next (bnext hb0.out (bnext hb3.out (bnext hbB11 hb))))
            have HRz := fun (w' : World) (hb : Below w11.heap.size w11 w') (vv : Int) => rowOf_any ZA zn zc zL Hzn.out hZAn.out hzchk.out vv w' ((Has.of_own hzlab.out).next (bnext hb11i hb)) (tS.out.next (bnext hb0.out (bnext hb3.out (bnext hbB11 hb))))
            unfold RowOfP at HRy HRz
            rw [Hyn.out] at HRy
            rw [Hzn.out] at HRz
            obtain ⟨vb, hvb⟩ : ∃ vb, bothN k0 yv zv = vb := ⟨_, rfl⟩
            rw [hvb] at HBo
            have HRy := Lib.hid (fun (w' : World) (hb : Below w11.heap.size w11 w') => HRy w' hb vb)
            have HRz := Lib.hid (fun (w' : World) (hb : Below w11.heap.size w11 w') => HRz w' hb vb)
            have Hvb := Lib.hid hvb
            have hb11i := Lib.hid hb11i
            have hbB11 := Lib.hid hbB11
            clear hvb hW11 hq11 hrowlt
            rcases Bool.eq_false_or_eq_true (singleN m) with hsm | hsm
            · have hp1 : pair1 k0 (singleN m) (singleN l) (yL, yv) (zL, zv) = [(yL, vb)] := by rw [hsm, ← Hvb.out]; rfl
              have hacc : Hid ((l.take i0).flatMap (pairR k0 l m) ++ (m.take (j + 1)).flatMap (pair1 k0 (singleN m) (singleN l) (yL, yv)) = ((l.take i0).flatMap (pairR k0 l m) ++ (m.take j).flatMap (pair1 k0 (singleN m) (singleN l) (yL, yv))) ++ [(yL, vb)]) := Lib.hid (by rw [hftj.out, hp1, List.append_assoc])
              have hS := hSm.out w11 (Below.refl _ _)
              rw [hsm] at hS
              have hS := Lib.hid hS
              have Hsm := Lib.hid hsm
              clear hsm hp1
              go_wp2_with fail
              refine hS.out.mono ?_
              rintro e w' ⟨rfl, hw⟩
              obtain rfl := hw.symm
              go_upto_region 10 with fail
              go_region_held_law (fun w' => w'.cell? ⟨q9, 1, none⟩ = some (.slice YA yn yc) ∧ w'.cell? ⟨q9, 2, none⟩ = some (.int .i64 yv) ∧ w'.cell? ⟨q11, 1, none⟩ = some (.slice ZA zn zc) ∧ w'.cell? ⟨q11, 2, none⟩ = some (.int .i64 zv) ∧ w'.cell? ⟨q + 1, 0, none⟩ = some (.int .i64 k0))
                (first | exact kE | (refine cells6 (keepP k9 k11 kx11 ?_); (repeat' (first | with_reducible exact hb13 | with_reducible exact Below.refl _ _ | with_reducible refine below_drewM ?_ | with_reducible refine below_allocM ?_ _))); done)
                (first
                  | (have hz := hown13
                     apply step_append1g rfl (.tmp 39) (.tmp 53) 67 rfl elRow (v := .slice A7 n7 c7) (n := n7) (base := wB.heap.size) (xs := rowCs es7); (case hown => (repeat' (first | with_reducible exact hoR13 | with_reducible refine World.ownsRow.alloc ?_ _)); done); (case hs => rfl); (case hx => rfl); (case hb => exact heap_alloc_new _ _); (case hl => rfl); (case h1 => (intro u hu; simp at hu; rcases hu with rfl | rfl | rfl <;> rfl)); (case hmax => omega); (case h63 => (unfold maxLen; omega)); (case hbase => exact Nat.le_trans hWs13 (one_allocB _ _).size)
                     intro g14 c14 w14 hown14 hgrow14 hbel14 hg14
                     have kB := keepPG k9 k11 kx11 (bnext hb13 (one_allocB _ _)) hgrow14 hne9.out hne11.out hnex.out
                     have kE := cells6 kB)
                  | (have hz := hbo
                     go_at_call 53
                     refine (HRy.out _ (by (repeat' (first | with_reducible exact Below.refl _ _ | with_reducible refine below_drewM ?_ | with_reducible refine below_allocM ?_ _)); done)).mono ?_
                     rintro e9 w13 ⟨u13, rfl, A13, c13, rfl, hown13, hb13'⟩
                     have hb13 : Below w11.heap.size w11 w13 := bnext (by (repeat' (first | with_reducible exact Below.refl _ _ | with_reducible refine below_drewM ?_ | with_reducible refine below_allocM ?_ _)); done) hb13'
                     have hoR13 : World.ownsRow w13 wB.heap.size 72 3 (.slice A7 n7 c7) n7 (rowCs es7) := own_next hR11.out.own hb13
                     have hWs13 : wB.heap.size ≤ w13.heap.size := Nat.le_trans hWs.out hb13.size)
                  | (go_at_call 81
                     refine (HBo.out _).mono ?_
                     rintro e9 w12 ⟨rfl, rfl⟩
                     have hbo : True := trivial))
              all_goals
                have hown14 := Lib.hid hown14
                have hgrow14 := Lib.hid hgrow14
                have hown13 := Lib.hid hown13
                have hb13 := Lib.hid hb13
                have hbel := Lib.hid (hbrB.out.trans (((bnext hb11i.out (bnext hb13.out (one_allocB _ (.cells #[.string (txK yL), .slice A13 yn c13, .int .i64 vb] 72)))).mono hWsr.out).trans hbel14))
                have hk14 := Lib.hid kB.1
                have hrow14 : Hid (∀ r, (Value.slice (some ⟨g14, 0, none⟩) (n7 + 1) c14).ownBlock = some r → r ≠ q9) := Lib.hid (fun r hr => by
                  have hr : g14 = r := Option.some.inj hr
                  rcases hg14 with h14 | h14
                  · exact fun e => hne9.out (by rw [h14, hr, e])
                  · have h1 := hb13.out.size
                    have h2 := k9.lt
                    have h3 := (one_allocB w13 (.cells #[.string (txK yL), .slice A13 yn c13, .int .i64 vb] 72)).size
                    have h4 : w13.heap.size ≤ g14 := Nat.le_trans h3 h14
                    omega)
                clear kE kB hbel14 hg14 hoR13 hz hb13' hWs13
                go_wp2_with fail
                go_roundw
                case rel =>
                  have hh := Hyn.out
                  subst hh
                  refine ⟨j + 1, n7 + 1, c14, some ⟨g14, 0, none⟩, es7 ++ [⟨A13, c13, (yL, vb)⟩], by omega, by go_num, rfl, by omega, Lib.hid ?_, Lib.hid ⟨hbel.out, hk14.out, hrow14.out⟩⟩
                  rw [hacc.out]
                  refine hR11.out.snoc (e := ⟨A13, c13, (yL, vb)⟩) (bnext hb13.out (one_allocB _ _)) ?_ rfl hown14.out hgrow14.out
                  exact own_next (own_less hown13.out hWs.out) (one_allocB _ _)
                case measure => simp [intOf]; omega
            · have hS := hSm.out w11 (Below.refl _ _)
              rw [hsm] at hS
              have hS := Lib.hid hS
              rcases Bool.eq_false_or_eq_true (singleN l) with hsl | hsl
              · have hp1 : pair1 k0 (singleN m) (singleN l) (yL, yv) (zL, zv) = [(zL, vb)] := by rw [hsm, hsl, ← Hvb.out]; rfl
                have hacc : Hid ((l.take i0).flatMap (pairR k0 l m) ++ (m.take (j + 1)).flatMap (pair1 k0 (singleN m) (singleN l) (yL, yv)) = ((l.take i0).flatMap (pairR k0 l m) ++ (m.take j).flatMap (pair1 k0 (singleN m) (singleN l) (yL, yv))) ++ [(zL, vb)]) := Lib.hid (by rw [hftj.out, hp1, List.append_assoc])
                have hS2 := hSl.out w11 (Below.refl _ _)
                rw [hsl] at hS2
                have hS2 := Lib.hid hS2
                clear hsm hsl hp1
                go_wp2_with fail
                refine hS.out.mono ?_
                rintro e w' ⟨rfl, hw⟩
                obtain rfl := hw.symm
                go_wp2_with fail
                refine hS2.out.mono ?_
                rintro e w' ⟨rfl, hw⟩
                obtain rfl := hw.symm
                go_upto_region 12 with fail
                go_region_held_law (fun w' => w'.cell? ⟨q9, 1, none⟩ = some (.slice YA yn yc) ∧ w'.cell? ⟨q9, 2, none⟩ = some (.int .i64 yv) ∧ w'.cell? ⟨q11, 1, none⟩ = some (.slice ZA zn zc) ∧ w'.cell? ⟨q11, 2, none⟩ = some (.int .i64 zv) ∧ w'.cell? ⟨q + 1, 0, none⟩ = some (.int .i64 k0))
                  (first | exact kE | (refine cells6 (keepP k9 k11 kx11 ?_); (repeat' (first | with_reducible exact hb13 | with_reducible exact Below.refl _ _ | with_reducible refine below_drewM ?_ | with_reducible refine below_allocM ?_ _))); done)
                  (first
                    | (have hz := hown13
                       apply step_append1g rfl (.tmp 58) (.tmp 72) 67 rfl elRow (v := .slice A7 n7 c7) (n := n7) (base := wB.heap.size) (xs := rowCs es7); (case hown => (repeat' (first | with_reducible exact hoR13 | with_reducible refine World.ownsRow.alloc ?_ _)); done); (case hs => rfl); (case hx => rfl); (case hb => exact heap_alloc_new _ _); (case hl => rfl); (case h1 => (intro u hu; simp at hu; rcases hu with rfl | rfl | rfl <;> rfl)); (case hmax => omega); (case h63 => (unfold maxLen; omega)); (case hbase => exact Nat.le_trans hWs13 (one_allocB _ _).size)
                       intro g14 c14 w14 hown14 hgrow14 hbel14 hg14
                       have kB := keepPG k9 k11 kx11 (bnext hb13 (one_allocB _ _)) hgrow14 hne9.out hne11.out hnex.out
                       have kE := cells6 kB)
                    | (have hz := hbo
                       go_at_call 53
                       refine (HRz.out _ (by (repeat' (first | with_reducible exact Below.refl _ _ | with_reducible refine below_drewM ?_ | with_reducible refine below_allocM ?_ _)); done)).mono ?_
                       rintro e9 w13 ⟨u13, rfl, A13, c13, rfl, hown13, hb13'⟩
                       have hb13 : Below w11.heap.size w11 w13 := bnext (by (repeat' (first | with_reducible exact Below.refl _ _ | with_reducible refine below_drewM ?_ | with_reducible refine below_allocM ?_ _)); done) hb13'
                       have hoR13 : World.ownsRow w13 wB.heap.size 72 3 (.slice A7 n7 c7) n7 (rowCs es7) := own_next hR11.out.own hb13
                       have hWs13 : wB.heap.size ≤ w13.heap.size := Nat.le_trans hWs.out hb13.size)
                    | (go_at_call 81
                       refine (HBo.out _).mono ?_
                       rintro e9 w12 ⟨rfl, rfl⟩
                       have hbo : True := trivial))
                all_goals
                  have hown14 := Lib.hid hown14
                  have hgrow14 := Lib.hid hgrow14
                  have hown13 := Lib.hid hown13
                  have hb13 := Lib.hid hb13
                  have hbel := Lib.hid (hbrB.out.trans (((bnext hb11i.out (bnext hb13.out (one_allocB _ (.cells #[.string (txK zL), .slice A13 zn c13, .int .i64 vb] 72)))).mono hWsr.out).trans hbel14))
                  have hk14 := Lib.hid kB.1
                  have hrow14 : Hid (∀ r, (Value.slice (some ⟨g14, 0, none⟩) (n7 + 1) c14).ownBlock = some r → r ≠ q9) := Lib.hid (fun r hr => by
                    have hr : g14 = r := Option.some.inj hr
                    rcases hg14 with h14 | h14
                    · exact fun e => hne9.out (by rw [h14, hr, e])
                    · have h1 := hb13.out.size
                      have h2 := k9.lt
                      have h3 := (one_allocB w13 (.cells #[.string (txK zL), .slice A13 zn c13, .int .i64 vb] 72)).size
                      have h4 : w13.heap.size ≤ g14 := Nat.le_trans h3 h14
                      omega)
                  clear kE kB hbel14 hg14 hoR13 hz hb13' hWs13
                  go_wp2_with fail
                  go_roundw
                  case rel =>
                    have hh := Hzn.out
                    subst hh
                    refine ⟨j + 1, n7 + 1, c14, some ⟨g14, 0, none⟩, es7 ++ [⟨A13, c13, (zL, vb)⟩], by omega, by go_num, rfl, by omega, Lib.hid ?_, Lib.hid ⟨hbel.out, hk14.out, hrow14.out⟩⟩
                    rw [hacc.out]
                    refine hR11.out.snoc (e := ⟨A13, c13, (zL, vb)⟩) (bnext hb13.out (one_allocB _ _)) ?_ rfl hown14.out hgrow14.out
                    exact own_next (own_less hown13.out hWs.out) (one_allocB _ _)
                  case measure => simp [intOf]; omega
              · have hS2 := hSl.out w11 (Below.refl _ _)
                rw [hsl] at hS2
                have hS2 := Lib.hid hS2
                have y0 : w11.cell? ⟨q9, 0, none⟩ = some (.string (txK yL)) := k9.cell 0
                have z0 : w11.cell? ⟨q11, 0, none⟩ = some (.string (txK zL)) := k11.cell 0
                by_cases hkk : yL = zL
                · have hp1 : pair1 k0 (singleN m) (singleN l) (yL, yv) (zL, zv) = [(yL, vb)] := by rw [hsm, hsl, ← Hvb.out]; unfold pair1; simp [hkk]
                  have hacc : Hid ((l.take i0).flatMap (pairR k0 l m) ++ (m.take (j + 1)).flatMap (pair1 k0 (singleN m) (singleN l) (yL, yv)) = ((l.take i0).flatMap (pairR k0 l m) ++ (m.take j).flatMap (pair1 k0 (singleN m) (singleN l) (yL, yv))) ++ [(yL, vb)]) := Lib.hid (by rw [hftj.out, hp1, List.append_assoc])
                  have hbq : ((txK yL).toList == (txK zL).toList) = true := by rw [beq_iff_eq, hkk]
                  clear hsm hsl hp1 hkk
                  go_wp2_with fail
                  refine hS.out.mono ?_
                  rintro e w' ⟨rfl, hw⟩
                  obtain rfl := hw.symm
                  go_wp2_with fail
                  refine hS2.out.mono ?_
                  rintro e w' ⟨rfl, hw⟩
                  obtain rfl := hw.symm
                  go_wp2_with fail
                  go_upto_region 14 with fail
                  go_region_held_law (fun w' => w'.cell? ⟨q9, 1, none⟩ = some (.slice YA yn yc) ∧ w'.cell? ⟨q9, 2, none⟩ = some (.int .i64 yv) ∧ w'.cell? ⟨q11, 1, none⟩ = some (.slice ZA zn zc) ∧ w'.cell? ⟨q11, 2, none⟩ = some (.int .i64 zv) ∧ w'.cell? ⟨q + 1, 0, none⟩ = some (.int .i64 k0))
                    (first | exact kE | (refine cells6 (keepP k9 k11 kx11 ?_); (repeat' (first | with_reducible exact hb13 | with_reducible exact Below.refl _ _ | with_reducible refine below_drewM ?_ | with_reducible refine below_allocM ?_ _))); done)
                    (first
                      | (have hz := hown13
                         apply step_append1g rfl (.tmp 80) (.tmp 94) 67 rfl elRow (v := .slice A7 n7 c7) (n := n7) (base := wB.heap.size) (xs := rowCs es7); (case hown => (repeat' (first | with_reducible exact hoR13 | with_reducible refine World.ownsRow.alloc ?_ _)); done); (case hs => rfl); (case hx => rfl); (case hb => exact heap_alloc_new _ _); (case hl => rfl); (case h1 => (intro u hu; simp at hu; rcases hu with rfl | rfl | rfl <;> rfl)); (case hmax => omega); (case h63 => (unfold maxLen; omega)); (case hbase => exact Nat.le_trans hWs13 (one_allocB _ _).size)
                         intro g14 c14 w14 hown14 hgrow14 hbel14 hg14
                         have kB := keepPG k9 k11 kx11 (bnext hb13 (one_allocB _ _)) hgrow14 hne9.out hne11.out hnex.out
                         have kE := cells6 kB)
                      | (have hz := hbo
                         go_at_call 53
                         refine (HRy.out _ (by (repeat' (first | with_reducible exact Below.refl _ _ | with_reducible refine below_drewM ?_ | with_reducible refine below_allocM ?_ _)); done)).mono ?_
                         rintro e9 w13 ⟨u13, rfl, A13, c13, rfl, hown13, hb13'⟩
                         have hb13 : Below w11.heap.size w11 w13 := bnext (by (repeat' (first | with_reducible exact Below.refl _ _ | with_reducible refine below_drewM ?_ | with_reducible refine below_allocM ?_ _)); done) hb13'
                         have hoR13 : World.ownsRow w13 wB.heap.size 72 3 (.slice A7 n7 c7) n7 (rowCs es7) := own_next hR11.out.own hb13
                         have hWs13 : wB.heap.size ≤ w13.heap.size := Nat.le_trans hWs.out hb13.size)
                      | (go_at_call 81
                         refine (HBo.out _).mono ?_
                         rintro e9 w12 ⟨rfl, rfl⟩
                         have hbo : True := trivial))
                  all_goals
                    have hown14 := Lib.hid hown14
                    have hgrow14 := Lib.hid hgrow14
                    have hown13 := Lib.hid hown13
                    have hb13 := Lib.hid hb13
                    have hbel := Lib.hid (hbrB.out.trans (((bnext hb11i.out (bnext hb13.out (one_allocB _ (.cells #[.string (txK yL), .slice A13 yn c13, .int .i64 vb] 72)))).mono hWsr.out).trans hbel14))
                    have hk14 := Lib.hid kB.1
                    have hrow14 : Hid (∀ r, (Value.slice (some ⟨g14, 0, none⟩) (n7 + 1) c14).ownBlock = some r → r ≠ q9) := Lib.hid (fun r hr => by
                      have hr : g14 = r := Option.some.inj hr
                      rcases hg14 with h14 | h14
                      · exact fun e => hne9.out (by rw [h14, hr, e])
                      · have h1 := hb13.out.size
                        have h2 := k9.lt
                        have h3 := (one_allocB w13 (.cells #[.string (txK yL), .slice A13 yn c13, .int .i64 vb] 72)).size
                        have h4 : w13.heap.size ≤ g14 := Nat.le_trans h3 h14
                        omega)
                    clear kE kB hbel14 hg14 hoR13 hz hb13' hWs13
                    go_wp2_with fail
                    go_roundw
                    case rel =>
                      have hh := Hyn.out
                      subst hh
                      refine ⟨j + 1, n7 + 1, c14, some ⟨g14, 0, none⟩, es7 ++ [⟨A13, c13, (yL, vb)⟩], by omega, by go_num, rfl, by omega, Lib.hid ?_, Lib.hid ⟨hbel.out, hk14.out, hrow14.out⟩⟩
                      rw [hacc.out]
                      refine hR11.out.snoc (e := ⟨A13, c13, (yL, vb)⟩) (bnext hb13.out (one_allocB _ _)) ?_ rfl hown14.out hgrow14.out
                      exact own_next (own_less hown13.out hWs.out) (one_allocB _ _)
                    case measure => simp [intOf]; omega
                · have hp1 : pair1 k0 (singleN m) (singleN l) (yL, yv) (zL, zv) = [] := by rw [hsm, hsl]; unfold pair1; simp [hkk]
                  have hacc : Hid ((l.take i0).flatMap (pairR k0 l m) ++ (m.take (j + 1)).flatMap (pair1 k0 (singleN m) (singleN l) (yL, yv)) = (l.take i0).flatMap (pairR k0 l m) ++ (m.take j).flatMap (pair1 k0 (singleN m) (singleN l) (yL, yv))) := Lib.hid (by rw [hftj.out, hp1, List.append_nil])
                  have hbq : ((txK yL).toList == (txK zL).toList) = false := by rw [beq_eq_false_iff_ne]; exact fun e => hkk (txInj _ _ hychk.out hzchk.out (bytes_extX e))
                  have hk14 := Lib.hid k9
                  clear hsm hsl hp1 hkk
                  go_wp2_with fail
                  refine hS.out.mono ?_
                  rintro e w' ⟨rfl, hw⟩
                  obtain rfl := hw.symm
                  go_wp2_with fail
                  refine hS2.out.mono ?_
                  rintro e w' ⟨rfl, hw⟩
                  obtain rfl := hw.symm
                  go_wp2_with fail
                  go_roundw
                  case rel => exact ⟨j + 1, n7, c7, A7, es7, by omega, by go_num, rfl, by omega, Lib.hid (by rw [hacc.out]; exact hR11.out), Lib.hid ⟨hbB11.out, hk14.out, hX.out.2.2⟩⟩
                  case measure => simp [intOf]; omega
          · obtain rfl : j = n3 := by omega
            have hallm : m.take j = m := List.take_of_length_le (by rw [hRm.out.lenN]; exact Nat.le_refl _)
            have hR2 : Hid (RowsAt wr wB.heap.size A7 n7 c7 es7 ((l.take (i0 + 1)).flatMap (pairR k0 l m))) := Lib.hid (by rw [hft.out, pairR_one]; have := hR.out; rw [hallm] at this; exact this)
            have hin2 := Hi0.out
            clear hallm
            go_wp2_with fail
            go_roundw
            case rel => exact ⟨i0 + 1, n7, c7, A7, es7, by omega, by go_num, rfl, by omega, hR2, hbrB⟩
            case measure => simp [intOf]; omega
      · obtain rfl : i0 = n2 := by omega
        have hall : l.take i0 = l := List.take_of_length_le (by rw [hRl.out.lenN]; exact Nat.le_refl _)
        rw [hall] at hR
        clear hall
        go_wp2_with fail
        go_ret
        exact RV.mk ⟨A7, n7, c7, es7, rfl, hR.out.less (Nat.le_trans hb0.out.size hb3.out.size), bnext hb0.out hbwr.out⟩
end Go.Proofs.YtnicbhmeigpjkaaGreatDoor
