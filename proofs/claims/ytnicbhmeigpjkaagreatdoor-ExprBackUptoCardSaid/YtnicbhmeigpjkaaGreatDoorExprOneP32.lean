/- Texts of the proof of ExprOne, joined (by merge.py). Conditions: each theorem's own hypotheses. -/
import Derived.Test.YtnicbhmeigpjkaaGreatDoorExprOneP14
import Derived.Test.YtnicbhmeigpjkaaGreatDoorExprOneP17
import Derived.Test.YtnicbhmeigpjkaaGreatDoorExprOneP20
import Derived.Test.YtnicbhmeigpjkaaGreatDoorExprOneP24
import Derived.Test.YtnicbhmeigpjkaaGreatDoorExprOneP27
import Derived.Test.YtnicbhmeigpjkaaGreatDoorExprOneP30
import Derived.Sort.LotA
import Derived.Sort.OwnSorted
import Derived.Shelf.SlSortCmp.NoneTotal
namespace Go.Proofs.YtnicbhmeigpjkaaGreatDoor
open Go.RowKit Go.Sort

theorem flatK_listR (M : List RowE) : (flatK rowC 3 M.toArray).toList = rowCs M := by
  apply List.ext_getElem?
  intro t
  by_cases h : t < M.length * 3
  · have hk : t / 3 < M.length := by omega
    have h1 := flat_at (f := rowC) (C := 3) (fun _ => rfl) hk (r := t % 3) (Nat.mod_lt _ (by decide))
    have h2 : t / 3 * 3 + t % 3 = t := by omega
    rw [h2] at h1
    have h3 := get_flatK rowC 3 M.toArray t (by simpa using h)
    have hs : t < (flatK rowC 3 M.toArray).toList.length := by simpa using h
    rw [List.getElem?_eq_getElem hs, Array.getElem_toList, ← getElem!_pos (flatK rowC 3 M.toArray) t (by simpa using h), h3]
    unfold rowCs
    rw [h1]
    have h4 : M.toArray[t / 3]! = at_ M (t / 3) := by rw [at_eq hk]; simp [hk]
    rw [h4]
    rcases (show t % 3 = 0 ∨ t % 3 = 1 ∨ t % 3 = 2 by omega) with h5 | h5 | h5 <;> rw [h5] <;> rfl
  · rw [List.getElem?_eq_none (by simp; omega), List.getElem?_eq_none (by rw [rowCs_len]; omega)]
theorem holds_flatR {w : World} {g : Nat} {cur F : Array Value} {e : TypeId} (hb : w.heap[g]? = some (.cells cur e (0, 0))) (ht : cur.toList.take F.size = F.toList) : Holds id w g 0 F := by
  intro j hj
  refine ⟨?_, by simp [World.frozen?, hb]⟩
  have h1 : (cur.toList.take F.size)[j]? = F.toList[j]? := by rw [ht]
  rw [List.getElem?_take_of_lt hj] at h1
  simp only [World.cell?, hb, Nat.zero_add]
  simp only [Option.isSome_none, Bool.false_eq_true, if_false]
  rw [← Array.getElem?_toList, h1]
  simp [hj]
theorem heap_flatR {w : World} {g n : Nat} {os : Array Obj} {cur : Array Value} {e : TypeId} {fr : Nat × Nat} (F : Array Value) (hb : w.heap[g]? = some (.cells cur e fr)) :
    (grow (putRow id (Sort.ahead w n) g 0 F) os).heap[g]? = some (.cells (putCells id 0 F cur) e fr) := by
  have hg : g < w.heap.size := (Array.getElem?_eq_some_iff.1 hb).1
  rw [heap_grow_old _ _ (by simpa using hg)]
  simp [putRow, mapBlock, Sort.ahead, Array.getElem?_modify, hb, onCells]
theorem grownBy_flatR {w : World} {g n : Nat} {os : Array Obj} (F : Array Value) : w.grownBy (grow (putRow id (Sort.ahead w n) g 0 F) os) (some g) := by
  refine ⟨rfl, rfl, rfl, by simp, fun k hk hne => ?_⟩
  rw [heap_grow_old _ _ (by simpa using hk)]
  have : g ≠ k := fun e => hne (by rw [e])
  simp [putRow, mapBlock, Sort.ahead, Array.getElem?_modify, this]
theorem take_flatR (cur F : Array Value) (h : F.size ≤ cur.size) : (putCells id 0 F cur).toList.take F.size = F.toList := by
  apply List.ext_getElem?
  intro j
  by_cases hj : j < F.size
  · rw [List.getElem?_take_of_lt hj, Array.getElem?_toList]
    simp [putCells, hj, show j < cur.size by omega]
  · rw [List.getElem?_take_eq_none (by omega), List.getElem?_eq_none (by simp; omega)]
theorem rowC_one (x : RowE) : ∀ v ∈ rowC x, v.oneCell' = true := by
  intro v hv
  simp [rowC] at hv
  rcases hv with rfl | rfl | rfl <;> rfl
theorem eval1_lays (blk off size : Nat) (w : World) : CmpLays Tryz.prog 56 #[] rowC 3 cfR blk off size w := fun _ _ _ _ x y => eval1_any x y _
def SortP (base : Nat) (A : Option Addr) (n c : Nat) (l : List RowN) (w w' : World) : Prop := ∃ es, RowsAt w' base A n c es (sortR l) ∧ Below base w w'
theorem sortRows_any (A : Option Addr) (n c : Nat) (es : List RowE) (l : List RowN) (base : Nat) (hok : RowsOk l) (hn : n ≤ 1000) (w : World) (hR : RowsAt w base A n c es l) (hbase : base ≤ w.heap.size) :
    Calls Tryz.prog 55 #[.slice A n c, .func (.func 56) #[] #[]] w (R1 (.tuple #[]) (SortP base A n c l w)) := by
  rcases hR.own.2 with ⟨hv, hn0⟩ | ⟨g, cap, cur, hv, hbg, hgc, h1, h2, h3, h4⟩
  · injection hv with e1 e2 e3
    subst e1 hn0 e3
    obtain rfl : es = [] := List.length_eq_zero_iff.1 hR.len
    obtain rfl : l = [] := by rw [← hR.map]; rfl
    refine (AnyF.slices_SortFunc_none Tryz.laysSortR none 0 (.func (.func 56) #[] #[]) w).mono ?_
    rintro e w' ⟨rfl, rfl⟩
    exact ⟨rfl, [], by rw [show sortR [] = [] from List.eq_nil_of_length_eq_zero (by rw [sortR_len]; rfl)]; exact hR, Below.refl _ _⟩
  · injection hv with e1 e2 e3
    subst e1 e3
    have eg : ∀ args w, (callFunc 56 args).run Tryz.prog w = .ok (.enter 56 args) w := enters_of Tryz.func56 (by kernel_rfl) rfl
    have hH : HoldsK rowC 3 w g 0 es.toArray := holds_flatR hgc (by rw [flatK_listR, size_flatK, List.size_toArray, hR.len]; exact h4)
    have hcon := AnyQ.slices_SortFunc Tryz.laysSortR 3 Tryz.isAgg72 Tryz.sizeOf72 rowC (fun _ => rfl) rowC_one cfR swoR 56 #[] g 0 c es.toArray w eg (eval1_lays g 0 _ w) hH (Array.getElem?_eq_some_iff.1 hgc).1 (by rw [List.size_toArray, hR.len]; omega)
    rw [List.size_toArray, hR.len] at hcon
    refine hcon.mono ?_
    rintro e w' ⟨rfl, d', q, os, hp, hs, rfl⟩
    obtain ⟨es', rfl⟩ : ∃ l : List RowE, d' = l.toArray := ⟨d'.toList, by simp⟩
    obtain ⟨hp1, _, hp3⟩ := hp
    have hlen : es'.length = n := by rw [← hR.len]; simpa using hp1
    have hperm : es'.Perm es := by
      have : (es'.toArray.extract 0 n).toList.Perm (es.toArray.extract 0 n).toList := hp3
      simpa [hlen, hR.len, List.take_of_length_le (Nat.le_of_eq hlen), List.take_of_length_le (Nat.le_of_eq hR.len)] using this
    have hup : UpR (es'.map (·.r)) := by
      refine List.pairwise_map.2 (List.pairwise_iff_getElem.2 fun i j hi hj hij => ?_)
      have := hs i j (Nat.zero_le _) hij (by omega)
      rw [ltR, decide_eq_false_iff_not] at this
      have e1 : es'.toArray[j]! = es'[j] := by simp [hj]
      have e2 : es'.toArray[i]! = es'[i] := by simp [hi]
      rw [e1, e2] at this
      exact List.not_lt.1 this
    have hmap : es'.map (·.r) = sortR l := sortR_of txInj hok (by rw [← hR.map]; exact hperm.map _) hup
    have hgb : w.grownBy (sortWorldK rowC 3 w g 0 q es'.toArray os) (some g) := grownBy_flatR _
    refine ⟨rfl, es', ⟨hlen, hmap, ⟨by rw [rowCs_len, hlen], .inr ⟨g, c, _, rfl, hbg, heap_flatR _ hgc, h1, h2, by simp [putCells, h3], ?_⟩⟩, fun y hy => ?_⟩, (Below.refl _ _).grown hgb hbase (fun k hk => by injection hk with hk; omega)⟩
    · have hs : (flatK rowC 3 es'.toArray).size = n * 3 := by simp [hlen]
      have h := take_flatR cur (flatK rowC 3 es'.toArray) (by rw [hs, h3]; omega)
      rw [hs, flatK_listR] at h
      exact h
    · have hy' := hR.labs y (hperm.mem_iff.1 hy)
      exact RowsAt.snoc.own_keepX hy' hgb (RowsAt.snoc.own_apartX hy' hR.own (by decide))
end Go.Proofs.YtnicbhmeigpjkaaGreatDoor
namespace Go.Proofs.YtnicbhmeigpjkaaGreatDoor
open Go.RowKit

/-- what Check has told of an expression -/
theorem chk_parts {e : ExE} (h : e.chk = 0) : (¬ badX e.kind e.n e.w e.m.length e.b.length e.x.length) ∧ chkM e.m = 0 ∧ chkL (byL e.b) = 0 ∧ ∀ y ∈ e.x, y.chk = 0 := by
  rw [e.chk_eq] at h
  obtain ⟨h1, h2⟩ := fstE_iff.1 h
  unfold ownX at h1
  by_cases hb : badX e.kind e.n e.w e.m.length e.b.length e.x.length
  · rw [if_pos hb] at h1; cases h1
  · rw [if_neg hb] at h1
    obtain ⟨h3, h4⟩ := fstE_iff.1 h1
    refine ⟨hb, h3, h4, ?_⟩
    generalize e.x = x at h2
    induction x with
    | nil => intro y hy; cases hy
    | cons z x ih =>
      simp only [ExE.chkL] at h2
      obtain ⟨h5, h6⟩ := fstE_iff.1 h2
      intro y hy
      rcases List.mem_cons.1 hy with e1 | e1
      · rw [e1]; exact h5
      · exact ih h6 y e1
theorem own_take1 (cs : Array Value) {size : Nat} (hs : cs.size = size) : cs.toList.take (1 * size) = cs.toList := by
  rw [Nat.one_mul, ← hs]
  exact List.take_of_length_le (Nat.le_refl _)
theorem own_made1 {w : World} {base size : Nat} {e : TypeId} (cs : Array Value) (hs : cs.size = size) (hb : base ≤ w.heap.size) : (w.alloc (.cells cs e)).ownsRow base e size (.slice (some ⟨w.heap.size, 0, none⟩) 1 1) 1 cs.toList :=
  ⟨by rw [Nat.one_mul]; exact hs, .inr ⟨w.heap.size, 1, cs, rfl, hb, heap_alloc_new w _, Nat.le_refl _, by unfold maxLen; omega, by rw [Nat.one_mul]; exact hs, own_take1 cs hs⟩⟩
/-- what lies around an evaluation -/
structure EvW (SA : Option Addr) (sn sc : Nat) (ss : List SerE) (now : Int) (w : World) : Prop where
  len : ss.length = sn
  s200 : sn ≤ 200
  sc1 : sn ≤ sc
  sc2 : sc ≤ maxLen
  now1 : -1152921504606846976 ≤ now
  now2 : now ≤ 1152921504606846976
  good : ∀ s ∈ ss, s.good w
  all : AllOk (sersX ss)
  has : Has w w.heap.size SA (sersC ss)
  sg : SgAt w
  ml : LenAt w
theorem EvW.next {SA : Option Addr} {sn sc : Nat} {ss : List SerE} {now : Int} {w w' : World} (h : EvW SA sn sc ss now w) (hb : Below w.heap.size w w') : EvW SA sn sc ss now w' :=
  { h with good := fun s hs => (h.good s hs).next hb, has := h.has.next hb, sg := h.sg.next hb, ml := h.ml.next hb }
set_option maxRecDepth 1000000 in
set_option maxHeartbeats 8000000 in
theorem xeval_any (SA : Option Addr) (sn sc : Nat) (ss : List SerE) (now : Int) : ∀ (e : ExE) (w : World), e.G w → e.chk = 0 → EvW SA sn sc ss now w →
    Calls Tryz.prog 29 #[.agg #[.slice SA sn sc, .int .i64 now], exV e] w (RV (RowsP (e.ev (sersX ss) now) w)) := by
  refine ExE.induct fun e ih => ?_
  intro w hG hchk hW
  obtain ⟨hbad, hcm, hcb, hsubc⟩ := chk_parts hchk
  have hnu := ExE.G.nu e hG
  have hsl : (sersX ss).length ≤ 200 := by rw [sersX_len, hW.len]; exact hW.s200
  have hIH : ∀ y ∈ e.x, ∀ W, Below w.heap.size w W → Calls Tryz.prog 29 #[.agg #[.slice SA sn sc, .int .i64 now], exV y] W (RV (RowsP (y.ev (sersX ss) now) W)) := fun y hy W hb => ih y hy W (ExE.G.next hb y (hG.sub y hy)) (hsubc y hy) (hW.next hb)
  have hRok : ∀ y ∈ e.x, RowsOk (y.ev (sersX ss) now) := fun y hy => RowsOk.ev hW.all now y (hnu.sub y hy)
  have hRln : ∀ y ∈ e.x, (y.ev (sersX ss) now).length ≤ 200 := fun y hy => ev_len hW.all hsl now y (hnu.sub y hy)
  have hEv := e.ev_eq (sersX ss) now
  rw [ExE.evL_map] at hEv
  have hraw : RowsOk (rawN (sersX ss) now e.kind e.n e.w e.m e.b (e.x.map (ExE.ev (sersX ss) now))) := RowsOk.raw hW.all now _ _ _ _ _ hnu.num (fun r hr => by obtain ⟨y, hy, rfl⟩ := List.mem_map.1 hr; exact hRok y hy)
  have hlen := ev_len hW.all hsl now e hnu
  rw [hEv, sortR_len] at hlen
  obtain ⟨raw, hr⟩ : ∃ raw, rawN (sersX ss) now e.kind e.n e.w e.m e.b (e.x.map (ExE.ev (sersX ss) now)) = raw := ⟨_, rfl⟩
  rw [hEv, hr]
  rw [hr] at hraw hlen
  have ho := hG.own
  obtain ⟨W1, hW1⟩ : ∃ W1, w.alloc (.cells #[.slice SA sn sc, .int .i64 now] 69) = W1 := ⟨_, rfl⟩
  obtain ⟨W0, hW0⟩ : ∃ W0, W1.alloc (.cells #[.int .i64 e.kind, .int .i64 e.n, .int .i64 e.w, .slice e.ma e.m.length e.mc, .slice e.ba e.b.length e.bc, .slice e.xa e.x.length e.xc] 28) = W0 := ⟨_, rfl⟩
  obtain ⟨q, hq⟩ : ∃ q, w.heap.size = q := ⟨_, rfl⟩
  have hb1 : Below w.heap.size w W1 := by rw [← hW1]; exact one_allocB _ _
  have hb0' : Below W1.heap.size W1 W0 := by rw [← hW0]; exact one_allocB _ _
  have hb0 : Below w.heap.size w W0 := bnext hb1 hb0'
  have hq1 : W1.heap.size = q + 1 := by rw [← hW1, ← hq]; simp
  have ka : Blk W0 q 69 #[.slice SA sn sc, .int .i64 now] := Blk.next (by rw [← hW1]; exact Blk.newM _ _ _ _ hq) hb0'
  have kx : Blk W0 (q + 1) 28 #[.int .i64 e.kind, .int .i64 e.n, .int .i64 e.w, .slice e.ma e.m.length e.mc, .slice e.ba e.b.length e.bc, .slice e.xa e.x.length e.xc] := by rw [← hW0]; exact Blk.newM _ _ _ _ hq1
  have a0 : W0.cell? ⟨q, 0, none⟩ = some (.slice SA sn sc) := ka.cell 0
  have a1 : W0.cell? ⟨q, 1, none⟩ = some (.int .i64 now) := ka.cell 1
  have x0 : W0.cell? ⟨q + 1, 0, none⟩ = some (.int .i64 e.kind) := kx.cell 0
  have x1 : W0.cell? ⟨q + 1, 1, none⟩ = some (.int .i64 e.n) := kx.cell 1
  have x2 : W0.cell? ⟨q + 1, 2, none⟩ = some (.int .i64 e.w) := kx.cell 2
  have x3 : W0.cell? ⟨q + 1, 3, none⟩ = some (.slice e.ma e.m.length e.mc) := kx.cell 3
  have x4 : W0.cell? ⟨q + 1, 4, none⟩ = some (.slice e.ba e.b.length e.bc) := kx.cell 4
  have x5 : W0.cell? ⟨q + 1, 5, none⟩ = some (.slice e.xa e.x.length e.xc) := kx.cell 5
  have ml : e.m.length ≤ e.mc := ho.ml
  have hmc : e.mc ≤ maxLen := ho.mc
  have bl : e.b.length ≤ e.bc := ho.bl
  have hbc : e.bc ≤ maxLen := ho.bc
  have xl : e.x.length ≤ e.xc := ho.xl
  have hxc : e.xc ≤ maxLen := ho.xc
  have HP := Lib.hid (fun (w' : World) => xparts_any e.kind w')
  have hG0 := ExE.G.next hb0 e hG
  have hWW := hW.next hb0
  have hs1 := hW.sc1
  have hs2 := hW.sc2
  have HIH := Lib.hid hIH
  have HW1 := Lib.hid hW1
  have HW0 := Lib.hid hW0
  have Hq := Lib.hid hq
  have hb0 := Lib.hid hb0
  have hraw := Lib.hid hraw
  have hRok := Lib.hid hRok
  have hRln := Lib.hid hRln
  have HS := Lib.hid (fun (w' : World) (base n c : Nat) (A : Option Addr) (es : List RowE) (hR : RowsAt w' base A n c es raw) (hb : base ≤ w'.heap.size) => sortRows_any A n c es raw base hraw.out (by rw [← hR.lenN]; omega) w' hR hb)
  have hpn : 0 ≤ partsN e.kind := by unfold badX at hbad; omega
  have hxp : (e.x.length : Int) = partsN e.kind := by unfold badX at hbad; omega
  have hwd : e.kind = 2 → 1 ≤ e.w ∧ e.w ≤ 1099511627776 := by unfold badX at hbad; omega
  have h012 : partsN e.kind = 1 ∧ (e.kind = 3 ∨ e.kind = 4 ∨ e.kind = 5) ∨ partsN e.kind = 2 ∧ (e.kind = 6 ∨ e.kind = 7 ∨ e.kind = 8) ∨ partsN e.kind = 0 ∧ e.kind = 1 ∨ partsN e.kind = 0 ∧ e.kind = 2 := by
    unfold partsN at hpn ⊢
    split at hpn
    · rename_i h; rcases h with h | h
      · exact .inr (.inr (.inl ⟨by rw [if_pos (.inl h)], h⟩))
      · exact .inr (.inr (.inr ⟨by rw [if_pos (.inr h)], h⟩))
    · rename_i h0
      split at hpn
      · rename_i h; exact .inl ⟨by rw [if_neg h0, if_pos h], h⟩
      · rename_i h1
        split at hpn
        · rename_i h; exact .inr (.inl ⟨by rw [if_neg h0, if_neg h1, if_pos h], h⟩)
        · exact absurd hpn (by decide)
  clear hW1 hW0 hq hq1 hb1 hb0' ho hbad hcm hcb hsubc hsl hIH hEv hlen ka kx hpn hG hW
  rcases h012 with ⟨hp, hk⟩ | ⟨hp, hk⟩ | ⟨hp, hk⟩ | ⟨hp, hk⟩
  · obtain ⟨y, hy⟩ : ∃ y, e.x = [y] := List.length_eq_one_iff.1 (by omega)
    have hym : y ∈ e.x := by rw [hy]; exact List.mem_cons_self
    have hGr := xgroup_any SA sn sc hs1 hs2 now e W0 hG0 y hy hk _ (hRok.out y hym) (hRln.out y hym) hWW.sg (fun W hb => HIH.out y hym W (bnext hb0.out hb))
    have hre : groupN e.kind e.b (y.ev (sersX ss) now) = raw := by
      rw [← hr, hy]
      unfold rawN
      rw [if_pos hp]
      rfl
    rw [hre] at hGr
    unfold exV at hGr ⊢
    have hGr := Lib.hid hGr
    rw [hp] at HP
    clear hk hp hy hym hre hxp hwd hr ih hnu
    go_enter Tryz.func29, Tryz.ntmps29
    go_upto_region 1 with fail
    rw [HW1.out, HW0.out, Hq.out]
    go_wp2_with fail
    refine (HP.out _).mono ?_
    rintro e' w' ⟨rfl, rfl⟩
    go_wp2_with fail
    refine hGr.out.mono ?_
    rintro e' w3 ⟨u, rfl, A3, n3, c3, es3, rfl, hR3, hb3⟩
    have hS3 := Lib.hid (HS.out w3 _ n3 c3 A3 es3 hR3 hb3.size)
    have hb3 := Lib.hid hb3
    clear hR3
    go_wp2_with fail
    refine hS3.out.mono ?_
    rintro e' w4 ⟨rfl, es4, hR4, hb4⟩
    have hR4 := Lib.hid hR4
    have hb4 := Lib.hid hb4
    go_wp2_with fail
    go_ret
    exact RV.mk ⟨A3, n3, c3, es4, rfl, hR4.out.less hb0.out.size, (bnext hb0.out hb3.out).trans (hb4.out.mono hb0.out.size)⟩
  · obtain ⟨y, z, hy⟩ : ∃ y z, e.x = [y, z] := by
      match hx : e.x, (show e.x.length = 2 by omega) with
      | [y, z], _ => exact ⟨y, z, rfl⟩
    have hym : y ∈ e.x := by rw [hy]; simp
    have hzm : z ∈ e.x := by rw [hy]; simp
    have hGr := xpair_any SA sn sc hs1 hs2 now e W0 hG0 y z hy _ _ (hRok.out y hym) (hRln.out y hym) (hRok.out z hzm) (hRln.out z hzm) hWW.sg (fun W hb => HIH.out y hym W (bnext hb0.out hb)) (fun W hb => HIH.out z hzm W (bnext hb0.out hb))
    have hre : pairN e.kind (y.ev (sersX ss) now) (z.ev (sersX ss) now) = raw := by
      rw [← hr, hy]
      unfold rawN
      rw [if_neg (by rw [hp]; decide), if_pos hp]
      rfl
    rw [hre] at hGr
    unfold exV at hGr ⊢
    have hGr := Lib.hid hGr
    rw [hp] at HP
    clear hk hp hy hym hzm hre hxp hwd hr ih hnu
    go_enter Tryz.func29, Tryz.ntmps29
    go_upto_region 1 with fail
    rw [HW1.out, HW0.out, Hq.out]
    go_wp2_with fail
    refine (HP.out _).mono ?_
    rintro e' w' ⟨rfl, rfl⟩
    go_wp2_with fail
    refine hGr.out.mono ?_
    rintro e' w3 ⟨u, rfl, A3, n3, c3, es3, rfl, hR3, hb3⟩
    have hS3 := Lib.hid (HS.out w3 _ n3 c3 A3 es3 hR3 hb3.size)
    have hb3 := Lib.hid hb3
    clear hR3
    go_wp2_with fail
    refine hS3.out.mono ?_
    rintro e' w4 ⟨rfl, es4, hR4, hb4⟩
    have hR4 := Lib.hid hR4
    have hb4 := Lib.hid hb4
    go_wp2_with fail
    go_ret
    exact RV.mk ⟨A3, n3, c3, es4, rfl, hR4.out.less hb0.out.size, (bnext hb0.out hb3.out).trans (hb4.out.mono hb0.out.size)⟩
  · have hre : raw = [([], e.n)] := by
      rw [← hr]
      unfold rawN
      rw [if_neg (by rw [hp]; decide), if_neg (by rw [hp]; decide), if_pos hk]
    have hGr := rowOf_any none 0 0 [] rfl (fun _ => ⟨rfl, rfl⟩) rfl e.n W0 (Has.nil _ _ _) hWW.sg
    unfold exV
    have hkb : (e.kind == 1) = true := by rw [beq_iff_eq]; exact hk
    have Hre := Lib.hid hre
    have hGr := Lib.hid hGr
    rw [hp] at HP
    clear hk hp hre hxp hwd hr ih hnu
    go_enter Tryz.func29, Tryz.ntmps29
    go_upto_region 1 with fail
    rw [HW1.out, HW0.out, Hq.out]
    go_wp2_with fail
    refine (HP.out _).mono ?_
    rintro e' w' ⟨rfl, rfl⟩
    go_wp2_with fail
    refine hGr.out.mono ?_
    rintro e' w3 ⟨u, rfl, A3, c3, rfl, ho3, hb3⟩
    have hF := Lib.hid (show RowsP (sortR raw) w (.slice (some ⟨w3.heap.size, 0, none⟩) 1 1) (w3.alloc (.cells #[.string (txK []), .slice A3 0 c3, .int .i64 e.n] 72)) from by
      rw [Hre.out, sortR_one]
      refine ⟨_, 1, 1, [⟨A3, c3, ([], e.n)⟩], rfl, ⟨rfl, rfl, own_made1 _ rfl (Nat.le_trans hb0.out.size hb3.size), fun y hy => ?_⟩, bnext hb0.out (bnext hb3 (one_allocB _ _))⟩
      rw [List.mem_singleton.1 hy]
      exact own_next (own_less ho3 hb0.out.size) (one_allocB _ _))
    simp only [List.length_nil]
    clear ho3 hb3
    go_wp2_with fail
    go_ret
    exact RV.mk hF.out
  · have hre : selN (sersX ss) now e.m e.w = raw := by
      rw [← hr]
      unfold rawN
      rw [if_neg (by rw [hp]; decide), if_neg (by rw [hp]; decide), if_neg (by rw [hk]; decide)]
    have hGr := sel_any SA sn sc ss hWW.len hWW.s200 now ⟨hWW.now1, hWW.now2⟩ e W0 hG0 (hwd hk) hWW.good hWW.all hWW.has hWW.sg hWW.ml
    rw [hre] at hGr
    unfold exV at hGr ⊢
    have hkb : (e.kind == 1) = false := by rw [beq_eq_false_iff_ne, hk]; decide
    have hGr := Lib.hid hGr
    rw [hp] at HP
    clear hk hp hre hxp hwd hr ih hnu
    go_enter Tryz.func29, Tryz.ntmps29
    go_upto_region 1 with fail
    rw [HW1.out, HW0.out, Hq.out]
    go_wp2_with fail
    refine (HP.out _).mono ?_
    rintro e' w' ⟨rfl, rfl⟩
    go_wp2_with fail
    refine hGr.out.mono ?_
    rintro e' w3 ⟨u, rfl, A3, n3, c3, es3, rfl, hR3, hb3⟩
    have hS3 := Lib.hid (HS.out w3 _ n3 c3 A3 es3 hR3 hb3.size)
    have hb3 := Lib.hid hb3
    clear hR3
    go_wp2_with fail
    refine hS3.out.mono ?_
    rintro e' w4 ⟨rfl, es4, hR4, hb4⟩
    have hR4 := Lib.hid hR4
    have hb4 := Lib.hid hb4
    go_wp2_with fail
    go_ret
    exact RV.mk ⟨A3, n3, c3, es4, rfl, hR4.out.less hb0.out.size, (bnext hb0.out hb3.out).trans (hb4.out.mono hb0.out.size)⟩
end Go.Proofs.YtnicbhmeigpjkaaGreatDoor
namespace Go.Proofs.YtnicbhmeigpjkaaGreatDoor
open Go.RowKit

theorem sersErr_split : ∀ {l : List (List Lab × List Smp)} {j : Nat}, j < l.length → sersErr (l.take j) = 0 → serErr (at_ l j) ≠ 0 → sersErr l = serErr (at_ l j)
  | y :: l, 0, _, _, h => by
    unfold sersErr
    exact fstE_ne h
  | y :: l, j + 1, hj, h0, h => by
    rw [List.take_succ_cons, sersErr] at h0
    obtain ⟨h1, h2⟩ := fstE_iff.1 h0
    rw [sersErr, h1, fstE_zero]
    exact sersErr_split (by simpa using hj) h2 h
theorem sersErr_snoc {l : List (List Lab × List Smp)} {j : Nat} (hj : j < l.length) (h0 : sersErr (l.take j) = 0) (h : serErr (at_ l j) = 0) : sersErr (l.take (j + 1)) = 0 := by
  rw [List.take_add_one, List.getElem?_eq_getElem hj]
  rw [at_eq hj] at h
  generalize l.take j = a at h0
  induction a with
  | nil => exact fstE_iff.2 ⟨h, rfl⟩
  | cons y a ih =>
    rw [sersErr] at h0
    obtain ⟨h1, h2⟩ := fstE_iff.1 h0
    exact fstE_iff.2 ⟨h1, ih h2⟩
/-- a row of the answer -/
def apiC (e : RowE) : List Value := [.slice e.A e.r.1.length e.c, .int .i64 e.r.2]
def apiCs (l : List RowE) : List Value := l.flatMap apiC
theorem apiCs_len (l : List RowE) : (apiCs l).length = l.length * 2 := flat_len (f := apiC) (C := 2) (fun _ => rfl) l
theorem apiCs_app1 (l : List RowE) (x : RowE) : apiCs (l ++ [x]) = apiCs l ++ (#[.slice x.A x.r.1.length x.c, .int .i64 x.r.2] : Array Value).toList := by simp [apiCs, apiC]
theorem elApi : Elem Tryz.prog 30 36 2 32 := Elem.mk' (z := .agg #[.slice none 0 0, .int .i64 0]) Tryz.underlying30 (by kernel_rfl) rfl (by decide)
theorem elStrX : Elem Tryz.prog 25 9 1 16 := Elem.mk' (z := .string ⟨#[]⟩) Tryz.underlying25 (by kernel_rfl) rfl (by decide)
/-- rows of an answer: the row's own block past base, the labels' past bl -/
structure ApiAt (w : World) (base bl : Nat) (A : Option Addr) (n c : Nat) (es : List RowE) (l : List RowN) : Prop where
  len : es.length = n
  map : es.map (·.r) = l
  own : w.ownsRow base 36 2 (.slice A n c) n (apiCs es)
  labs : ∀ e ∈ es, RowOwn w bl e
theorem ApiAt.nil (w : World) (base bl : Nat) : ApiAt w base bl none 0 0 [] [] := ⟨rfl, rfl, World.ownsRow_nil _ _ _ _, fun _ h => by cases h⟩
theorem ApiAt.next {w w' : World} {base bl : Nat} {A : Option Addr} {n c : Nat} {es : List RowE} {l : List RowN} (h : ApiAt w base bl A n c es l) (hb : Below w.heap.size w w') : ApiAt w' base bl A n c es l :=
  ⟨h.len, h.map, own_next h.own hb, fun e he => (h.labs e he).next hb⟩
theorem ApiAt.less {w : World} {base bl b2 b3 : Nat} {A : Option Addr} {n c : Nat} {es : List RowE} {l : List RowN} (h : ApiAt w base bl A n c es l) (hb : b2 ≤ base) (hb3 : b3 ≤ bl) : ApiAt w b2 b3 A n c es l :=
  ⟨h.len, h.map, own_less h.own hb, fun e he => (h.labs e he).less hb3⟩
theorem ApiAt.lenN {w : World} {base bl : Nat} {A : Option Addr} {n c : Nat} {es : List RowE} {l : List RowN} (h : ApiAt w base bl A n c es l) : l.length = n := by rw [← h.map, List.length_map, h.len]
theorem ApiAt.snoc {w w7 w8 : World} {base bl : Nat} {A A8 : Option Addr} {n c c8 : Nat} {es : List RowE} {l : List RowN} (h : ApiAt w base bl A n c es l) {e : RowE} (hb : Below w.heap.size w w7) (he : RowOwn w7 bl e)
    (ho : w8.ownsRow base 36 2 (.slice A8 (n + 1) c8) (n + 1) (apiCs es ++ (#[.slice e.A e.r.1.length e.c, .int .i64 e.r.2] : Array Value).toList)) (hg : w7.grownBy w8 (Value.slice A n c).ownBlock) : ApiAt w8 base bl A8 (n + 1) c8 (es ++ [e]) (l ++ [e.r]) := by
  refine ⟨by rw [List.length_append, h.len]; rfl, by rw [List.map_append, h.map]; rfl, by rw [apiCs_app1]; exact ho, fun y hy => ?_⟩
  have ho7 := own_next h.own hb
  have hk : ∀ y : RowE, RowOwn w7 bl y → RowOwn w8 bl y := fun y hy => RowsAt.snoc.own_keepX hy hg (RowsAt.snoc.own_apartX hy ho7 (by decide))
  rcases List.mem_append.1 hy with h1 | h1
  · exact hk y ((h.labs y h1).next hb)
  · rw [List.mem_singleton.1 h1]
    exact hk e he
def EvalP (r : List RowN × Int) (w : World) (v : Value) (w' : World) : Prop :=
  ∃ A n c es, v = .tuple #[.slice A n c, .int .i64 r.2] ∧ ApiAt w' w.heap.size w.heap.size A n c es r.1 ∧ Below w.heap.size w w'
theorem EvalP.err {w w' : World} {r : List RowN × Int} {k : Int} (hr : r = ([], k)) (hb : Below w.heap.size w w') : EvalP r w (.tuple #[.slice none 0 0, .int .i64 k]) w' := by
  subst hr
  exact ⟨none, 0, 0, [], rfl, ApiAt.nil _ _ _, hb⟩
theorem EvalP.fine {w w' : World} {r : List RowN × Int} {R : List RowN} {A : Option Addr} {n c : Nat} {es : List RowE} (hr : r = (R, 0)) (h : ApiAt w' w.heap.size w.heap.size A n c es R) (hb : Below w.heap.size w w') : EvalP r w (.tuple #[.slice A n c, .int .i64 0]) w' := by
  subst hr
  exact ⟨A, n, c, es, rfl, h, hb⟩
def keysX (l : List (List Lab × List Smp)) : List ByteArray := l.map fun s => txK s.1
theorem keysX_snoc {l : List (List Lab × List Smp)} {j : Nat} (h : j < l.length) : keysX (l.take (j + 1)) = keysX (l.take j) ++ [txK (at_ l j).1] := by
  unfold keysX
  rw [List.take_add_one, List.getElem?_eq_getElem h, at_eq h, List.map_append]
  rfl
theorem has_key {l : List (List Lab × List Smp)} (h0 : sersErr l = 0) {j : Nat} (hj : j < l.length) : hasS (txK (at_ l j).1) (keysX (l.take j)) = true ↔ (at_ l j).1 ∈ (l.take j).map (·.1) := by
  rw [hasS_iff]
  unfold keysX
  have hL := (sersErr_iff.1 h0 _ (at_mem hj)).1
  constructor
  · intro hm
    obtain ⟨s, hs, e⟩ := List.mem_map.1 hm
    have hs' := (sersErr_iff.1 h0 s (List.mem_of_mem_take hs)).1
    exact List.mem_map.2 ⟨s, hs, txInj _ _ hs' hL e⟩
  · intro hm
    obtain ⟨s, hs, e⟩ := List.mem_map.1 hm
    exact List.mem_map.2 ⟨s, hs, by rw [e]⟩
theorem nodup_snoc {l : List (List Lab × List Smp)} {j : Nat} (h : j < l.length) (hn : ((l.take j).map (·.1)).Nodup) (hno : (at_ l j).1 ∉ (l.take j).map (·.1)) : ((l.take (j + 1)).map (·.1)).Nodup := by
  rw [List.take_add_one, List.getElem?_eq_getElem h, List.map_append]
  rw [at_eq h] at hno
  exact List.nodup_append.2 ⟨hn, by simp, fun a ha c hc e => by simp at hc; rw [e, hc] at ha; exact hno ha⟩
theorem not_nodup {l : List (List Lab × List Smp)} {j : Nat} (h : j < l.length) (hm : (at_ l j).1 ∈ (l.take j).map (·.1)) : ¬ (l.map (·.1)).Nodup := by
  intro hn
  have e : l.map (·.1) = (l.take j).map (·.1) ++ (l.drop j).map (·.1) := by rw [← List.map_append, List.take_append_drop]
  rw [e] at hn
  have h2 : (at_ l j).1 ∈ (l.drop j).map (·.1) := by
    refine List.mem_map.2 ⟨_, ?_, rfl⟩
    rw [at_eq h, List.drop_eq_getElem_cons h]
    exact List.mem_cons_self
  exact (List.nodup_append.1 hn).2.2 _ hm _ h2 rfl
set_option maxRecDepth 1000000 in
set_option maxHeartbeats 16000000 in
theorem xEval_any (e : ExE) (SA : Option Addr) (sn sc : Nat) (ss : List SerE) (hn : ss.length = sn) (hs1 : sn ≤ sc) (hs2 : sc ≤ maxLen) (now : Int) (_hnow : in64 now) (w : World) (hG : e.G w) (hk : e.cnt ≤ 1099511627776) (hgood : ∀ s ∈ ss, s.good w) (has : Has w w.heap.size SA (sersC ss)) (tS : SgAt w) (hlen : LenAt w) :
    Calls Tryz.prog 13 #[exV e, .slice SA sn sc, .int .i64 now] w (RV (EvalP (evalN e (sersX ss) now) w)) := by
  have ho := hG.own
  obtain ⟨W0, hW0⟩ : ∃ W0, w.alloc (.cells #[.int .i64 e.kind, .int .i64 e.n, .int .i64 e.w, .slice e.ma e.m.length e.mc, .slice e.ba e.b.length e.bc, .slice e.xa e.x.length e.xc] 28) = W0 := ⟨_, rfl⟩
  obtain ⟨q, hq⟩ : ∃ q, w.heap.size = q := ⟨_, rfl⟩
  have hb0 : Below w.heap.size w W0 := by rw [← hW0]; exact one_allocB _ _
  have kx : Blk W0 q 28 #[.int .i64 e.kind, .int .i64 e.n, .int .i64 e.w, .slice e.ma e.m.length e.mc, .slice e.ba e.b.length e.bc, .slice e.xa e.x.length e.xc] := by rw [← hW0]; exact Blk.newM _ _ _ _ hq
  have x0 : W0.cell? ⟨q, 0, none⟩ = some (.int .i64 e.kind) := kx.cell 0
  have x1 : W0.cell? ⟨q, 1, none⟩ = some (.int .i64 e.n) := kx.cell 1
  have x2 : W0.cell? ⟨q, 2, none⟩ = some (.int .i64 e.w) := kx.cell 2
  have x3 : W0.cell? ⟨q, 3, none⟩ = some (.slice e.ma e.m.length e.mc) := kx.cell 3
  have x4 : W0.cell? ⟨q, 4, none⟩ = some (.slice e.ba e.b.length e.bc) := kx.cell 4
  have x5 : W0.cell? ⟨q, 5, none⟩ = some (.slice e.xa e.x.length e.xc) := kx.cell 5
  have ml : e.m.length ≤ e.mc := ho.ml
  have hmc : e.mc ≤ maxLen := ho.mc
  have bl : e.b.length ≤ e.bc := ho.bl
  have hbc : e.bc ≤ maxLen := ho.bc
  have xl : e.x.length ≤ e.xc := ho.xl
  have hxc : e.xc ≤ maxLen := ho.xc
  have HC := xcheckT_any e W0 (ExE.G.next hb0 e hG) hk
  have HEv := Lib.hid (fun (w' : World) (hb : Below W0.heap.size W0 w') (hc : e.chk = 0) (hW : EvW SA sn sc ss now w') => xeval_any SA sn sc ss now e w' (ExE.G.next (bnext hb0 hb) e hG) hc hW)
  have hNu := ExE.G.nu e hG
  have hT : e.chkT = if 100 < e.cnt then 2 else e.chk := rfl
  have hN : evalN e (sersX ss) now = if e.chkT ≠ 0 then ([], e.chkT) else if 200 < (sersX ss).length then ([], 2) else if sersErr (sersX ss) ≠ 0 then ([], sersErr (sersX ss)) else if ¬ ((sersX ss).map (·.1)).Nodup then ([], 8) else if now < -1152921504606846976 ∨ 1152921504606846976 < now then ([], 6) else (e.ev (sersX ss) now, 0) := rfl
  obtain ⟨N, hNN⟩ : ∃ N, evalN e (sersX ss) now = N := ⟨_, rfl⟩
  rw [hNN] at hN ⊢
  have hsx := sersX_len ss
  rw [hn] at hsx
  rw [hsx] at hN
  obtain ⟨t, ht⟩ : ∃ t, e.chkT = t := ⟨_, rfl⟩
  rw [ht] at HC hN hT
  unfold exV at HC ⊢
  have HT := Lib.hid hT
  have HN := Lib.hid hN
  replace HC := Lib.hid HC
  have HW0 := Lib.hid hW0
  have Hq := Lib.hid hq
  have Hn := Lib.hid hn
  replace hsx := Lib.hid hsx
  replace hb0 := Lib.hid hb0
  replace kx := Lib.hid kx
  replace hgood := Lib.hid hgood
  replace has := Lib.hid has
  replace tS := Lib.hid tS
  replace hlen := Lib.hid hlen
  have hs2' := hs2
  unfold maxLen at hs2'
  clear ht hT hN hNN hn hW0 hq ho hG
  go_enter Tryz.func13, Tryz.ntmps13
  go_upto_region 1 with fail
  rw [HW0.out, Hq.out]
  go_wp2_with fail
  refine HC.out.mono ?_
  rintro e' w1 ⟨rfl, hb1⟩
  by_cases ht0 : t = 0
  case neg =>
    have hNe := Lib.hid (show N = ([], t) by rw [HN.out, if_pos ht0])
    have hb01 := Lib.hid (bnext hb0.out hb1)
    clear hb1
    go_wp2_with fail
    go_ret2
    exact RV.mk (EvalP.err hNe.out hb01.out)
  case pos =>
    subst ht0
    have hchk : e.chk = 0 := by
      have := HT.out
      by_cases h100 : 100 < e.cnt
      · rw [if_pos h100] at this; cases this
      · rw [if_neg h100] at this; exact this.symm
    have kx1 := kx.out.next hb1
    have hb01 := Lib.hid (bnext hb0.out hb1)
    replace hb1 := Lib.hid hb1
    replace hchk := Lib.hid hchk
    clear x0 x1 x2 x3 x4 x5
    replace kx1 := Lib.hid kx1
    by_cases h200 : (200 : Int) < (sn : Int)
    · have hNe := Lib.hid (show N = ([], 2) by rw [HN.out, if_neg (by simp), if_pos (by omega)])
      go_wp2_with fail
      go_ret2
      exact RV.mk (EvalP.err hNe.out hb01.out)
    · have hsn200 : sn ≤ 200 := by omega
      have HN2 := Lib.hid (show N = if sersErr (sersX ss) ≠ 0 then ([], sersErr (sersX ss)) else if ¬ ((sersX ss).map (·.1)).Nodup then ([], 8) else if now < -1152921504606846976 ∨ 1152921504606846976 < now then ([], 6) else (e.ev (sersX ss) now, 0) by rw [HN.out, if_neg (by simp), if_neg (by omega)])
      clear HN HT
      go_wp2_with fail
      go_loopw [31] (fun i wr => ∃ (j : Nat), j ≤ sn ∧ i = .int .i64 (j : Nat) ∧ Hid (sersErr ((sersX ss).take j) = 0) ∧ Hid (Below w1.heap.size w1 wr)) (fun i _ => sn + 5 - (intOf i).toNat)
      case atStart => exact ⟨0, by omega, rfl, Lib.hid rfl, Lib.hid (Below.refl _ _)⟩
      case round =>
        obtain ⟨j, hj, rfl, hse, hbr⟩ := hrel
        have hbwr := Lib.hid (bnext hb01.out hbr.out)
        by_cases hlt : (j : Int) < (sn : Int)
        · have hjl : j < ss.length := by rw [Hn.out]; omega
          have hjx : j < (sersX ss).length := by rw [sersX_len]; exact hjl
          have hmem : at_ ss j ∈ ss := at_mem hjl
          obtain ⟨ad, had, hadb, c0, c1⟩ := sersC_cells (has.out.next hbwr.out) hjl
          have hgd := (hgood.out _ hmem).next hbwr.out
          have hatx : at_ (sersX ss) j = serX (at_ ss j) := by rw [at_eq hjx]; exact sersX_at hjl
          have hsp := fun h => sersErr_split hjx hse.out h
          have hsn := fun h => sersErr_snoc hjx hse.out h
          rw [hatx] at hsp hsn
          obtain ⟨⟨⟨LA, lc, L⟩, TA, tc, T⟩, hp⟩ : ∃ p, at_ ss j = p := ⟨_, rfl⟩
          rw [hp] at c0 c1 hgd hsp hsn
          replace hsp : serErr (L, T) ≠ 0 → sersErr (sersX ss) = serErr (L, T) := hsp
          replace hsn : serErr (L, T) = 0 → sersErr ((sersX ss).take (j + 1)) = 0 := hsn
          have hee : serErr (L, T) = fstE (chkL L) (chkS T) := rfl
          obtain ⟨gl1, gl2, gl3, gl4, gl5⟩ := hgd.lab
          have gt2 := hgd.sl
          have gt3 := hgd.sc
          have gt5 := hgd.sh
          simp only [] at c0 c1 gl1 gl2 gl3 gl4 gl5 gt2 gt3 gt5
          obtain ⟨ln, hln⟩ : ∃ ln, L.length = ln := ⟨_, rfl⟩
          obtain ⟨tn, htn⟩ : ∃ tn, T.length = tn := ⟨_, rfl⟩
          rw [hln] at c0 gl2
          rw [htn] at c1 gt2
          have q1 : (0 : Int) ≤ (j : Int) := by omega
          subst had
          obtain ⟨W6, hW6⟩ : ∃ W6, wr.alloc (.cells #[.slice LA ln lc, .slice TA tn tc] 50) = W6 := ⟨_, rfl⟩
          obtain ⟨q6, hq6⟩ : ∃ q6, wr.heap.size = q6 := ⟨_, rfl⟩
          have hb6 : Below wr.heap.size wr W6 := by rw [← hW6]; exact one_allocB _ _
          have k6 : Blk W6 q6 50 #[.slice LA ln lc, .slice TA tn tc] := by rw [← hW6]; exact Blk.newM _ _ _ _ hq6
          have hLC := lcheck_any LA ln lc L hln (by omega) W6 (gl5.next hb6) gl1
          have hSC := fun (w' : World) (hb : Below W6.heap.size W6 w') => scheck_any TA tc T (by rw [htn]; omega) w' (gt5.next (bnext hb6 hb))
          rw [htn] at hSC
          obtain ⟨el, hel⟩ : ∃ el, chkL L = el := ⟨_, rfl⟩
          obtain ⟨es, hes⟩ : ∃ es, chkS T = es := ⟨_, rfl⟩
          rw [hel] at hLC
          simp only [hes] at hSC
          rw [hel, hes] at hee
          rw [hee] at hsp hsn
          replace hsp := Lib.hid hsp
          replace hsn := Lib.hid hsn
          replace hLC := Lib.hid hLC
          replace hSC := Lib.hid hSC
          have HW6 := Lib.hid hW6
          have Hq6 := Lib.hid hq6
          replace hb6 := Lib.hid hb6
          replace k6 := Lib.hid k6
          clear hp hatx hee hel hes hln htn hjl hjx hmem hgd hW6 hq6 gl1 gl5 gt5
          go_upto_region 9 with fail
          rw [HW6.out, Hq6.out]
          have y0 : W6.cell? ⟨q6, 0, none⟩ = some (.slice LA ln lc) := k6.out.cell 0
          go_wp2_with fail
          refine hLC.out.mono ?_
          rintro e' w7 ⟨rfl, hb7⟩
          by_cases hel0 : el = 0
          · subst hel0
            have y1 : w7.cell? ⟨q6, 1, none⟩ = some (.slice TA tn tc) := (k6.out.next hb7).cell 1
            have hS := Lib.hid (hSC.out w7 hb7)
            replace hb7 := Lib.hid hb7
            clear y0
            go_wp2_with fail
            refine hS.out.mono ?_
            rintro e' w8 ⟨rfl, nd, rfl⟩
            have hb8 := Lib.hid (below_drewN (bnext hbr.out (bnext hb6.out hb7.out)) nd)
            by_cases hes0 : es = 0
            · subst hes0
              have hsn2 : Hid (sersErr ((sersX ss).take (j + 1)) = 0) := Lib.hid (hsn.out rfl)
              go_wp2_with fail
              go_roundw
              case rel => exact ⟨j + 1, by omega, by go_num, hsn2, hb8⟩
              case measure => simp [intOf]; omega
            · have hne : sersErr (sersX ss) = es := hsp.out (by rw [fstE_zero]; exact hes0)
              have hNe := Lib.hid (show N = ([], es) by rw [HN2.out, hne, if_pos hes0])
              clear hne
              go_wp2_with fail
              go_ret2
              exact RV.mk (EvalP.err hNe.out (bnext hb01.out hb8.out))
          · have hne : sersErr (sersX ss) = el := by have := hsp.out (by rw [fstE_ne hel0]; exact hel0); rw [fstE_ne hel0] at this; exact this
            have hNe := Lib.hid (show N = ([], el) by rw [HN2.out, hne, if_pos hel0])
            have hb8 := Lib.hid (bnext hbr.out (bnext hb6.out hb7))
            clear hne hb7
            go_wp2_with fail
            go_ret2
            exact RV.mk (EvalP.err hNe.out (bnext hb01.out hb8.out))
        · obtain rfl : sn = j := by omega
          have hall : (sersX ss).take sn = sersX ss := List.take_of_length_le (by rw [hsx.out]; exact Nat.le_refl _)
          rw [hall] at hse
          have HN3 := Lib.hid (show N = if ¬ ((sersX ss).map (·.1)).Nodup then ([], 8) else if now < -1152921504606846976 ∨ 1152921504606846976 < now then ([], 6) else (e.ev (sersX ss) now, 0) by rw [HN2.out, if_neg (by rw [hse.out]; simp)])
          obtain ⟨wA, rfl⟩ : ∃ wA : World, wA = wr := ⟨wr, rfl⟩
          have hbwr0 := hbwr
          clear HN2 hall
          go_wp2_with fail
          go_loopw [13, 50] (fun s i wr => ∃ (j c3 : Nat) (A3 : Option Addr), j ≤ sn ∧ i = .int .i64 (j : Nat) ∧ s = .slice A3 j c3 ∧ Hid (wr.ownsRow wA.heap.size 9 1 (.slice A3 j c3) j (strCs (keysX ((sersX ss).take j)))) ∧ Hid ((((sersX ss).take j).map (·.1)).Nodup) ∧ Hid (Below wA.heap.size wA wr)) (fun _ i _ => sn + 5 - (intOf i).toNat)
          case atStart => exact ⟨0, 0, none, by omega, rfl, rfl, Lib.hid (World.ownsRow_nil _ _ _ _), Lib.hid List.nodup_nil, Lib.hid (Below.refl _ _)⟩
          case round =>
            obtain ⟨j, c3, A3, hj, rfl, rfl, hks, hnd, hbr2⟩ := hrel
            have hbw2 := Lib.hid (bnext hbwr.out hbr2.out)
            by_cases hlt2 : (j : Int) < (sn : Int)
            · have hjl : j < ss.length := by rw [Hn.out]; omega
              have hjx : j < (sersX ss).length := by rw [sersX_len]; exact hjl
              have hmem : at_ ss j ∈ ss := at_mem hjl
              obtain ⟨ad, had, hadb, c0, c1⟩ := sersC_cells (has.out.next hbw2.out) hjl
              have hgd := (hgood.out _ hmem).next hbw2.out
              have hatx : at_ (sersX ss) j = serX (at_ ss j) := by rw [at_eq hjx]; exact sersX_at hjl
              have hhk := has_key hse.out hjx
              have hsn := keysX_snoc hjx
              have hns := fun h => nodup_snoc hjx hnd.out h
              have hnn := fun h => not_nodup hjx h
              have hchL := (sersErr_iff.1 hse.out _ (at_mem hjx)).1
              rw [hatx] at hhk hsn hns hnn hchL
              obtain ⟨⟨⟨LA, lc, L⟩, TA, tc, T⟩, hp⟩ : ∃ p, at_ ss j = p := ⟨_, rfl⟩
              rw [hp] at c0 c1 hgd hhk hsn hns hnn hchL
              replace hchL : chkL L = 0 := hchL
              replace hhk : hasS (txK L) (keysX ((sersX ss).take j)) = true ↔ L ∈ ((sersX ss).take j).map (·.1) := hhk
              replace hsn : keysX ((sersX ss).take (j + 1)) = keysX ((sersX ss).take j) ++ [txK L] := hsn
              replace hns : L ∉ ((sersX ss).take j).map (·.1) → (((sersX ss).take (j + 1)).map (·.1)).Nodup := hns
              replace hnn : L ∈ ((sersX ss).take j).map (·.1) → ¬ ((sersX ss).map (·.1)).Nodup := hnn
              obtain ⟨gl1, gl2, gl3, gl4, gl5⟩ := hgd.lab
              have gt2 := hgd.sl
              have gt3 := hgd.sc
              simp only [] at c0 c1 gl1 gl2 gl3 gl4 gl5 gt2 gt3
              obtain ⟨ln, hln⟩ : ∃ ln, L.length = ln := ⟨_, rfl⟩
              obtain ⟨tn, htn⟩ : ∃ tn, T.length = tn := ⟨_, rfl⟩
              rw [hln] at c0 gl2
              rw [htn] at c1 gt2
              have q1 : (0 : Int) ≤ (j : Int) := by omega
              subst had
              obtain ⟨W6, hW6⟩ : ∃ W6, wr.alloc (.cells #[.slice LA ln lc, .slice TA tn tc] 50) = W6 := ⟨_, rfl⟩
              obtain ⟨q6, hq6⟩ : ∃ q6, wr.heap.size = q6 := ⟨_, rfl⟩
              have hb6 : Below wr.heap.size wr W6 := by rw [← hW6]; exact one_allocB _ _
              have k6 : Blk W6 q6 50 #[.slice LA ln lc, .slice TA tn tc] := by rw [← hW6]; exact Blk.newM _ _ _ _ hq6
              have hTx := lbtext_any LA ln lc L hln (by omega) W6 (gl5.next hb6) gl1 (tS.out.next (bnext hb0.out (bnext hb1.out (bnext hbr.out (bnext hbr2.out hb6)))))
              rw [text_chk hchL] at hTx
              dsimp only at hTx
              have hkl : (keysX ((sersX ss).take j)).length = j := by unfold keysX; rw [List.length_map, List.length_take, hsx.out, Nat.min_eq_left (by omega)]
              have hCt := fun (w' : World) (hb : Below W6.heap.size W6 w') => containsS_any A3 j c3 (keysX ((sersX ss).take j)) hkl (by omega) (txK L) w' ((Has.of_own hks.out).next (bnext hb6 hb))
              obtain ⟨key, hkey⟩ : ∃ key, txK L = key := ⟨_, rfl⟩
              rw [hkey] at hTx hhk hsn
              simp only [hkey] at hCt
              obtain ⟨bb, hbb⟩ : ∃ bb, hasS key (keysX ((sersX ss).take j)) = bb := ⟨_, rfl⟩
              rw [hbb] at hhk
              simp only [hbb] at hCt
              replace hhk := Lib.hid hhk
              replace hsn := Lib.hid hsn
              replace hns := Lib.hid hns
              replace hnn := Lib.hid hnn
              replace hTx := Lib.hid hTx
              replace hCt := Lib.hid hCt
              have HW6 := Lib.hid hW6
              have Hq6 := Lib.hid hq6
              replace hb6 := Lib.hid hb6
              replace k6 := Lib.hid k6
              clear hp hatx hbb hkey hkl hln htn hjl hjx hmem hgd hW6 hq6 gl1 gl5 hchL
              go_upto_region 20 with fail
              rw [HW6.out, Hq6.out]
              have y0 : W6.cell? ⟨q6, 0, none⟩ = some (.slice LA ln lc) := k6.out.cell 0
              go_wp2_with fail
              refine hTx.out.mono ?_
              rintro e' w7 ⟨rfl, hb7⟩
              have hb27 := Lib.hid (bnext hbr2.out (bnext hb6.out hb7))
              have hC7 := Lib.hid (hCt.out w7 hb7)
              have hks7 := own_next hks.out (bnext hb6.out hb7)
              have hsz7 : wA.heap.size ≤ w7.heap.size := hb27.out.size
              clear y0 hb7
              cases bb with
              | true =>
                have hNe := Lib.hid (show N = ([], 8) by rw [HN3.out, if_pos (hnn.out (hhk.out.1 rfl))])
                clear hks7
                go_wp2_with fail
                refine hC7.out.mono ?_
                rintro e' w8 ⟨rfl, hw8⟩
                obtain rfl := hw8.symm
                go_wp2_with fail
                go_ret2
                exact RV.mk (EvalP.err hNe.out (bnext hbwr0.out hb27.out))
              | false =>
                have hno : L ∉ ((sersX ss).take j).map (·.1) := fun h => by have := hhk.out.2 h; cases this
                have hns2 := Lib.hid (hns.out hno)
                clear hno
                go_wp2_with fail
                refine hC7.out.mono ?_
                rintro e' w8 ⟨rfl, hw8⟩
                obtain rfl := hw8.symm
                go_wp2_with (at_builtin; refine wpList_append1 rfl _ _ _ rfl elStrX rfl hks7 rfl rfl rfl ?_ ?k1 ?k2 ?k3 ?k4; intro A8 c8 w9 hown8 hgrow8 hbel8)
                case k1 => first | rfl | (intro u hu; simp at hu; subst hu; rfl)
                case k2 => omega
                case k3 => unfold maxLen; omega
                case k4 => exact hsz7
                all_goals
                  have ho9 := Lib.hid (show w9.ownsRow wA.heap.size 9 1 (.slice A8 (j + 1) c8) (j + 1) (strCs (keysX ((sersX ss).take (j + 1)))) by rw [hsn.out]; unfold strCs; rw [List.flatMap_append]; exact hown8)
                  have hb9 := Lib.hid (hb27.out.trans hbel8)
                  clear hown8 hgrow8 hbel8 hks7
                  go_wp2_with fail
                  go_roundw
                  case rel => exact ⟨j + 1, c8, A8, by omega, by go_num, rfl, ho9, hns2, hb9⟩
                  case measure => simp [intOf]; omega
            · obtain rfl : sn = j := by omega
              have hall : (sersX ss).take sn = sersX ss := List.take_of_length_le (by rw [hsx.out]; exact Nat.le_refl _)
              rw [hall] at hnd
              have HN4 := Lib.hid (show N = if now < -1152921504606846976 ∨ 1152921504606846976 < now then ([], 6) else (e.ev (sersX ss) now, 0) by rw [HN3.out, if_neg (by simpa using hnd.out)])
              clear HN3 hall
              by_cases hn1 : now < -1152921504606846976
              · have hNe := Lib.hid (show N = ([], 6) by rw [HN4.out, if_pos (.inl hn1)])
                have d1 : decide (now < -1152921504606846976) = true := decide_eq_true hn1
                go_wp2_with fail
                go_ret2
                exact RV.mk (EvalP.err hNe.out (bnext hbwr0.out hbr2.out))
              by_cases hn2 : 1152921504606846976 < now
              · have hNe := Lib.hid (show N = ([], 6) by rw [HN4.out, if_pos (.inr hn2)])
                have d1 : decide (now < -1152921504606846976) = false := decide_eq_false hn1
                have d2 : decide (1152921504606846976 < now) = true := decide_eq_true hn2
                go_wp2_with fail
                go_ret2
                exact RV.mk (EvalP.err hNe.out (bnext hbwr0.out hbr2.out))
              have hNe := Lib.hid (show N = (e.ev (sersX ss) now, 0) by rw [HN4.out, if_neg (by omega)])
              have d1 : decide (now < -1152921504606846976) = false := decide_eq_false hn1
              have d2 : decide (1152921504606846976 < now) = false := decide_eq_false hn2
              clear HN4
              have hchk' := hchk.out
              have hallok : AllOk (sersX ss) := ⟨fun s hs => (sersErr_iff.1 hse.out s hs).1, fun s hs => (sersErr_iff.1 hse.out s hs).2, fun s hs x hx => by
                obtain ⟨y, hy, rfl⟩ := List.mem_map.1 hs
                exact ((hgood.out y hy).xs x hx).2, hnd.out⟩
              obtain ⟨wC, rfl⟩ : ∃ wC : World, wC = wr := ⟨wr, rfl⟩
              have hEW : EvW SA sn sc ss now wC := EvW.next ⟨Hn.out, hsn200, hs1, hs2, by omega, by omega, hgood.out, hallok, has.out, tS.out, hlen.out⟩ hbw2.out
              have hl2 := ev_len hallok (by rw [hsx.out]; exact hsn200) now e hNu
              obtain ⟨R, hR⟩ : ∃ R, e.ev (sersX ss) now = R := ⟨_, rfl⟩
              have hE := HEv.out wC (bnext hb1.out (bnext hbr.out hbr2.out)) hchk' hEW
              rw [hR] at hE hl2 hNe
              replace hE : Calls Tryz.prog 29 #[.agg #[.slice SA sn sc, .int .i64 now], .agg #[.int .i64 e.kind, .int .i64 e.n, .int .i64 e.w, .slice e.ma e.m.length e.mc, .slice e.ba e.b.length e.bc, .slice e.xa e.x.length e.xc]] wC (RV (RowsP R wC)) := hE
              have kxr := kx1.out.next (bnext hbr.out hbr2.out)
              have z0 : wC.cell? ⟨q, 0, none⟩ = some (.int .i64 e.kind) := kxr.cell 0
              have z1 : wC.cell? ⟨q, 1, none⟩ = some (.int .i64 e.n) := kxr.cell 1
              have z2 : wC.cell? ⟨q, 2, none⟩ = some (.int .i64 e.w) := kxr.cell 2
              have z3 : wC.cell? ⟨q, 3, none⟩ = some (.slice e.ma e.m.length e.mc) := kxr.cell 3
              have z4 : wC.cell? ⟨q, 4, none⟩ = some (.slice e.ba e.b.length e.bc) := kxr.cell 4
              have z5 : wC.cell? ⟨q, 5, none⟩ = some (.slice e.xa e.x.length e.xc) := kxr.cell 5
              replace hE := Lib.hid hE
              clear hEW hallok hR kxr hchk' hn1 hn2 hNu
              go_wp2_with fail
              refine hE.out.mono ?_
              rintro e9 w2 ⟨u2, rfl, A2, n2, c2, es2, rfl, hR2, hb2⟩
              have hR2 : Hid (RowsAt w2 wC.heap.size A2 n2 c2 es2 R) := Lib.hid hR2
              replace hb2 := Lib.hid hb2
              have hn2 : n2 ≤ 200 := by rw [← hR2.out.lenN]; exact hl2
              clear z0 z1 z2 z3 z4 z5 hl2
              go_wp2_with fail
              go_loopw [18, 80] (fun s i wr' => ∃ (j c5 : Nat) (A5 : Option Addr) (es5 : List RowE), j ≤ n2 ∧ i = .int .i64 (j : Nat) ∧ s = .slice A5 j c5 ∧ Hid (ApiAt wr' w2.heap.size wC.heap.size A5 j c5 es5 (R.take j)) ∧ Hid (Below w2.heap.size w2 wr')) (fun _ i _ => n2 + 5 - (intOf i).toNat)
              case atStart => exact ⟨0, 0, none, [], by omega, rfl, rfl, Lib.hid (ApiAt.nil _ _ _), Lib.hid (Below.refl _ _)⟩
              case round =>
                obtain ⟨j, c5, A5, es5, hj, rfl, rfl, hAp, hbr3⟩ := hrel
                by_cases hlt3 : (j : Int) < (n2 : Int)
                · have hje : j < es2.length := by rw [hR2.out.len]; omega
                  have hjl : j < R.length := by rw [hR2.out.lenN]; omega
                  have hR2r := hR2.out.next hbr3.out
                  obtain ⟨ad2, had2, _, d0, d1, d2⟩ := rowCs_cells (Has.of_own hR2r.own) hje
                  have hlab := hR2r.labs _ (at_mem hje)
                  have hat : at_ R j = (at_ es2 j).r := by rw [← hR2.out.map, map_at hje]
                  have htk : R.take (j + 1) = R.take j ++ [(at_ es2 j).r] := by rw [List.take_add_one, List.getElem?_eq_getElem hjl, ← hat, at_eq hjl]; rfl
                  obtain ⟨⟨RA, rc, L, v⟩, hp⟩ : ∃ p, at_ es2 j = p := ⟨_, rfl⟩
                  rw [hp] at d0 d1 d2 hlab htk
                  simp only [] at d0 d1 d2 htk
                  obtain ⟨ln, hln⟩ : ∃ ln, L.length = ln := ⟨_, rfl⟩
                  rw [hln] at d1
                  have q1 : (0 : Int) ≤ (j : Int) := by omega
                  subst had2
                  have hlc : (RowE.mk RA rc (L, v)).r.1.length = ln := hln
                  obtain ⟨W6, hW6⟩ : ∃ W6, wr.alloc (.cells #[.string (txK L), .slice RA ln rc, .int .i64 v] 72) = W6 := ⟨_, rfl⟩
                  obtain ⟨q6, hq6⟩ : ∃ q6, wr.heap.size = q6 := ⟨_, rfl⟩
                  have hb6 : Below wr.heap.size wr W6 := by rw [← hW6]; exact one_allocB _ _
                  have k6 : Blk W6 q6 72 #[.string (txK L), .slice RA ln rc, .int .i64 v] := by rw [← hW6]; exact Blk.newM _ _ _ _ hq6
                  have ho6 := own_next hAp.out.own hb6
                  have hsz6 : w2.heap.size ≤ W6.heap.size := Nat.le_trans hbr3.out.size hb6.size
                  have y1 : W6.cell? ⟨q6, 1, none⟩ = some (.slice RA ln rc) := k6.cell 1
                  have y2 : W6.cell? ⟨q6, 1 + 1, none⟩ = some (.int .i64 v) := k6.cell 2
                  replace htk := Lib.hid htk
                  replace hlab := Lib.hid (RowOwn.next hlab hb6)
                  replace hln := Lib.hid hln
                  replace hb6 := Lib.hid hb6
                  have HW6 := Lib.hid hW6
                  have Hq6 := Lib.hid hq6
                  clear hW6 hq6 hR2r hje hjl hp hat k6 hlc
                  go_upto_region 31 with fail
                  rw [HW6.out, Hq6.out]
                  clear d0 d1 d2
                  go_wp2_with (at_builtin; refine wpList_append1 rfl _ _ _ rfl elApi rfl ho6 rfl rfl rfl ?_ ?k1 ?k2 ?k3 ?k4; intro A8 c8 w9 hown8 hgrow8 hbel8)
                  case k1 => first | exact ⟨rfl, rfl⟩ | (intro u hu; simp at hu; rcases hu with rfl | rfl <;> rfl)
                  case k2 => omega
                  case k3 => unfold maxLen; omega
                  case k4 => exact hsz6
                  all_goals
                    replace hown8 := Lib.hid hown8
                    replace hgrow8 := Lib.hid hgrow8
                    have hb9 := Lib.hid ((hbr3.out.trans (hb6.out.mono hbr3.out.size)).trans hbel8)
                    clear hbel8 ho6 y1 y2
                    go_wp2_with fail
                    go_roundw
                    case rel =>
                      have hh := hln.out
                      subst hh
                      refine ⟨j + 1, c8, A8, es5 ++ [⟨RA, rc, (L, v)⟩], by omega, by go_num, rfl, Lib.hid ?_, hb9⟩
                      rw [htk.out]
                      exact hAp.out.snoc (e := ⟨RA, rc, (L, v)⟩) hb6.out hlab.out hown8.out hgrow8.out
                    case measure => simp [intOf]; omega
                · obtain rfl : n2 = j := by omega
                  have hall : R.take n2 = R := List.take_of_length_le (by rw [hR2.out.lenN]; exact Nat.le_refl _)
                  rw [hall] at hAp
                  clear hall
                  go_wp2_with fail
                  go_ret2
                  exact RV.mk (EvalP.fine hNe.out (hAp.out.less (Nat.le_trans hbw2.out.size hb2.out.size) hbw2.out.size) (bnext hbw2.out (bnext hb2.out hbr3.out)))
end Go.Proofs.YtnicbhmeigpjkaaGreatDoor
namespace Go.Proofs.YtnicbhmeigpjkaaGreatDoor
open Go.RowKit

theorem Has.of_blk {w : World} {g : Nat} {t : TypeId} {cs : Array Value} (h : Blk w g t cs) : Has w w.heap.size (some ⟨g, 0, none⟩) cs.toList := fun _ => by
  refine ⟨_, rfl, h.lt, fun j u hu => ?_⟩
  have hadd : (⟨g, 0, none⟩ : Addr).add j = ⟨g, j, none⟩ := by unfold Addr.add; split <;> simp_all
  rw [hadd]
  rw [h.cell j]
  simpa using hu
/-- an expression of a kind with parts, and names -/
def kidE (k : Int) (ba : Option Addr) (bc : Nat) (b : List ByteArray) (g : Nat) (x : List ExE) : ExE := .mk k 0 0 none 0 [] ba bc b (some ⟨g, 0, none⟩) x.length x
theorem kidE_G {k : Int} (hk : in64 k) {w : World} {ba : Option Addr} {bc : Nat} {b : List ByteArray} (b1 : ∀ s ∈ b, s.size ≤ maxLen) (b2 : b.length ≤ bc) (b3 : bc ≤ maxLen) (b4 : ba = none → bc = 0) (b5 : Has w w.heap.size ba (strCs b)) (b6 : b.length ≤ 1048576)
    {g : Nat} {x : List ExE} (hx : ∀ y ∈ x, y.G w) (hl : x.length ≤ maxLen) (hh : Has w w.heap.size (some ⟨g, 0, none⟩) (exCs x)) : (kidE k ba bc b g x).G w :=
  .mk ⟨hk, (show in64 0 from ⟨by decide, by decide⟩), (show in64 0 from ⟨by decide, by decide⟩), (fun _ hx => absurd hx (List.not_mem_nil)), Nat.le_refl _, Nat.zero_le _, (fun _ => rfl), Has.nil _ _ _, b1, b2, b3, b4, b5, b6, Nat.le_refl _, hl, (fun h => by cases h), hh⟩ hx
theorem kidE_G0 {k : Int} (hk : in64 k) {w : World} {g : Nat} {x : List ExE} (hx : ∀ y ∈ x, y.G w) (hl : x.length ≤ maxLen) (hh : Has w w.heap.size (some ⟨g, 0, none⟩) (exCs x)) : (kidE k none 0 [] g x).G w :=
  kidE_G hk (fun _ hx => absurd hx (List.not_mem_nil)) (Nat.le_refl _) (Nat.zero_le _) (fun _ => rfl) (Has.nil _ _ _) (Nat.zero_le _) hx hl hh
theorem evalN_err {e : ExE} {all : List (List Lab × List Smp)} {now : Int} : (evalN e all now = (e.ev all now, 0)) ∨ ∃ k, k ≠ 0 ∧ evalN e all now = ([], k) := by
  unfold evalN
  by_cases h1 : e.chkT = 0
  · rw [if_neg (by simpa using h1)]
    by_cases h2 : 200 < all.length
    · rw [if_pos h2]; exact .inr ⟨2, by decide, rfl⟩
    · rw [if_neg h2]
      by_cases h3 : sersErr all = 0
      · rw [if_neg (by simpa using h3)]
        by_cases h4 : (all.map (·.1)).Nodup
        · rw [if_neg (by simpa using h4)]
          by_cases h5 : now < -1152921504606846976 ∨ 1152921504606846976 < now
          · rw [if_pos h5]; exact .inr ⟨6, by decide, rfl⟩
          · rw [if_neg h5]; exact .inl rfl
        · rw [if_pos (by simpa using h4)]; exact .inr ⟨8, by decide, rfl⟩
      · rw [if_pos (by simpa using h3)]; exact .inr ⟨_, h3, rfl⟩
  · rw [if_pos (by simpa using h1)]; exact .inr ⟨_, h1, rfl⟩
theorem apiCs_at {l : List RowE} {k r : Nat} (h : k < l.length) (hr : r < 2) : (apiCs l)[k * 2 + r]? = (apiC (at_ l k))[r]? := flat_at (f := apiC) (C := 2) (fun _ => rfl) h hr
theorem apiCs_cells {w : World} {B : Nat} {A : Option Addr} {l : List RowE} (h : Has w B A (apiCs l)) {k : Nat} (hk : k < l.length) :
    ∃ ad, A = some ad ∧ ad.block < B ∧ w.cell? (ad.add (k * 2)) = some (.slice (at_ l k).A (at_ l k).r.1.length (at_ l k).c) ∧ w.cell? ⟨(ad.add (k * 2)).block, (ad.add (k * 2)).off + 1, none⟩ = some (.int .i64 (at_ l k).r.2) := by
  obtain ⟨ad, rfl, hb, c0⟩ := h.at (apiCs_at hk (show 0 < 2 by decide))
  refine ⟨ad, rfl, hb, c0, ?_⟩
  obtain ⟨ad', e', _, c⟩ := h.at (apiCs_at hk (show 1 < 2 by decide)); injection e' with e'; subst e'; exact cell_off c (by decide)
theorem laid_tail {P : Program} {x : String × DataW Unit} {l : List (String × DataW Unit)} {w : World} (h : laidMet P (x :: l) w) : laidMet P l w := by
  obtain ⟨n, d⟩ := x
  obtain ⟨ps, ⟨g, t, cs, fuel, p, q, e1, e2, e3, e4, hr, rfl⟩, hnd, hrows⟩ := h
  exact ⟨q, hr, hnd.sublist (List.sublist_append_right _ _), fun b off hp => hrows b off (List.mem_append_right _ hp)⟩
end Go.Proofs.YtnicbhmeigpjkaaGreatDoor
