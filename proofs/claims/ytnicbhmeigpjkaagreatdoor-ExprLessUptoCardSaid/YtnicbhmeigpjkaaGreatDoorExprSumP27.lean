/- Texts of the proof of ExprSum, joined (by merge.py). Conditions: each theorem's own hypotheses. -/
import Derived.Test.YtnicbhmeigpjkaaGreatDoorExprSumP3
import Derived.Test.YtnicbhmeigpjkaaGreatDoorExprSumP11
import Derived.Test.YtnicbhmeigpjkaaGreatDoorExprSumP13
import Derived.Test.YtnicbhmeigpjkaaGreatDoorExprSumP15
import Derived.Test.YtnicbhmeigpjkaaGreatDoorExprSumP20
import Derived.Test.YtnicbhmeigpjkaaGreatDoorExprSumP21
import Derived.Test.YtnicbhmeigpjkaaGreatDoorExprSumP23
import Derived.Test.YtnicbhmeigpjkaaGreatDoorExprSumP24
import Derived.Test.YtnicbhmeigpjkaaGreatDoorExprSumP26
import Derived.Sort.LotA
import Derived.Sort.OwnSorted
import Derived.Shelf.SlSortCmp.NoneTotal
import Derived.Deep.CutRange
namespace Go.Proofs.YtnicbhmeigpjkaaGreatDoor
open Go.RowKit Go.Sort

theorem flatK_listR (M : List RowE) : (flatK rowC 3 M.toArray).toList = rowCs M := by
  apply List.ext_getElem?
  intro t
  by_cases h : t < M.length * 3
  · have hk : t / 3 < M.length := by omega
    have h1 := flat_at (f := rowC) (C := 3) (fun _ => rfl) hk (r := t % 3) (Nat.mod_lt _ (by decide))
    have h2 : t / 3 * 3 + t % 3 = t := by omega
    rw [h2] at h1
    have h3 := get_flatK rowC 3 M.toArray t (by simpa using h)
    have hs : t < (flatK rowC 3 M.toArray).toList.length := by simpa using h
    rw [List.getElem?_eq_getElem hs, Array.getElem_toList, ← getElem!_pos (flatK rowC 3 M.toArray) t (by simpa using h), h3]
    unfold rowCs
    rw [h1]
    have h4 : M.toArray[t / 3]! = at_ M (t / 3) := by rw [at_eq hk]; simp [hk]
    rw [h4]
    rcases (show t % 3 = 0 ∨ t % 3 = 1 ∨ t % 3 = 2 by omega) with h5 | h5 | h5 <;> rw [h5] <;> rfl
  · rw [List.getElem?_eq_none (by simp; omega), List.getElem?_eq_none (by rw [rowCs_len]; omega)]
theorem holds_flatR {w : World} {g : Nat} {cur F : Array Value} {e : TypeId} (hb : w.heap[g]? = some (.cells cur e (0, 0))) (ht : cur.toList.take F.size = F.toList) : Holds id w g 0 F := by
  intro j hj
  refine ⟨?_, by simp [World.frozen?, hb]⟩
  have h1 : (cur.toList.take F.size)[j]? = F.toList[j]? := by rw [ht]
  rw [List.getElem?_take_of_lt hj] at h1
  simp only [World.cell?, hb, Nat.zero_add]
  simp only [Option.isSome_none, Bool.false_eq_true, if_false]
  rw [← Array.getElem?_toList, h1]
  simp [hj]
theorem heap_flatR {w : World} {g n : Nat} {os : Array Obj} {cur : Array Value} {e : TypeId} {fr : Nat × Nat} (F : Array Value) (hb : w.heap[g]? = some (.cells cur e fr)) :
    (grow (putRow id (Sort.ahead w n) g 0 F) os).heap[g]? = some (.cells (putCells id 0 F cur) e fr) := by
  have hg : g < w.heap.size := (Array.getElem?_eq_some_iff.1 hb).1
  rw [heap_grow_old _ _ (by simpa using hg)]
  simp [putRow, mapBlock, Sort.ahead, Array.getElem?_modify, hb, onCells]
theorem grownBy_flatR {w : World} {g n : Nat} {os : Array Obj} (F : Array Value) : w.grownBy (grow (putRow id (Sort.ahead w n) g 0 F) os) (some g) := by
  refine ⟨rfl, rfl, rfl, by simp, fun k hk hne => ?_⟩
  rw [heap_grow_old _ _ (by simpa using hk)]
  have : g ≠ k := fun e => hne (by rw [e])
  simp [putRow, mapBlock, Sort.ahead, Array.getElem?_modify, this]
theorem take_flatR (cur F : Array Value) (h : F.size ≤ cur.size) : (putCells id 0 F cur).toList.take F.size = F.toList := by
  apply List.ext_getElem?
  intro j
  by_cases hj : j < F.size
  · rw [List.getElem?_take_of_lt hj, Array.getElem?_toList]
    simp [putCells, hj, show j < cur.size by omega]
  · rw [List.getElem?_take_eq_none (by omega), List.getElem?_eq_none (by simp; omega)]
theorem rowC_one (x : RowE) : ∀ v ∈ rowC x, v.oneCell' = true := by
  intro v hv
  simp [rowC] at hv
  rcases hv with rfl | rfl | rfl <;> rfl
theorem eval1_lays (blk off size : Nat) (w : World) : CmpLays Tryz.prog 56 #[] rowC 3 cfR blk off size w := fun _ _ _ _ x y => eval1_any x y _
def SortP (base : Nat) (A : Option Addr) (n c : Nat) (l : List RowN) (w w' : World) : Prop := ∃ es, RowsAt w' base A n c es (sortR l) ∧ Below base w w'
theorem sortRows_any (A : Option Addr) (n c : Nat) (es : List RowE) (l : List RowN) (base : Nat) (hok : RowsOk l) (hn : n ≤ 1000) (w : World) (hR : RowsAt w base A n c es l) (hbase : base ≤ w.heap.size) :
    Calls Tryz.prog 55 #[.slice A n c, .func (.func 56) #[] #[]] w (R1 (.tuple #[]) (SortP base A n c l w)) := by
  rcases hR.own.2 with ⟨hv, hn0⟩ | ⟨g, cap, cur, hv, hbg, hgc, h1, h2, h3, h4⟩
  · injection hv with e1 e2 e3
    subst e1 hn0 e3
    obtain rfl : es = [] := List.length_eq_zero_iff.1 hR.len
    obtain rfl : l = [] := by rw [← hR.map]; rfl
    refine (AnyF.slices_SortFunc_none Tryz.laysSortR none 0 (.func (.func 56) #[] #[]) w).mono ?_
    rintro e w' ⟨rfl, rfl⟩
    exact ⟨rfl, [], by rw [show sortR [] = [] from List.eq_nil_of_length_eq_zero (by rw [sortR_len]; rfl)]; exact hR, Below.refl _ _⟩
  · injection hv with e1 e2 e3
    subst e1 e3
    have eg : ∀ args w, (callFunc 56 args).run Tryz.prog w = .ok (.enter 56 args) w := enters_of Tryz.func56 (by kernel_rfl) rfl
    have hH : HoldsK rowC 3 w g 0 es.toArray := holds_flatR hgc (by rw [flatK_listR, size_flatK, List.size_toArray, hR.len]; exact h4)
    have hcon := AnyQ.slices_SortFunc Tryz.laysSortR 3 Tryz.isAgg72 Tryz.sizeOf72 rowC (fun _ => rfl) rowC_one cfR swoR 56 #[] g 0 c es.toArray w eg (eval1_lays g 0 _ w) hH (Array.getElem?_eq_some_iff.1 hgc).1 (by rw [List.size_toArray, hR.len]; omega)
    rw [List.size_toArray, hR.len] at hcon
    refine hcon.mono ?_
    rintro e w' ⟨rfl, d', q, os, hp, hs, rfl⟩
    obtain ⟨es', rfl⟩ : ∃ l : List RowE, d' = l.toArray := ⟨d'.toList, by simp⟩
    obtain ⟨hp1, _, hp3⟩ := hp
    have hlen : es'.length = n := by rw [← hR.len]; simpa using hp1
    have hperm : es'.Perm es := by
      have : (es'.toArray.extract 0 n).toList.Perm (es.toArray.extract 0 n).toList := hp3
      simpa [hlen, hR.len, List.take_of_length_le (Nat.le_of_eq hlen), List.take_of_length_le (Nat.le_of_eq hR.len)] using this
    have hup : UpR (es'.map (·.r)) := by
      refine List.pairwise_map.2 (List.pairwise_iff_getElem.2 fun i j hi hj hij => ?_)
      have := hs i j (Nat.zero_le _) hij (by omega)
      rw [ltR, decide_eq_false_iff_not] at this
      have e1 : es'.toArray[j]! = es'[j] := by simp [hj]
      have e2 : es'.toArray[i]! = es'[i] := by simp [hi]
      rw [e1, e2] at this
      exact List.not_lt.1 this
    have hmap : es'.map (·.r) = sortR l := sortR_of txInj hok (by rw [← hR.map]; exact hperm.map _) hup
    have hgb : w.grownBy (sortWorldK rowC 3 w g 0 q es'.toArray os) (some g) := grownBy_flatR _
    refine ⟨rfl, es', ⟨hlen, hmap, ⟨by rw [rowCs_len, hlen], .inr ⟨g, c, _, rfl, hbg, heap_flatR _ hgc, h1, h2, by simp [putCells, h3], ?_⟩⟩, fun y hy => ?_⟩, (Below.refl _ _).grown hgb hbase (fun k hk => by injection hk with hk; omega)⟩
    · have hs : (flatK rowC 3 es'.toArray).size = n * 3 := by simp [hlen]
      have h := take_flatR cur (flatK rowC 3 es'.toArray) (by rw [hs, h3]; omega)
      rw [hs, flatK_listR] at h
      exact h
    · have hy' := hR.labs y (hperm.mem_iff.1 hy)
      exact RowsAt.snoc.own_keepX hy' hgb (RowsAt.snoc.own_apartX hy' hR.own (by decide))
end Go.Proofs.YtnicbhmeigpjkaaGreatDoor
namespace Go.Proofs.YtnicbhmeigpjkaaGreatDoor
open Go.RowKit

/-- what Check has told of an expression -/
theorem chk_parts {e : ExE} (h : e.chk = 0) : (¬ badX e.kind e.n e.w e.m.length e.b.length e.x.length) ∧ chkM e.m = 0 ∧ chkL (byL e.b) = 0 ∧ ∀ y ∈ e.x, y.chk = 0 := by
  rw [e.chk_eq] at h
  obtain ⟨h1, h2⟩ := fstE_iff.1 h
  unfold ownX at h1
  by_cases hb : badX e.kind e.n e.w e.m.length e.b.length e.x.length
  · rw [if_pos hb] at h1; cases h1
  · rw [if_neg hb] at h1
    obtain ⟨h3, h4⟩ := fstE_iff.1 h1
    refine ⟨hb, h3, h4, ?_⟩
    generalize e.x = x at h2
    induction x with
    | nil => intro y hy; cases hy
    | cons z x ih =>
      simp only [ExE.chkL] at h2
      obtain ⟨h5, h6⟩ := fstE_iff.1 h2
      intro y hy
      rcases List.mem_cons.1 hy with e1 | e1
      · rw [e1]; exact h5
      · exact ih h6 y e1
theorem own_take1 (cs : Array Value) {size : Nat} (hs : cs.size = size) : cs.toList.take (1 * size) = cs.toList := by
  rw [Nat.one_mul, ← hs]
  exact List.take_of_length_le (Nat.le_refl _)
theorem own_made1 {w : World} {base size : Nat} {e : TypeId} (cs : Array Value) (hs : cs.size = size) (hb : base ≤ w.heap.size) : (w.alloc (.cells cs e)).ownsRow base e size (.slice (some ⟨w.heap.size, 0, none⟩) 1 1) 1 cs.toList :=
  ⟨by rw [Nat.one_mul]; exact hs, .inr ⟨w.heap.size, 1, cs, rfl, hb, heap_alloc_new w _, Nat.le_refl _, by unfold maxLen; omega, by rw [Nat.one_mul]; exact hs, own_take1 cs hs⟩⟩
/-- what lies around an evaluation -/
structure EvW (SA : Option Addr) (sn sc : Nat) (ss : List SerE) (now : Int) (w : World) : Prop where
  len : ss.length = sn
  s200 : sn ≤ 200
  sc1 : sn ≤ sc
  sc2 : sc ≤ maxLen
  now1 : -1152921504606846976 ≤ now
  now2 : now ≤ 1152921504606846976
  good : ∀ s ∈ ss, s.good w
  all : AllOk (sersX ss)
  has : Has w w.heap.size SA (sersC ss)
  sg : SgAt w
  ml : LenAt w
theorem EvW.next {SA : Option Addr} {sn sc : Nat} {ss : List SerE} {now : Int} {w w' : World} (h : EvW SA sn sc ss now w) (hb : Below w.heap.size w w') : EvW SA sn sc ss now w' :=
  { h with good := fun s hs => (h.good s hs).next hb, has := h.has.next hb, sg := h.sg.next hb, ml := h.ml.next hb }
set_option maxRecDepth 1000000 in
set_option maxHeartbeats 8000000 in
theorem xeval_any (SA : Option Addr) (sn sc : Nat) (ss : List SerE) (now : Int) : ∀ (e : ExE) (w : World), e.G w → e.chk = 0 → EvW SA sn sc ss now w →
    Calls Tryz.prog 29 #[.agg #[.slice SA sn sc, .int .i64 now], exV e] w (RV (RowsP (e.ev (sersX ss) now) w)) := by
  refine ExE.induct fun e ih => ?_
  intro w hG hchk hW
  obtain ⟨hbad, hcm, hcb, hsubc⟩ := chk_parts hchk
  have hnu := ExE.G.nu e hG
  have hsl : (sersX ss).length ≤ 200 := by rw [sersX_len, hW.len]; exact hW.s200
  have hIH : ∀ y ∈ e.x, ∀ W, Below w.heap.size w W → Calls Tryz.prog 29 #[.agg #[.slice SA sn sc, .int .i64 now], exV y] W (RV (RowsP (y.ev (sersX ss) now) W)) := fun y hy W hb => ih y hy W (ExE.G.next hb y (hG.sub y hy)) (hsubc y hy) (hW.next hb)
  have hRok : ∀ y ∈ e.x, RowsOk (y.ev (sersX ss) now) := fun y hy => RowsOk.ev hW.all now y (hnu.sub y hy)
  have hRln : ∀ y ∈ e.x, (y.ev (sersX ss) now).length ≤ 200 := fun y hy => ev_len hW.all hsl now y (hnu.sub y hy)
  have hEv := e.ev_eq (sersX ss) now
  rw [ExE.evL_map] at hEv
  have hraw : RowsOk (rawN (sersX ss) now e.kind e.n e.w e.m e.b (e.x.map (ExE.ev (sersX ss) now))) := RowsOk.raw hW.all now _ _ _ _ _ hnu.num (fun r hr => by obtain ⟨y, hy, rfl⟩ := List.mem_map.1 hr; exact hRok y hy)
  have hlen := ev_len hW.all hsl now e hnu
  rw [hEv, sortR_len] at hlen
  obtain ⟨raw, hr⟩ : ∃ raw, rawN (sersX ss) now e.kind e.n e.w e.m e.b (e.x.map (ExE.ev (sersX ss) now)) = raw := ⟨_, rfl⟩
  rw [hEv, hr]
  rw [hr] at hraw hlen
  have ho := hG.own
  obtain ⟨W1, hW1⟩ : ∃ W1, w.alloc (.cells #[.slice SA sn sc, .int .i64 now] 69) = W1 := ⟨_, rfl⟩
  obtain ⟨W0, hW0⟩ : ∃ W0, W1.alloc (.cells #[.int .i64 e.kind, .int .i64 e.n, .int .i64 e.w, .slice e.ma e.m.length e.mc, .slice e.ba e.b.length e.bc, .slice e.xa e.x.length e.xc] 28) = W0 := ⟨_, rfl⟩
  obtain ⟨q, hq⟩ : ∃ q, w.heap.size = q := ⟨_, rfl⟩
  have hb1 : Below w.heap.size w W1 := by rw [← hW1]; exact one_allocB _ _
  have hb0' : Below W1.heap.size W1 W0 := by rw [← hW0]; exact one_allocB _ _
  have hb0 : Below w.heap.size w W0 := bnext hb1 hb0'
  have hq1 : W1.heap.size = q + 1 := by rw [← hW1, ← hq]; simp
  have ka : Blk W0 q 69 #[.slice SA sn sc, .int .i64 now] := Blk.next (by rw [← hW1]; exact Blk.newM _ _ _ _ hq) hb0'
  have kx : Blk W0 (q + 1) 28 #[.int .i64 e.kind, .int .i64 e.n, .int .i64 e.w, .slice e.ma e.m.length e.mc, .slice e.ba e.b.length e.bc, .slice e.xa e.x.length e.xc] := by rw [← hW0]; exact Blk.newM _ _ _ _ hq1
  have a0 : W0.cell? ⟨q, 0, none⟩ = some (.slice SA sn sc) := ka.cell 0
  have a1 : W0.cell? ⟨q, 1, none⟩ = some (.int .i64 now) := ka.cell 1
  have x0 : W0.cell? ⟨q + 1, 0, none⟩ = some (.int .i64 e.kind) := kx.cell 0
  have x1 : W0.cell? ⟨q + 1, 1, none⟩ = some (.int .i64 e.n) := kx.cell 1
  have x2 : W0.cell? ⟨q + 1, 2, none⟩ = some (.int .i64 e.w) := kx.cell 2
  have x3 : W0.cell? ⟨q + 1, 3, none⟩ = some (.slice e.ma e.m.length e.mc) := kx.cell 3
  have x4 : W0.cell? ⟨q + 1, 4, none⟩ = some (.slice e.ba e.b.length e.bc) := kx.cell 4
  have x5 : W0.cell? ⟨q + 1, 5, none⟩ = some (.slice e.xa e.x.length e.xc) := kx.cell 5
  have ml : e.m.length ≤ e.mc := ho.ml
  have hmc : e.mc ≤ maxLen := ho.mc
  have bl : e.b.length ≤ e.bc := ho.bl
  have hbc : e.bc ≤ maxLen := ho.bc
  have xl : e.x.length ≤ e.xc := ho.xl
  have hxc : e.xc ≤ maxLen := ho.xc
  have HP := Lib.hid (fun (w' : World) => xparts_any e.kind w')
  have hG0 := ExE.G.next hb0 e hG
  have hWW := hW.next hb0
  have hs1 := hW.sc1
  have hs2 := hW.sc2
  have HIH := Lib.hid hIH
  have HW1 := Lib.hid hW1
  have HW0 := Lib.hid hW0
  have Hq := Lib.hid hq
  have hb0 := Lib.hid hb0
  have hraw := Lib.hid hraw
  have hRok := Lib.hid hRok
  have hRln := Lib.hid hRln
  have HS := Lib.hid (fun (w' : World) (base n c : Nat) (A : Option Addr) (es : List RowE) (hR : RowsAt w' base A n c es raw) (hb : base ≤ w'.heap.size) => sortRows_any A n c es raw base hraw.out (by rw [← hR.lenN]; omega) w' hR hb)
  have hpn : 0 ≤ partsN e.kind := by unfold badX at hbad; omega
  have hxp : (e.x.length : Int) = partsN e.kind := by unfold badX at hbad; omega
  have hwd : e.kind = 2 → 1 ≤ e.w ∧ e.w ≤ 1099511627776 := by unfold badX at hbad; omega
  have h012 : partsN e.kind = 1 ∧ (e.kind = 3 ∨ e.kind = 4 ∨ e.kind = 5) ∨ partsN e.kind = 2 ∧ (e.kind = 6 ∨ e.kind = 7 ∨ e.kind = 8) ∨ partsN e.kind = 0 ∧ e.kind = 1 ∨ partsN e.kind = 0 ∧ e.kind = 2 := by
    unfold partsN at hpn ⊢
    split at hpn
    · rename_i h; rcases h with h | h
      · exact .inr (.inr (.inl ⟨by rw [if_pos (.inl h)], h⟩))
      · exact .inr (.inr (.inr ⟨by rw [if_pos (.inr h)], h⟩))
    · rename_i h0
      split at hpn
      · rename_i h; exact .inl ⟨by rw [if_neg h0, if_pos h], h⟩
      · rename_i h1
        split at hpn
        · rename_i h; exact .inr (.inl ⟨by rw [if_neg h0, if_neg h1, if_pos h], h⟩)
        · exact absurd hpn (by decide)
  clear hW1 hW0 hq hq1 hb1 hb0' ho hbad hcm hcb hsubc hsl hIH hEv hlen ka kx hpn hG hW
  rcases h012 with ⟨hp, hk⟩ | ⟨hp, hk⟩ | ⟨hp, hk⟩ | ⟨hp, hk⟩
  · obtain ⟨y, hy⟩ : ∃ y, e.x = [y] := List.length_eq_one_iff.1 (by omega)
    have hym : y ∈ e.x := by rw [hy]; exact List.mem_cons_self
    have hGr := xgroup_any SA sn sc hs1 hs2 now e W0 hG0 y hy hk _ (hRok.out y hym) (hRln.out y hym) hWW.sg (fun W hb => HIH.out y hym W (bnext hb0.out hb))
    have hre : groupN e.kind e.b (y.ev (sersX ss) now) = raw := by
      rw [← hr, hy]
      unfold rawN
      rw [if_pos hp]
      rfl
    rw [hre] at hGr
    unfold exV at hGr ⊢
    have hGr := Lib.hid hGr
    rw [hp] at HP
    clear hk hp hy hym hre hxp hwd hr ih hnu
    go_enter Tryz.func29, Tryz.ntmps29
    go_upto_region 1 with fail
    rw [HW1.out, HW0.out, Hq.out]
    go_wp2_with fail
    refine (HP.out _).mono ?_
    rintro e' w' ⟨rfl, rfl⟩
    go_wp2_with fail
    refine hGr.out.mono ?_
    rintro e' w3 ⟨u, rfl, A3, n3, c3, es3, rfl, hR3, hb3⟩
    have hS3 := Lib.hid (HS.out w3 _ n3 c3 A3 es3 hR3 hb3.size)
    have hb3 := Lib.hid hb3
    clear hR3
    go_wp2_with fail
    refine hS3.out.mono ?_
    rintro e' w4 ⟨rfl, es4, hR4, hb4⟩
    have hR4 := Lib.hid hR4
    have hb4 := Lib.hid hb4
    go_wp2_with fail
    go_ret
    exact RV.mk ⟨A3, n3, c3, es4, rfl, hR4.out.less hb0.out.size, (bnext hb0.out hb3.out).trans (hb4.out.mono hb0.out.size)⟩
  · obtain ⟨y, z, hy⟩ : ∃ y z, e.x = [y, z] := by
      match hx : e.x, (show e.x.length = 2 by omega) with
      | [y, z], _ => exact ⟨y, z, rfl⟩
    have hym : y ∈ e.x := by rw [hy]; simp
    have hzm : z ∈ e.x := by rw [hy]; simp
    have hGr := xpair_any SA sn sc hs1 hs2 now e W0 hG0 y z hy _ _ (hRok.out y hym) (hRln.out y hym) (hRok.out z hzm) (hRln.out z hzm) hWW.sg (fun W hb => HIH.out y hym W (bnext hb0.out hb)) (fun W hb => HIH.out z hzm W (bnext hb0.out hb))
    have hre : pairN e.kind (y.ev (sersX ss) now) (z.ev (sersX ss) now) = raw := by
      rw [← hr, hy]
      unfold rawN
      rw [if_neg (by rw [hp]; decide), if_pos hp]
      rfl
    rw [hre] at hGr
    unfold exV at hGr ⊢
    have hGr := Lib.hid hGr
    rw [hp] at HP
    clear hk hp hy hym hzm hre hxp hwd hr ih hnu
    go_enter Tryz.func29, Tryz.ntmps29
    go_upto_region 1 with fail
    rw [HW1.out, HW0.out, Hq.out]
    go_wp2_with fail
    refine (HP.out _).mono ?_
    rintro e' w' ⟨rfl, rfl⟩
    go_wp2_with fail
    refine hGr.out.mono ?_
    rintro e' w3 ⟨u, rfl, A3, n3, c3, es3, rfl, hR3, hb3⟩
    have hS3 := Lib.hid (HS.out w3 _ n3 c3 A3 es3 hR3 hb3.size)
    have hb3 := Lib.hid hb3
    clear hR3
    go_wp2_with fail
    refine hS3.out.mono ?_
    rintro e' w4 ⟨rfl, es4, hR4, hb4⟩
    have hR4 := Lib.hid hR4
    have hb4 := Lib.hid hb4
    go_wp2_with fail
    go_ret
    exact RV.mk ⟨A3, n3, c3, es4, rfl, hR4.out.less hb0.out.size, (bnext hb0.out hb3.out).trans (hb4.out.mono hb0.out.size)⟩
  · have hre : raw = [([], e.n)] := by
      rw [← hr]
      unfold rawN
      rw [if_neg (by rw [hp]; decide), if_neg (by rw [hp]; decide), if_pos hk]
    have hGr := rowOf_any none 0 0 [] rfl (fun _ => ⟨rfl, rfl⟩) rfl e.n W0 (Has.nil _ _ _) hWW.sg
    unfold exV
    have hkb : (e.kind == 1) = true := by rw [beq_iff_eq]; exact hk
    have Hre := Lib.hid hre
    have hGr := Lib.hid hGr
    rw [hp] at HP
    clear hk hp hre hxp hwd hr ih hnu
    go_enter Tryz.func29, Tryz.ntmps29
    go_upto_region 1 with fail
    rw [HW1.out, HW0.out, Hq.out]
    go_wp2_with fail
    refine (HP.out _).mono ?_
    rintro e' w' ⟨rfl, rfl⟩
    go_wp2_with fail
    refine hGr.out.mono ?_
    rintro e' w3 ⟨u, rfl, A3, c3, rfl, ho3, hb3⟩
    have hF := Lib.hid (show RowsP (sortR raw) w (.slice (some ⟨w3.heap.size, 0, none⟩) 1 1) (w3.alloc (.cells #[.string (txK []), .slice A3 0 c3, .int .i64 e.n] 72)) from by
      rw [Hre.out, sortR_one]
      refine ⟨_, 1, 1, [⟨A3, c3, ([], e.n)⟩], rfl, ⟨rfl, rfl, own_made1 _ rfl (Nat.le_trans hb0.out.size hb3.size), fun y hy => ?_⟩, bnext hb0.out (bnext hb3 (one_allocB _ _))⟩
      rw [List.mem_singleton.1 hy]
      exact own_next (own_less ho3 hb0.out.size) (one_allocB _ _))
    simp only [List.length_nil]
    clear ho3 hb3
    go_wp2_with fail
    go_ret
    exact RV.mk hF.out
  · have hre : selN (sersX ss) now e.m e.w = raw := by
      rw [← hr]
      unfold rawN
      rw [if_neg (by rw [hp]; decide), if_neg (by rw [hp]; decide), if_neg (by rw [hk]; decide)]
    have hGr := sel_any SA sn sc ss hWW.len hWW.s200 now ⟨hWW.now1, hWW.now2⟩ e W0 hG0 (hwd hk) hWW.good hWW.all hWW.has hWW.sg hWW.ml
    rw [hre] at hGr
    unfold exV at hGr ⊢
    have hkb : (e.kind == 1) = false := by rw [beq_eq_false_iff_ne, hk]; decide
    have hGr := Lib.hid hGr
    rw [hp] at HP
    clear hk hp hre hxp hwd hr ih hnu
    go_enter Tryz.func29, Tryz.ntmps29
    go_upto_region 1 with fail
    rw [HW1.out, HW0.out, Hq.out]
    go_wp2_with fail
    refine (HP.out _).mono ?_
    rintro e' w' ⟨rfl, rfl⟩
    go_wp2_with fail
    refine hGr.out.mono ?_
    rintro e' w3 ⟨u, rfl, A3, n3, c3, es3, rfl, hR3, hb3⟩
    have hS3 := Lib.hid (HS.out w3 _ n3 c3 A3 es3 hR3 hb3.size)
    have hb3 := Lib.hid hb3
    clear hR3
    go_wp2_with fail
    refine hS3.out.mono ?_
    rintro e' w4 ⟨rfl, es4, hR4, hb4⟩
    have hR4 := Lib.hid hR4
    have hb4 := Lib.hid hb4
    go_wp2_with fail
    go_ret
    exact RV.mk ⟨A3, n3, c3, es4, rfl, hR4.out.less hb0.out.size, (bnext hb0.out hb3.out).trans (hb4.out.mono hb0.out.size)⟩
end Go.Proofs.YtnicbhmeigpjkaaGreatDoor
namespace Go.Proofs.YtnicbhmeigpjkaaGreatDoor
open Go.RowKit

theorem sersErr_split : ∀ {l : List (List Lab × List Smp)} {j : Nat}, j < l.length → sersErr (l.take j) = 0 → serErr (at_ l j) ≠ 0 → sersErr l = serErr (at_ l j)
  | y :: l, 0, _, _, h => by
    unfold sersErr
    exact fstE_ne h
  | y :: l, j + 1, hj, h0, h => by
    rw [List.take_succ_cons, sersErr] at h0
    obtain ⟨h1, h2⟩ := fstE_iff.1 h0
    rw [sersErr, h1, fstE_zero]
    exact sersErr_split (by simpa using hj) h2 h
theorem sersErr_snoc {l : List (List Lab × List Smp)} {j : Nat} (hj : j < l.length) (h0 : sersErr (l.take j) = 0) (h : serErr (at_ l j) = 0) : sersErr (l.take (j + 1)) = 0 := by
  rw [List.take_add_one, List.getElem?_eq_getElem hj]
  rw [at_eq hj] at h
  generalize l.take j = a at h0
  induction a with
  | nil => exact fstE_iff.2 ⟨h, rfl⟩
  | cons y a ih =>
    rw [sersErr] at h0
    obtain ⟨h1, h2⟩ := fstE_iff.1 h0
    exact fstE_iff.2 ⟨h1, ih h2⟩
/-- a row of the answer -/
def apiC (e : RowE) : List Value := [.slice e.A e.r.1.length e.c, .int .i64 e.r.2]
def apiCs (l : List RowE) : List Value := l.flatMap apiC
theorem apiCs_len (l : List RowE) : (apiCs l).length = l.length * 2 := flat_len (f := apiC) (C := 2) (fun _ => rfl) l
theorem apiCs_app1 (l : List RowE) (x : RowE) : apiCs (l ++ [x]) = apiCs l ++ (#[.slice x.A x.r.1.length x.c, .int .i64 x.r.2] : Array Value).toList := by simp [apiCs, apiC]
theorem elApi : Elem Tryz.prog 30 36 2 32 := Elem.mk' (z := .agg #[.slice none 0 0, .int .i64 0]) Tryz.underlying30 (by kernel_rfl) rfl (by decide)
theorem elStrX : Elem Tryz.prog 25 9 1 16 := Elem.mk' (z := .string ⟨#[]⟩) Tryz.underlying25 (by kernel_rfl) rfl (by decide)
/-- rows of an answer: the row's own block past base, the labels' past bl -/
structure ApiAt (w : World) (base bl : Nat) (A : Option Addr) (n c : Nat) (es : List RowE) (l : List RowN) : Prop where
  len : es.length = n
  map : es.map (·.r) = l
  own : w.ownsRow base 36 2 (.slice A n c) n (apiCs es)
  labs : ∀ e ∈ es, RowOwn w bl e
theorem ApiAt.nil (w : World) (base bl : Nat) : ApiAt w base bl none 0 0 [] [] := ⟨rfl, rfl, World.ownsRow_nil _ _ _ _, fun _ h => by cases h⟩
theorem ApiAt.next {w w' : World} {base bl : Nat} {A : Option Addr} {n c : Nat} {es : List RowE} {l : List RowN} (h : ApiAt w base bl A n c es l) (hb : Below w.heap.size w w') : ApiAt w' base bl A n c es l :=
  ⟨h.len, h.map, own_next h.own hb, fun e he => (h.labs e he).next hb⟩
theorem ApiAt.less {w : World} {base bl b2 b3 : Nat} {A : Option Addr} {n c : Nat} {es : List RowE} {l : List RowN} (h : ApiAt w base bl A n c es l) (hb : b2 ≤ base) (hb3 : b3 ≤ bl) : ApiAt w b2 b3 A n c es l :=
  ⟨h.len, h.map, own_less h.own hb, fun e he => (h.labs e he).less hb3⟩
theorem ApiAt.lenN {w : World} {base bl : Nat} {A : Option Addr} {n c : Nat} {es : List RowE} {l : List RowN} (h : ApiAt w base bl A n c es l) : l.length = n := by rw [← h.map, List.length_map, h.len]
theorem ApiAt.snoc {w w7 w8 : World} {base bl : Nat} {A A8 : Option Addr} {n c c8 : Nat} {es : List RowE} {l : List RowN} (h : ApiAt w base bl A n c es l) {e : RowE} (hb : Below w.heap.size w w7) (he : RowOwn w7 bl e)
    (ho : w8.ownsRow base 36 2 (.slice A8 (n + 1) c8) (n + 1) (apiCs es ++ (#[.slice e.A e.r.1.length e.c, .int .i64 e.r.2] : Array Value).toList)) (hg : w7.grownBy w8 (Value.slice A n c).ownBlock) : ApiAt w8 base bl A8 (n + 1) c8 (es ++ [e]) (l ++ [e.r]) := by
  refine ⟨by rw [List.length_append, h.len]; rfl, by rw [List.map_append, h.map]; rfl, by rw [apiCs_app1]; exact ho, fun y hy => ?_⟩
  have ho7 := own_next h.own hb
  have hk : ∀ y : RowE, RowOwn w7 bl y → RowOwn w8 bl y := fun y hy => RowsAt.snoc.own_keepX hy hg (RowsAt.snoc.own_apartX hy ho7 (by decide))
  rcases List.mem_append.1 hy with h1 | h1
  · exact hk y ((h.labs y h1).next hb)
  · rw [List.mem_singleton.1 h1]
    exact hk e he
def EvalP (r : List RowN × Int) (w : World) (v : Value) (w' : World) : Prop :=
  ∃ A n c es, v = .tuple #[.slice A n c, .int .i64 r.2] ∧ ApiAt w' w.heap.size w.heap.size A n c es r.1 ∧ Below w.heap.size w w'
theorem EvalP.err {w w' : World} {r : List RowN × Int} {k : Int} (hr : r = ([], k)) (hb : Below w.heap.size w w') : EvalP r w (.tuple #[.slice none 0 0, .int .i64 k]) w' := by
  subst hr
  exact ⟨none, 0, 0, [], rfl, ApiAt.nil _ _ _, hb⟩
theorem EvalP.fine {w w' : World} {r : List RowN × Int} {R : List RowN} {A : Option Addr} {n c : Nat} {es : List RowE} (hr : r = (R, 0)) (h : ApiAt w' w.heap.size w.heap.size A n c es R) (hb : Below w.heap.size w w') : EvalP r w (.tuple #[.slice A n c, .int .i64 0]) w' := by
  subst hr
  exact ⟨A, n, c, es, rfl, h, hb⟩
def keysX (l : List (List Lab × List Smp)) : List ByteArray := l.map fun s => txK s.1
theorem keysX_snoc {l : List (List Lab × List Smp)} {j : Nat} (h : j < l.length) : keysX (l.take (j + 1)) = keysX (l.take j) ++ [txK (at_ l j).1] := by
  unfold keysX
  rw [List.take_add_one, List.getElem?_eq_getElem h, at_eq h, List.map_append]
  rfl
theorem has_key {l : List (List Lab × List Smp)} (h0 : sersErr l = 0) {j : Nat} (hj : j < l.length) : hasS (txK (at_ l j).1) (keysX (l.take j)) = true ↔ (at_ l j).1 ∈ (l.take j).map (·.1) := by
  rw [hasS_iff]
  unfold keysX
  have hL := (sersErr_iff.1 h0 _ (at_mem hj)).1
  constructor
  · intro hm
    obtain ⟨s, hs, e⟩ := List.mem_map.1 hm
    have hs' := (sersErr_iff.1 h0 s (List.mem_of_mem_take hs)).1
    exact List.mem_map.2 ⟨s, hs, txInj _ _ hs' hL e⟩
  · intro hm
    obtain ⟨s, hs, e⟩ := List.mem_map.1 hm
    exact List.mem_map.2 ⟨s, hs, by rw [e]⟩
theorem nodup_snoc {l : List (List Lab × List Smp)} {j : Nat} (h : j < l.length) (hn : ((l.take j).map (·.1)).Nodup) (hno : (at_ l j).1 ∉ (l.take j).map (·.1)) : ((l.take (j + 1)).map (·.1)).Nodup := by
  rw [List.take_add_one, List.getElem?_eq_getElem h, List.map_append]
  rw [at_eq h] at hno
  exact List.nodup_append.2 ⟨hn, by simp, fun a ha c hc e => by simp at hc; rw [e, hc] at ha; exact hno ha⟩
theorem not_nodup {l : List (List Lab × List Smp)} {j : Nat} (h : j < l.length) (hm : (at_ l j).1 ∈ (l.take j).map (·.1)) : ¬ (l.map (·.1)).Nodup := by
  intro hn
  have e : l.map (·.1) = (l.take j).map (·.1) ++ (l.drop j).map (·.1) := by rw [← List.map_append, List.take_append_drop]
  rw [e] at hn
  have h2 : (at_ l j).1 ∈ (l.drop j).map (·.1) := by
    refine List.mem_map.2 ⟨_, ?_, rfl⟩
    rw [at_eq h, List.drop_eq_getElem_cons h]
    exact List.mem_cons_self
  exact (List.nodup_append.1 hn).2.2 _ hm _ h2 rfl
set_option maxRecDepth 1000000 in
set_option maxHeartbeats 16000000 in
theorem xEval_any (e : ExE) (SA : Option Addr) (sn sc : Nat) (ss : List SerE) (hn : ss.length = sn) (hs1 : sn ≤ sc) (hs2 : sc ≤ maxLen) (now : Int) (_hnow : in64 now) (w : World) (hG : e.G w) (hk : e.cnt ≤ 1099511627776) (hgood : ∀ s ∈ ss, s.good w) (has : Has w w.heap.size SA (sersC ss)) (tS : SgAt w) (hlen : LenAt w) :
    Calls Tryz.prog 13 #[exV e, .slice SA sn sc, .int .i64 now] w (RV (EvalP (evalN e (sersX ss) now) w)) := by
  have ho := hG.own
  obtain ⟨W0, hW0⟩ : ∃ W0, w.alloc (.cells #[.int .i64 e.kind, .int .i64 e.n, .int .i64 e.w, .slice e.ma e.m.length e.mc, .slice e.ba e.b.length e.bc, .slice e.xa e.x.length e.xc] 28) = W0 := ⟨_, rfl⟩
  obtain ⟨q, hq⟩ : ∃ q, w.heap.size = q := ⟨_, rfl⟩
  have hb0 : Below w.heap.size w W0 := by rw [← hW0]; exact one_allocB _ _
  have kx : Blk W0 q 28 #[.int .i64 e.kind, .int .i64 e.n, .int .i64 e.w, .slice e.ma e.m.length e.mc, .slice e.ba e.b.length e.bc, .slice e.xa e.x.length e.xc] := by rw [← hW0]; exact Blk.newM _ _ _ _ hq
  have x0 : W0.cell? ⟨q, 0, none⟩ = some (.int .i64 e.kind) := kx.cell 0
  have x1 : W0.cell? ⟨q, 1, none⟩ = some (.int .i64 e.n) := kx.cell 1
  have x2 : W0.cell? ⟨q, 2, none⟩ = some (.int .i64 e.w) := kx.cell 2
  have x3 : W0.cell? ⟨q, 3, none⟩ = some (.slice e.ma e.m.length e.mc) := kx.cell 3
  have x4 : W0.cell? ⟨q, 4, none⟩ = some (.slice e.ba e.b.length e.bc) := kx.cell 4
  have x5 : W0.cell? ⟨q, 5, none⟩ = some (.slice e.xa e.x.length e.xc) := kx.cell 5
  have ml : e.m.length ≤ e.mc := ho.ml
  have hmc : e.mc ≤ maxLen := ho.mc
  have bl : e.b.length ≤ e.bc := ho.bl
  have hbc : e.bc ≤ maxLen := ho.bc
  have xl : e.x.length ≤ e.xc := ho.xl
  have hxc : e.xc ≤ maxLen := ho.xc
  have HC := xcheckT_any e W0 (ExE.G.next hb0 e hG) hk
  have HEv := Lib.hid (fun (w' : World) (hb : Below W0.heap.size W0 w') (hc : e.chk = 0) (hW : EvW SA sn sc ss now w') => xeval_any SA sn sc ss now e w' (ExE.G.next (bnext hb0 hb) e hG) hc hW)
  have hNu := ExE.G.nu e hG
  have hT : e.chkT = if 100 < e.cnt then 2 else e.chk := rfl
  have hN : evalN e (sersX ss) now = if e.chkT ≠ 0 then ([], e.chkT) else if 200 < (sersX ss).length then ([], 2) else if sersErr (sersX ss) ≠ 0 then ([], sersErr (sersX ss)) else if ¬ ((sersX ss).map (·.1)).Nodup then ([], 8) else if now < -1152921504606846976 ∨ 1152921504606846976 < now then ([], 6) else (e.ev (sersX ss) now, 0) := rfl
  obtain ⟨N, hNN⟩ : ∃ N, evalN e (sersX ss) now = N := ⟨_, rfl⟩
  rw [hNN] at hN ⊢
  have hsx := sersX_len ss
  rw [hn] at hsx
  rw [hsx] at hN
  obtain ⟨t, ht⟩ : ∃ t, e.chkT = t := ⟨_, rfl⟩
  rw [ht] at HC hN hT
  unfold exV at HC ⊢
  have HT := Lib.hid hT
  have HN := Lib.hid hN
  replace HC := Lib.hid HC
  have HW0 := Lib.hid hW0
  have Hq := Lib.hid hq
  have Hn := Lib.hid hn
  replace hsx := Lib.hid hsx
  replace hb0 := Lib.hid hb0
  replace kx := Lib.hid kx
  replace hgood := Lib.hid hgood
  replace has := Lib.hid has
  replace tS := Lib.hid tS
  replace hlen := Lib.hid hlen
  have hs2' := hs2
  unfold maxLen at hs2'
  clear ht hT hN hNN hn hW0 hq ho hG
  go_enter Tryz.func13, Tryz.ntmps13
  go_upto_region 1 with fail
  rw [HW0.out, Hq.out]
  go_wp2_with fail
  refine HC.out.mono ?_
  rintro e' w1 ⟨rfl, hb1⟩
  by_cases ht0 : t = 0
  case neg =>
    have hNe := Lib.hid (show N = ([], t) by rw [HN.out, if_pos ht0])
    have hb01 := Lib.hid (bnext hb0.out hb1)
    clear hb1
    go_wp2_with fail
    go_ret2
    exact RV.mk (EvalP.err hNe.out hb01.out)
  case pos =>
    subst ht0
    have hchk : e.chk = 0 := by
      have := HT.out
      by_cases h100 : 100 < e.cnt
      · rw [if_pos h100] at this; cases this
      · rw [if_neg h100] at this; exact this.symm
    have kx1 := kx.out.next hb1
    have hb01 := Lib.hid (bnext hb0.out hb1)
    replace hb1 := Lib.hid hb1
    replace hchk := Lib.hid hchk
    clear x0 x1 x2 x3 x4 x5
    replace kx1 := Lib.hid kx1
    by_cases h200 : (200 : Int) < (sn : Int)
    · have hNe := Lib.hid (show N = ([], 2) by rw [HN.out, if_neg (by simp), if_pos (by omega)])
      go_wp2_with fail
      go_ret2
      exact RV.mk (EvalP.err hNe.out hb01.out)
    · have hsn200 : sn ≤ 200 := by omega
      have HN2 := Lib.hid (show N = if sersErr (sersX ss) ≠ 0 then ([], sersErr (sersX ss)) else if ¬ ((sersX ss).map (·.1)).Nodup then ([], 8) else if now < -1152921504606846976 ∨ 1152921504606846976 < now then ([], 6) else (e.ev (sersX ss) now, 0) by rw [HN.out, if_neg (by simp), if_neg (by omega)])
      clear HN HT
      go_wp2_with fail
      go_loopw [31] (fun i wr => ∃ (j : Nat), j ≤ sn ∧ i = .int .i64 (j : Nat) ∧ Hid (sersErr ((sersX ss).take j) = 0) ∧ Hid (Below w1.heap.size w1 wr)) (fun i _ => sn + 5 - (intOf i).toNat)
      case atStart => exact ⟨0, by omega, rfl, Lib.hid rfl, Lib.hid (Below.refl _ _)⟩
      case round =>
        obtain ⟨j, hj, rfl, hse, hbr⟩ := hrel
        have hbwr := Lib.hid (bnext hb01.out hbr.out)
        by_cases hlt : (j : Int) < (sn : Int)
        · have hjl : j < ss.length := by rw [Hn.out]; omega
          have hjx : j < (sersX ss).length := by rw [sersX_len]; exact hjl
          have hmem : at_ ss j ∈ ss := at_mem hjl
          obtain ⟨ad, had, hadb, c0, c1⟩ := sersC_cells (has.out.next hbwr.out) hjl
          have hgd := (hgood.out _ hmem).next hbwr.out
          have hatx : at_ (sersX ss) j = serX (at_ ss j) := by rw [at_eq hjx]; exact sersX_at hjl
          have hsp := fun h => sersErr_split hjx hse.out h
          have hsn := fun h => sersErr_snoc hjx hse.out h
          rw [hatx] at hsp hsn
          obtain ⟨⟨⟨LA, lc, L⟩, TA, tc, T⟩, hp⟩ : ∃ p, at_ ss j = p := ⟨_, rfl⟩
          rw [hp] at c0 c1 hgd hsp hsn
          replace hsp : serErr (L, T) ≠ 0 → sersErr (sersX ss) = serErr (L, T) := hsp
          replace hsn : serErr (L, T) = 0 → sersErr ((sersX ss).take (j + 1)) = 0 := hsn
          have hee : serErr (L, T) = fstE (chkL L) (chkS T) := rfl
          obtain ⟨gl1, gl2, gl3, gl4, gl5⟩ := hgd.lab
          have gt2 := hgd.sl
          have gt3 := hgd.sc
          have gt5 := hgd.sh
          simp only [] at c0 c1 gl1 gl2 gl3 gl4 gl5 gt2 gt3 gt5
          obtain ⟨ln, hln⟩ : ∃ ln, L.length = ln := ⟨_, rfl⟩
          obtain ⟨tn, htn⟩ : ∃ tn, T.length = tn := ⟨_, rfl⟩
          rw [hln] at c0 gl2
          rw [htn] at c1 gt2
          have q1 : (0 : Int) ≤ (j : Int) := by omega
          subst had
          obtain ⟨W6, hW6⟩ : ∃ W6, wr.alloc (.cells #[.slice LA ln lc, .slice TA tn tc] 50) = W6 := ⟨_, rfl⟩
          obtain ⟨q6, hq6⟩ : ∃ q6, wr.heap.size = q6 := ⟨_, rfl⟩
          have hb6 : Below wr.heap.size wr W6 := by rw [← hW6]; exact one_allocB _ _
          have k6 : Blk W6 q6 50 #[.slice LA ln lc, .slice TA tn tc] := by rw [← hW6]; exact Blk.newM _ _ _ _ hq6
          have hLC := lcheck_any LA ln lc L hln (by omega) W6 (gl5.next hb6) gl1
          have hSC := fun (w' : World) (hb : Below W6.heap.size W6 w') => scheck_any TA tc T (by rw [htn]; omega) w' (gt5.next (bnext hb6 hb))
          rw [htn] at hSC
          obtain ⟨el, hel⟩ : ∃ el, chkL L = el := ⟨_, rfl⟩
          obtain ⟨es, hes⟩ : ∃ es, chkS T = es := ⟨_, rfl⟩
          rw [hel] at hLC
          simp only [hes] at hSC
          rw [hel, hes] at hee
          rw [hee] at hsp hsn
          replace hsp := Lib.hid hsp
          replace hsn := Lib.hid hsn
          replace hLC := Lib.hid hLC
          replace hSC := Lib.hid hSC
          have HW6 := Lib.hid hW6
          have Hq6 := Lib.hid hq6
          replace hb6 := Lib.hid hb6
          replace k6 := Lib.hid k6
          clear hp hatx hee hel hes hln htn hjl hjx hmem hgd hW6 hq6 gl1 gl5 gt5
          go_upto_region 9 with fail
          rw [HW6.out, Hq6.out]
          have y0 : W6.cell? ⟨q6, 0, none⟩ = some (.slice LA ln lc) := k6.out.cell 0
          go_wp2_with fail
          refine hLC.out.mono ?_
          rintro e' w7 ⟨rfl, hb7⟩
          by_cases hel0 : el = 0
          · subst hel0
            have y1 : w7.cell? ⟨q6, 1, none⟩ = some (.slice TA tn tc) := (k6.out.next hb7).cell 1
            have hS := Lib.hid (hSC.out w7 hb7)
            replace hb7 := Lib.hid hb7
            clear y0
            go_wp2_with fail
            refine hS.out.mono ?_
            rintro e' w8 ⟨rfl, nd, rfl⟩
            have hb8 := Lib.hid (below_drewN (bnext hbr.out (bnext hb6.out hb7.out)) nd)
            by_cases hes0 : es = 0
            · subst hes0
              have hsn2 : Hid (sersErr ((sersX ss).take (j + 1)) = 0) := Lib.hid (hsn.out rfl)
              go_wp2_with fail
              go_roundw
              case rel => exact ⟨j + 1, by omega, by go_num, hsn2, hb8⟩
              case measure => simp [intOf]; omega
            · have hne : sersErr (sersX ss) = es := hsp.out (by rw [fstE_zero]; exact hes0)
              have hNe := Lib.hid (show N = ([], es) by rw [HN2.out, hne, if_pos hes0])
              clear hne
              go_wp2_with fail
              go_ret2
              exact RV.mk (EvalP.err hNe.out (bnext hb01.out hb8.out))
          · have hne : sersErr (sersX ss) = el := by have := hsp.out (by rw [fstE_ne hel0]; exact hel0); rw [fstE_ne hel0] at this; exact this
            have hNe := Lib.hid (show N = ([], el) by rw [HN2.out, hne, if_pos hel0])
            have hb8 := Lib.hid (bnext hbr.out (bnext hb6.out hb7))
            clear hne hb7
            go_wp2_with fail
            go_ret2
            exact RV.mk (EvalP.err hNe.out (bnext hb01.out hb8.out))
        · obtain rfl : sn = j := by omega
          have hall : (sersX ss).take sn = sersX ss := List.take_of_length_le (by rw [hsx.out]; exact Nat.le_refl _)
          rw [hall] at hse
          have HN3 := Lib.hid (show N = if ¬ ((sersX ss).map (·.1)).Nodup then ([], 8) else if now < -1152921504606846976 ∨ 1152921504606846976 < now then ([], 6) else (e.ev (sersX ss) now, 0) by rw [HN2.out, if_neg (by rw [hse.out]; simp)])
          obtain ⟨wA, rfl⟩ : ∃ wA : World, wA = wr := ⟨wr, rfl⟩
          have hbwr0 := hbwr
          clear HN2 hall
          go_wp2_with fail
          go_loopw [13, 50] (fun s i wr => ∃ (j c3 : Nat) (A3 : Option Addr), j ≤ sn ∧ i = .int .i64 (j : Nat) ∧ s = .slice A3 j c3 ∧ Hid (wr.ownsRow wA.heap.size 9 1 (.slice A3 j c3) j (strCs (keysX ((sersX ss).take j)))) ∧ Hid ((((sersX ss).take j).map (·.1)).Nodup) ∧ Hid (Below wA.heap.size wA wr)) (fun _ i _ => sn + 5 - (intOf i).toNat)
          case atStart => exact ⟨0, 0, none, by omega, rfl, rfl, Lib.hid (World.ownsRow_nil _ _ _ _), Lib.hid List.nodup_nil, Lib.hid (Below.refl _ _)⟩
          case round =>
            obtain ⟨j, c3, A3, hj, rfl, rfl, hks, hnd, hbr2⟩ := hrel
            have hbw2 := Lib.hid (bnext hbwr.out hbr2.out)
            by_cases hlt2 : (j : Int) < (sn : Int)
            · have hjl : j < ss.length := by rw [Hn.out]; omega
              have hjx : j < (sersX ss).length := by rw [sersX_len]; exact hjl
              have hmem : at_ ss j ∈ ss := at_mem hjl
              obtain ⟨ad, had, hadb, c0, c1⟩ := sersC_cells (has.out.next hbw2.out) hjl
              have hgd := (hgood.out _ hmem).next hbw2.out
              have hatx : at_ (sersX ss) j = serX (at_ ss j) := by rw [at_eq hjx]; exact sersX_at hjl
              have hhk := has_key hse.out hjx
              have hsn := keysX_snoc hjx
              have hns := fun h => nodup_snoc hjx hnd.out h
              have hnn := fun h => not_nodup hjx h
              have hchL := (sersErr_iff.1 hse.out _ (at_mem hjx)).1
              rw [hatx] at hhk hsn hns hnn hchL
              obtain ⟨⟨⟨LA, lc, L⟩, TA, tc, T⟩, hp⟩ : ∃ p, at_ ss j = p := ⟨_, rfl⟩
              rw [hp] at c0 c1 hgd hhk hsn hns hnn hchL
              replace hchL : chkL L = 0 := hchL
              replace hhk : hasS (txK L) (keysX ((sersX ss).take j)) = true ↔ L ∈ ((sersX ss).take j).map (·.1) := hhk
              replace hsn : keysX ((sersX ss).take (j + 1)) = keysX ((sersX ss).take j) ++ [txK L] := hsn
              replace hns : L ∉ ((sersX ss).take j).map (·.1) → (((sersX ss).take (j + 1)).map (·.1)).Nodup := hns
              replace hnn : L ∈ ((sersX ss).take j).map (·.1) → ¬ ((sersX ss).map (·.1)).Nodup := hnn
              obtain ⟨gl1, gl2, gl3, gl4, gl5⟩ := hgd.lab
              have gt2 := hgd.sl
              have gt3 := hgd.sc
              simp only [] at c0 c1 gl1 gl2 gl3 gl4 gl5 gt2 gt3
              obtain ⟨ln, hln⟩ : ∃ ln, L.length = ln := ⟨_, rfl⟩
              obtain ⟨tn, htn⟩ : ∃ tn, T.length = tn := ⟨_, rfl⟩
              rw [hln] at c0 gl2
              rw [htn] at c1 gt2
              have q1 : (0 : Int) ≤ (j : Int) := by omega
              subst had
              obtain ⟨W6, hW6⟩ : ∃ W6, wr.alloc (.cells #[.slice LA ln lc, .slice TA tn tc] 50) = W6 := ⟨_, rfl⟩
              obtain ⟨q6, hq6⟩ : ∃ q6, wr.heap.size = q6 := ⟨_, rfl⟩
              have hb6 : Below wr.heap.size wr W6 := by rw [← hW6]; exact one_allocB _ _
              have k6 : Blk W6 q6 50 #[.slice LA ln lc, .slice TA tn tc] := by rw [← hW6]; exact Blk.newM _ _ _ _ hq6
              have hTx := lbtext_any LA ln lc L hln (by omega) W6 (gl5.next hb6) gl1 (tS.out.next (bnext hb0.out (bnext hb1.out (bnext hbr.out (bnext hbr2.out hb6)))))
              rw [text_chk hchL] at hTx
              dsimp only at hTx
              have hkl : (keysX ((sersX ss).take j)).length = j := by unfold keysX; rw [List.length_map, List.length_take, hsx.out, Nat.min_eq_left (by omega)]
              have hCt := fun (w' : World) (hb : Below W6.heap.size W6 w') => containsS_any A3 j c3 (keysX ((sersX ss).take j)) hkl (by omega) (txK L) w' ((Has.of_own hks.out).next (bnext hb6 hb))
              obtain ⟨key, hkey⟩ : ∃ key, txK L = key := ⟨_, rfl⟩
              rw [hkey] at hTx hhk hsn
              simp only [hkey] at hCt
              obtain ⟨bb, hbb⟩ : ∃ bb, hasS key (keysX ((sersX ss).take j)) = bb := ⟨_, rfl⟩
              rw [hbb] at hhk
              simp only [hbb] at hCt
              replace hhk := Lib.hid hhk
              replace hsn := Lib.hid hsn
              replace hns := Lib.hid hns
              replace hnn := Lib.hid hnn
              replace hTx := Lib.hid hTx
              replace hCt := Lib.hid hCt
              have HW6 := Lib.hid hW6
              have Hq6 := Lib.hid hq6
              replace hb6 := Lib.hid hb6
              replace k6 := Lib.hid k6
              clear hp hatx hbb hkey hkl hln htn hjl hjx hmem hgd hW6 hq6 gl1 gl5 hchL
              go_upto_region 20 with fail
              rw [HW6.out, Hq6.out]
              have y0 : W6.cell? ⟨q6, 0, none⟩ = some (.slice LA ln lc) := k6.out.cell 0
              go_wp2_with fail
              refine hTx.out.mono ?_
              rintro e' w7 ⟨rfl, hb7⟩
              have hb27 := Lib.hid (bnext hbr2.out (bnext hb6.out hb7))
              have hC7 := Lib.hid (hCt.out w7 hb7)
              have hks7 := own_next hks.out (bnext hb6.out hb7)
              have hsz7 : wA.heap.size ≤ w7.heap.size := hb27.out.size
              clear y0 hb7
              cases bb with
              | true =>
                have hNe := Lib.hid (show N = ([], 8) by rw [HN3.out, if_pos (hnn.out (hhk.out.1 rfl))])
                clear hks7
                go_wp2_with fail
                refine hC7.out.mono ?_
                rintro e' w8 ⟨rfl, hw8⟩
                obtain rfl := hw8.symm
                go_wp2_with fail
                go_ret2
                exact RV.mk (EvalP.err hNe.out (bnext hbwr0.out hb27.out))
              | false =>
                have hno : L ∉ ((sersX ss).take j).map (·.1) := fun h => by have := hhk.out.2 h; cases this
                have hns2 := Lib.hid (hns.out hno)
                clear hno
                go_wp2_with fail
                refine hC7.out.mono ?_
                rintro e' w8 ⟨rfl, hw8⟩
                obtain rfl := hw8.symm
                go_wp2_with (at_builtin; refine wpList_append1 rfl _ _ _ rfl elStrX rfl hks7 rfl rfl rfl ?_ ?k1 ?k2 ?k3 ?k4; intro A8 c8 w9 hown8 hgrow8 hbel8)
                case k1 => first | rfl | (intro u hu; simp at hu; subst hu; rfl)
                case k2 => omega
                case k3 => unfold maxLen; omega
                case k4 => exact hsz7
                all_goals
                  have ho9 := Lib.hid (show w9.ownsRow wA.heap.size 9 1 (.slice A8 (j + 1) c8) (j + 1) (strCs (keysX ((sersX ss).take (j + 1)))) by rw [hsn.out]; unfold strCs; rw [List.flatMap_append]; exact hown8)
                  have hb9 := Lib.hid (hb27.out.trans hbel8)
                  clear hown8 hgrow8 hbel8 hks7
                  go_wp2_with fail
                  go_roundw
                  case rel => exact ⟨j + 1, c8, A8, by omega, by go_num, rfl, ho9, hns2, hb9⟩
                  case measure => simp [intOf]; omega
            · obtain rfl : sn = j := by omega
              have hall : (sersX ss).take sn = sersX ss := List.take_of_length_le (by rw [hsx.out]; exact Nat.le_refl _)
              rw [hall] at hnd
              have HN4 := Lib.hid (show N = if now < -1152921504606846976 ∨ 1152921504606846976 < now then ([], 6) else (e.ev (sersX ss) now, 0) by rw [HN3.out, if_neg (by simpa using hnd.out)])
              clear HN3 hall
              by_cases hn1 : now < -1152921504606846976
              · have hNe := Lib.hid (show N = ([], 6) by rw [HN4.out, if_pos (.inl hn1)])
                have d1 : decide (now < -1152921504606846976) = true := decide_eq_true hn1
                go_wp2_with fail
                go_ret2
                exact RV.mk (EvalP.err hNe.out (bnext hbwr0.out hbr2.out))
              by_cases hn2 : 1152921504606846976 < now
              · have hNe := Lib.hid (show N = ([], 6) by rw [HN4.out, if_pos (.inr hn2)])
                have d1 : decide (now < -1152921504606846976) = false := decide_eq_false hn1
                have d2 : decide (1152921504606846976 < now) = true := decide_eq_true hn2
                go_wp2_with fail
                go_ret2
                exact RV.mk (EvalP.err hNe.out (bnext hbwr0.out hbr2.out))
              have hNe := Lib.hid (show N = (e.ev (sersX ss) now, 0) by rw [HN4.out, if_neg (by omega)])
              have d1 : decide (now < -1152921504606846976) = false := decide_eq_false hn1
              have d2 : decide (1152921504606846976 < now) = false := decide_eq_false hn2
              clear HN4
              have hchk' := hchk.out
              have hallok : AllOk (sersX ss) := ⟨fun s hs => (sersErr_iff.1 hse.out s hs).1, fun s hs => (sersErr_iff.1 hse.out s hs).2, fun s hs x hx => by
                obtain ⟨y, hy, rfl⟩ := List.mem_map.1 hs
                exact ((hgood.out y hy).xs x hx).2, hnd.out⟩
              obtain ⟨wC, rfl⟩ : ∃ wC : World, wC = wr := ⟨wr, rfl⟩
              have hEW : EvW SA sn sc ss now wC := EvW.next ⟨Hn.out, hsn200, hs1, hs2, by omega, by omega, hgood.out, hallok, has.out, tS.out, hlen.out⟩ hbw2.out
              have hl2 := ev_len hallok (by rw [hsx.out]; exact hsn200) now e hNu
              obtain ⟨R, hR⟩ : ∃ R, e.ev (sersX ss) now = R := ⟨_, rfl⟩
              have hE := HEv.out wC (bnext hb1.out (bnext hbr.out hbr2.out)) hchk' hEW
              rw [hR] at hE hl2 hNe
              replace hE : Calls Tryz.prog 29 #[.agg #[.slice SA sn sc, .int .i64 now], .agg #[.int .i64 e.kind, .int .i64 e.n, .int .i64 e.w, .slice e.ma e.m.length e.mc, .slice e.ba e.b.length e.bc, .slice e.xa e.x.length e.xc]] wC (RV (RowsP R wC)) := hE
              have kxr := kx1.out.next (bnext hbr.out hbr2.out)
              have z0 : wC.cell? ⟨q, 0, none⟩ = some (.int .i64 e.kind) := kxr.cell 0
              have z1 : wC.cell? ⟨q, 1, none⟩ = some (.int .i64 e.n) := kxr.cell 1
              have z2 : wC.cell? ⟨q, 2, none⟩ = some (.int .i64 e.w) := kxr.cell 2
              have z3 : wC.cell? ⟨q, 3, none⟩ = some (.slice e.ma e.m.length e.mc) := kxr.cell 3
              have z4 : wC.cell? ⟨q, 4, none⟩ = some (.slice e.ba e.b.length e.bc) := kxr.cell 4
              have z5 : wC.cell? ⟨q, 5, none⟩ = some (.slice e.xa e.x.length e.xc) := kxr.cell 5
              replace hE := Lib.hid hE
              clear hEW hallok hR kxr hchk' hn1 hn2 hNu
              go_wp2_with fail
              refine hE.out.mono ?_
              rintro e9 w2 ⟨u2, rfl, A2, n2, c2, es2, rfl, hR2, hb2⟩
              have hR2 : Hid (RowsAt w2 wC.heap.size A2 n2 c2 es2 R) := Lib.hid hR2
              replace hb2 := Lib.hid hb2
              have hn2 : n2 ≤ 200 := by rw [← hR2.out.lenN]; exact hl2
              clear z0 z1 z2 z3 z4 z5 hl2
              go_wp2_with fail
              go_loopw [18, 80] (fun s i wr' => ∃ (j c5 : Nat) (A5 : Option Addr) (es5 : List RowE), j ≤ n2 ∧ i = .int .i64 (j : Nat) ∧ s = .slice A5 j c5 ∧ Hid (ApiAt wr' w2.heap.size wC.heap.size A5 j c5 es5 (R.take j)) ∧ Hid (Below w2.heap.size w2 wr')) (fun _ i _ => n2 + 5 - (intOf i).toNat)
              case atStart => exact ⟨0, 0, none, [], by omega, rfl, rfl, Lib.hid (ApiAt.nil _ _ _), Lib.hid (Below.refl _ _)⟩
              case round =>
                obtain ⟨j, c5, A5, es5, hj, rfl, rfl, hAp, hbr3⟩ := hrel
                by_cases hlt3 : (j : Int) < (n2 : Int)
                · have hje : j < es2.length := by rw [hR2.out.len]; omega
                  have hjl : j < R.length := by rw [hR2.out.lenN]; omega
                  have hR2r := hR2.out.next hbr3.out
                  obtain ⟨ad2, had2, _, d0, d1, d2⟩ := rowCs_cells (Has.of_own hR2r.own) hje
                  have hlab := hR2r.labs _ (at_mem hje)
                  have hat : at_ R j = (at_ es2 j).r := by rw [← hR2.out.map, map_at hje]
                  have htk : R.take (j + 1) = R.take j ++ [(at_ es2 j).r] := by rw [List.take_add_one, List.getElem?_eq_getElem hjl, ← hat, at_eq hjl]; rfl
                  obtain ⟨⟨RA, rc, L, v⟩, hp⟩ : ∃ p, at_ es2 j = p := ⟨_, rfl⟩
                  rw [hp] at d0 d1 d2 hlab htk
                  simp only [] at d0 d1 d2 htk
                  obtain ⟨ln, hln⟩ : ∃ ln, L.length = ln := ⟨_, rfl⟩
                  rw [hln] at d1
                  have q1 : (0 : Int) ≤ (j : Int) := by omega
                  subst had2
                  have hlc : (RowE.mk RA rc (L, v)).r.1.length = ln := hln
                  obtain ⟨W6, hW6⟩ : ∃ W6, wr.alloc (.cells #[.string (txK L), .slice RA ln rc, .int .i64 v] 72) = W6 := ⟨_, rfl⟩
                  obtain ⟨q6, hq6⟩ : ∃ q6, wr.heap.size = q6 := ⟨_, rfl⟩
                  have hb6 : Below wr.heap.size wr W6 := by rw [← hW6]; exact one_allocB _ _
                  have k6 : Blk W6 q6 72 #[.string (txK L), .slice RA ln rc, .int .i64 v] := by rw [← hW6]; exact Blk.newM _ _ _ _ hq6
                  have ho6 := own_next hAp.out.own hb6
                  have hsz6 : w2.heap.size ≤ W6.heap.size := Nat.le_trans hbr3.out.size hb6.size
                  have y1 : W6.cell? ⟨q6, 1, none⟩ = some (.slice RA ln rc) := k6.cell 1
                  have y2 : W6.cell? ⟨q6, 1 + 1, none⟩ = some (.int .i64 v) := k6.cell 2
                  replace htk := Lib.hid htk
                  replace hlab := Lib.hid (RowOwn.next hlab hb6)
                  replace hln := Lib.hid hln
                  replace hb6 := Lib.hid hb6
                  have HW6 := Lib.hid hW6
                  have Hq6 := Lib.hid hq6
                  clear hW6 hq6 hR2r hje hjl hp hat k6 hlc
                  go_upto_region 31 with fail
                  rw [HW6.out, Hq6.out]
                  clear d0 d1 d2
                  go_wp2_with (at_builtin; refine wpList_append1 rfl _ _ _ rfl elApi rfl ho6 rfl rfl rfl ?_ ?k1 ?k2 ?k3 ?k4; intro A8 c8 w9 hown8 hgrow8 hbel8)
                  case k1 => first | exact ⟨rfl, rfl⟩ | (intro u hu; simp at hu; rcases hu with rfl | rfl <;> rfl)
                  case k2 => omega
                  case k3 => unfold maxLen; omega
                  case k4 => exact hsz6
                  all_goals
                    replace hown8 := Lib.hid hown8
                    replace hgrow8 := Lib.hid hgrow8
                    have hb9 := Lib.hid ((hbr3.out.trans (hb6.out.mono hbr3.out.size)).trans hbel8)
                    clear hbel8 ho6 y1 y2
                    go_wp2_with fail
                    go_roundw
                    case rel =>
                      have hh := hln.out
                      subst hh
                      refine ⟨j + 1, c8, A8, es5 ++ [⟨RA, rc, (L, v)⟩], by omega, by go_num, rfl, Lib.hid ?_, hb9⟩
                      rw [htk.out]
                      exact hAp.out.snoc (e := ⟨RA, rc, (L, v)⟩) hb6.out hlab.out hown8.out hgrow8.out
                    case measure => simp [intOf]; omega
                · obtain rfl : n2 = j := by omega
                  have hall : R.take n2 = R := List.take_of_length_le (by rw [hR2.out.lenN]; exact Nat.le_refl _)
                  rw [hall] at hAp
                  clear hall
                  go_wp2_with fail
                  go_ret2
                  exact RV.mk (EvalP.fine hNe.out (hAp.out.less (Nat.le_trans hbw2.out.size hb2.out.size) hbw2.out.size) (bnext hbw2.out (bnext hb2.out hbr3.out)))
end Go.Proofs.YtnicbhmeigpjkaaGreatDoor
namespace Go.Proofs.YtnicbhmeigpjkaaGreatDoor
open Go.RowKit

theorem Has.of_blk {w : World} {g : Nat} {t : TypeId} {cs : Array Value} (h : Blk w g t cs) : Has w w.heap.size (some ⟨g, 0, none⟩) cs.toList := fun _ => by
  refine ⟨_, rfl, h.lt, fun j u hu => ?_⟩
  have hadd : (⟨g, 0, none⟩ : Addr).add j = ⟨g, j, none⟩ := by unfold Addr.add; split <;> simp_all
  rw [hadd]
  rw [h.cell j]
  simpa using hu
/-- an expression of a kind with parts, and names -/
def kidE (k : Int) (ba : Option Addr) (bc : Nat) (b : List ByteArray) (g : Nat) (x : List ExE) : ExE := .mk k 0 0 none 0 [] ba bc b (some ⟨g, 0, none⟩) x.length x
theorem kidE_G {k : Int} (hk : in64 k) {w : World} {ba : Option Addr} {bc : Nat} {b : List ByteArray} (b1 : ∀ s ∈ b, s.size ≤ maxLen) (b2 : b.length ≤ bc) (b3 : bc ≤ maxLen) (b4 : ba = none → bc = 0) (b5 : Has w w.heap.size ba (strCs b)) (b6 : b.length ≤ 1048576)
    {g : Nat} {x : List ExE} (hx : ∀ y ∈ x, y.G w) (hl : x.length ≤ maxLen) (hh : Has w w.heap.size (some ⟨g, 0, none⟩) (exCs x)) : (kidE k ba bc b g x).G w :=
  .mk ⟨hk, (show in64 0 from ⟨by decide, by decide⟩), (show in64 0 from ⟨by decide, by decide⟩), (fun _ hx => absurd hx (List.not_mem_nil)), Nat.le_refl _, Nat.zero_le _, (fun _ => rfl), Has.nil _ _ _, b1, b2, b3, b4, b5, b6, Nat.le_refl _, hl, (fun h => by cases h), hh⟩ hx
theorem kidE_G0 {k : Int} (hk : in64 k) {w : World} {g : Nat} {x : List ExE} (hx : ∀ y ∈ x, y.G w) (hl : x.length ≤ maxLen) (hh : Has w w.heap.size (some ⟨g, 0, none⟩) (exCs x)) : (kidE k none 0 [] g x).G w :=
  kidE_G hk (fun _ hx => absurd hx (List.not_mem_nil)) (Nat.le_refl _) (Nat.zero_le _) (fun _ => rfl) (Has.nil _ _ _) (Nat.zero_le _) hx hl hh
theorem evalN_err {e : ExE} {all : List (List Lab × List Smp)} {now : Int} : (evalN e all now = (e.ev all now, 0)) ∨ ∃ k, k ≠ 0 ∧ evalN e all now = ([], k) := by
  unfold evalN
  by_cases h1 : e.chkT = 0
  · rw [if_neg (by simpa using h1)]
    by_cases h2 : 200 < all.length
    · rw [if_pos h2]; exact .inr ⟨2, by decide, rfl⟩
    · rw [if_neg h2]
      by_cases h3 : sersErr all = 0
      · rw [if_neg (by simpa using h3)]
        by_cases h4 : (all.map (·.1)).Nodup
        · rw [if_neg (by simpa using h4)]
          by_cases h5 : now < -1152921504606846976 ∨ 1152921504606846976 < now
          · rw [if_pos h5]; exact .inr ⟨6, by decide, rfl⟩
          · rw [if_neg h5]; exact .inl rfl
        · rw [if_pos (by simpa using h4)]; exact .inr ⟨8, by decide, rfl⟩
      · rw [if_pos (by simpa using h3)]; exact .inr ⟨_, h3, rfl⟩
  · rw [if_pos (by simpa using h1)]; exact .inr ⟨_, h1, rfl⟩
theorem apiCs_at {l : List RowE} {k r : Nat} (h : k < l.length) (hr : r < 2) : (apiCs l)[k * 2 + r]? = (apiC (at_ l k))[r]? := flat_at (f := apiC) (C := 2) (fun _ => rfl) h hr
theorem apiCs_cells {w : World} {B : Nat} {A : Option Addr} {l : List RowE} (h : Has w B A (apiCs l)) {k : Nat} (hk : k < l.length) :
    ∃ ad, A = some ad ∧ ad.block < B ∧ w.cell? (ad.add (k * 2)) = some (.slice (at_ l k).A (at_ l k).r.1.length (at_ l k).c) ∧ w.cell? ⟨(ad.add (k * 2)).block, (ad.add (k * 2)).off + 1, none⟩ = some (.int .i64 (at_ l k).r.2) := by
  obtain ⟨ad, rfl, hb, c0⟩ := h.at (apiCs_at hk (show 0 < 2 by decide))
  refine ⟨ad, rfl, hb, c0, ?_⟩
  obtain ⟨ad', e', _, c⟩ := h.at (apiCs_at hk (show 1 < 2 by decide)); injection e' with e'; subst e'; exact cell_off c (by decide)
theorem laid_tail {P : Program} {x : String × DataW Unit} {l : List (String × DataW Unit)} {w : World} (h : laidMet P (x :: l) w) : laidMet P l w := by
  obtain ⟨n, d⟩ := x
  obtain ⟨ps, ⟨g, t, cs, fuel, p, q, e1, e2, e3, e4, hr, rfl⟩, hnd, hrows⟩ := h
  exact ⟨q, hr, hnd.sublist (List.sublist_append_right _ _), fun b off hp => hrows b off (List.mem_append_right _ hp)⟩
end Go.Proofs.YtnicbhmeigpjkaaGreatDoor
namespace Go.Proofs.YtnicbhmeigpjkaaGreatDoor
open Go.RowKit

theorem row_ext {l m : List RowN} (hl : l.length = m.length) (h : ∀ i, i < l.length → at_ l i = at_ m i) : l = m := by
  apply List.ext_getElem hl
  intro i h1 h2
  have := h i h1
  rwa [at_eq h1, at_eq h2] at this
set_option maxRecDepth 1000000 in
set_option maxHeartbeats 4000000 in
theorem sameRow1_any (b1 b2 : Nat) (x y : RowE) (n m : Nat) (hn : x.r.1.length = n) (hm : y.r.1.length = m) (w : World) (h : RowOwn w b1 x) (h' : RowOwn w b2 y) :
    Calls Tryz.prog 35 #[.agg #[.slice x.A n x.c, .int .i64 x.r.2], .agg #[.slice y.A m y.c, .int .i64 y.r.2]] w (R1 (.bool (decide (x.r = y.r))) (Below w.heap.size w)) := by
  obtain ⟨A1, c1, L, u⟩ := x
  obtain ⟨B1, d1, M, v⟩ := y
  unfold RowOwn at h h'
  simp only [] at hn hm h h' ⊢
  rw [hn] at h
  rw [hm] at h'
  obtain ⟨W0, hW0⟩ : ∃ W0, (w.alloc (.cells #[.slice A1 n c1, .int .i64 u] 36)).alloc (.cells #[.slice B1 m d1, .int .i64 v] 36) = W0 := ⟨_, rfl⟩
  obtain ⟨q, hq⟩ : ∃ q, w.heap.size = q := ⟨_, rfl⟩
  have hb0 : Below w.heap.size w W0 := by rw [← hW0]; exact (one_allocB _ _).alloc (one_allocB _ _).size _
  have kx : Blk W0 q 36 #[.slice A1 n c1, .int .i64 u] := by rw [← hW0]; exact (Blk.newM _ _ _ _ hq).alloc _
  have ky : Blk W0 (q + 1) 36 #[.slice B1 m d1, .int .i64 v] := by rw [← hW0]; exact Blk.newM _ _ _ _ (by rw [← hq]; exact Array.size_push _)
  obtain ⟨l1, k1⟩ := own_len h
  obtain ⟨l3, k3⟩ := own_len h'
  have x0 : W0.cell? ⟨q, 0, none⟩ = some (.slice A1 n c1) := kx.cell 0
  have x1 : W0.cell? ⟨q, 1, none⟩ = some (.int .i64 u) := kx.cell 1
  have y0 : W0.cell? ⟨q + 1, 0, none⟩ = some (.slice B1 m d1) := ky.cell 0
  have y1 : W0.cell? ⟨q + 1, 1, none⟩ = some (.int .i64 v) := ky.cell 1
  have HL := Lib.hid (sameLabN_any A1 B1 n m c1 d1 L M hn hm (by omega) (by omega) W0 ((Has.of_own h).next hb0) ((Has.of_own h').next hb0))
  have HW0 := Lib.hid hW0
  have Hq := Lib.hid hq
  replace hb0 := Lib.hid hb0
  clear h h' hn hm hW0 hq kx ky l1 k1 l3 k3
  by_cases huv : u = v
  · subst huv
    have hd : decide ((L, u) = (M, u)) = decide (L = M) := by
      by_cases hS : L = M
      · rw [hS, decide_eq_true rfl, decide_eq_true rfl]
      · rw [decide_eq_false hS, decide_eq_false (fun e => hS (congrArg Prod.fst e))]
    rw [hd]
    obtain ⟨r, hr⟩ : ∃ r, decide (L = M) = r := ⟨_, rfl⟩
    rw [hr] at HL ⊢
    clear hd hr
    go_enter Tryz.func35, Tryz.ntmps35
    go_upto_region 1 with fail
    rw [HW0.out, Hq.out]
    go_wp2_with fail
    refine HL.out.mono ?_
    rintro e w1 ⟨rfl, nd, rfl⟩
    go_wp2_with fail
    go_ret
    exact R1.mk rfl (below_drewN hb0.out _)
  · rw [decide_eq_false (fun e => huv (congrArg Prod.snd e))]
    have f0 : (u == v) = false := by rw [beq_eq_false_iff_ne]; exact huv
    replace huv := Lib.hid huv
    go_enter Tryz.func35, Tryz.ntmps35
    go_upto_region 1 with fail
    rw [HW0.out, Hq.out]
    go_wp2_with fail
    go_ret
    exact R1.mk rfl hb0.out
set_option maxRecDepth 1000000 in
set_option maxHeartbeats 4000000 in
theorem equalRow_any (A B : Option Addr) (n m c d : Nat) (l k : List RowN) (es ks : List RowE) (b1 b2 b3 b4 : Nat) (hl : n ≤ maxLen) (hk : m ≤ maxLen) (w : World) (h : ApiAt w b1 b2 A n c es l) (h' : ApiAt w b3 b4 B m d ks k) :
    Calls Tryz.prog 34 #[.slice A n c, .slice B m d, Value.func (Fn.func 35) #[] #[]] w (R1 (.bool (decide (l = k))) (Below w.heap.size w)) := by
  unfold maxLen at hl hk
  have hn := h.lenN
  have hm := h'.lenN
  by_cases hnm : n = m
  · subst hnm
    replace h := Lib.hid h
    replace h' := Lib.hid h'
    have Hn := Lib.hid hn
    have Hm := Lib.hid hm
    clear hn hm
    go_enter Tryz.func34, Tryz.ntmps34
    go_wp2_with fail
    go_loopw [17] (fun i wr => ∃ j : Nat, j ≤ n ∧ i = .int .i64 (j : Nat) ∧ Hid (∀ q, q < j → at_ l q = at_ k q) ∧ Below w.heap.size w wr) (fun i _ => n + 5 - (intOf i).toNat)
    case atStart => exact ⟨0, by omega, rfl, Lib.hid (fun q hq => by omega), Below.refl _ _⟩
    case round =>
      obtain ⟨j, hj, rfl, heq, hbr⟩ := hrel
      by_cases hlt : (j : Int) < (n : Int)
      · have hj1 : j < es.length := by rw [h.out.len]; omega
        have hj2 : j < ks.length := by rw [h'.out.len]; omega
        obtain ⟨ad, rfl, hbk, c0, c1⟩ := apiCs_cells (Has.of_own (h.out.next hbr).own) hj1
        obtain ⟨bd, rfl, hbk', d0, d1⟩ := apiCs_cells (Has.of_own (h'.out.next hbr).own) hj2
        have hs := (h.out.next hbr).labs _ (at_mem hj1)
        have hs' := (h'.out.next hbr).labs _ (at_mem hj2)
        have HY := Lib.hid (show at_ l j = (at_ es j).r by rw [← h.out.map, map_at hj1])
        have HZ := Lib.hid (show at_ k j = (at_ ks j).r by rw [← h'.out.map, map_at hj2])
        obtain ⟨x, hx⟩ : ∃ x, at_ es j = x := ⟨_, rfl⟩
        obtain ⟨y, hy⟩ : ∃ y, at_ ks j = y := ⟨_, rfl⟩
        rw [hx] at c0 c1 hs HY
        rw [hy] at d0 d1 hs' HZ
        obtain ⟨n1, hn1⟩ : ∃ n, x.r.1.length = n := ⟨_, rfl⟩
        obtain ⟨m1, hm1⟩ : ∃ n, y.r.1.length = n := ⟨_, rfl⟩
        rw [hn1] at c0
        rw [hm1] at d0
        have Hn1 := Lib.hid hn1
        have Hm1 := Lib.hid hm1
        replace hs := Lib.hid hs
        replace hs' := Lib.hid hs'
        have q1 : (0 : Int) ≤ (j : Int) := by omega
        clear hx hy hn1 hm1 hj1 hj2
        have hbd : (bd.add (j * 2)).block < wr.heap.size := by rw [add_block]; exact hbk'
        go_upto_region 6 with fail
        obtain ⟨W6, hW6⟩ : ∃ W6, wr.alloc (.cells #[.slice x.A n1 x.c, .int .i64 x.r.2] 36) = W6 := ⟨_, rfl⟩
        obtain ⟨q6, hq6⟩ : ∃ q6, wr.heap.size = q6 := ⟨_, rfl⟩
        have hb6 : Below wr.heap.size wr W6 := by rw [← hW6]; exact one_allocB _ _
        have k6 : Blk W6 q6 36 #[.slice x.A n1 x.c, .int .i64 x.r.2] := by rw [← hW6]; exact Blk.newM _ _ _ _ hq6
        have d06 : W6.cell? (bd.add (j * 2)) = some (.slice y.A m1 y.c) := (hb6.cell hbd).trans d0
        have d16 : W6.cell? ⟨(bd.add (j * 2)).block, (bd.add (j * 2)).off + 1, none⟩ = some (.int .i64 y.r.2) := (hb6.cell (p := ⟨(bd.add (j * 2)).block, (bd.add (j * 2)).off + 1, none⟩) hbd).trans d1
        rw [hW6, hq6]
        clear hW6 c0 c1 d0 d1
        go_upto_region 7 with fail
        obtain ⟨W7, hW7⟩ : ∃ W7, W6.alloc (.cells #[.slice y.A m1 y.c, .int .i64 y.r.2] 36) = W7 := ⟨_, rfl⟩
        obtain ⟨q7, hq7⟩ : ∃ q7, W6.heap.size = q7 := ⟨_, rfl⟩
        have hb7 : Below W6.heap.size W6 W7 := by rw [← hW7]; exact one_allocB _ _
        have k7 : Blk W7 q7 36 #[.slice y.A m1 y.c, .int .i64 y.r.2] := by rw [← hW7]; exact Blk.newM _ _ _ _ hq7
        have k67 := k6.next hb7
        have hb67 := bnext hb6 hb7
        rw [hW7, hq7]
        have x0 : W7.cell? ⟨q6, 0, none⟩ = some (.slice x.A n1 x.c) := k67.cell 0
        have x1 : W7.cell? ⟨q6, 1, none⟩ = some (.int .i64 x.r.2) := k67.cell 1
        have y0 : W7.cell? ⟨q7, 0, none⟩ = some (.slice y.A m1 y.c) := k7.cell 0
        have y1 : W7.cell? ⟨q7, 1, none⟩ = some (.int .i64 y.r.2) := k7.cell 1
        have HQ := Lib.hid (sameRow1_any b2 b4 x y n1 m1 Hn1.out Hm1.out W7 (hs.out.next hb67) (hs'.out.next hb67))
        have hbr7 := Lib.hid (bnext hbr hb67)
        clear hW7 hq7 d06 d16 k6 k67 k7 hb6 hb7 hb67 hbd hq6
        by_cases e : x.r = y.r
        · rw [decide_eq_true e] at HQ
          have E := Lib.hid e; clear e
          go_wp2_with fail
          refine HQ.out.mono ?_
          rintro e w8 ⟨rfl, hb8⟩
          have hbr8 := bnext hbr7.out hb8
          go_wp2_with fail
          go_roundw
          case rel => exact ⟨j + 1, by omega, by go_num, Lib.hid (fun q hq => by rcases Nat.lt_or_ge q j with h1 | h1; exact heq.out q h1; rw [show q = j by omega, HY.out, HZ.out]; exact E.out), hbr8⟩
          case measure => simp [intOf]; omega
        · rw [decide_eq_false e] at HQ
          have E := Lib.hid e; clear e
          go_wp2_with fail
          refine HQ.out.mono ?_
          rintro e w8 ⟨rfl, hb8⟩
          have hbr8 := bnext hbr7.out hb8
          go_wp2_with fail
          go_ret
          exact R1.mk (bool_eq (by rw [eq_comm, decide_eq_false_iff_not]; intro h1; exact E.out (by rw [← HY.out, ← HZ.out, h1]))) hbr8
      · go_wp2_with fail
        go_ret
        exact R1.mk (bool_eq (by rw [eq_comm, decide_eq_true_iff]; exact row_ext (by rw [Hn.out, Hm.out]) (fun i hi => heq.out i (by rw [Hn.out] at hi; omega)))) hbr
  · have f0 : ((n : Int) != (m : Int)) = true := by rw [bne_iff_ne]; omega
    have E := Lib.hid hnm; clear hnm
    replace h := Lib.hid h
    replace h' := Lib.hid h'
    replace hn := Lib.hid hn
    replace hm := Lib.hid hm
    go_enter Tryz.func34, Tryz.ntmps34
    go_wp2_with fail
    go_ret
    exact R1.mk (bool_eq (by rw [eq_comm, decide_eq_false_iff_not]; intro h1; exact E.out (by rw [← hn.out, ← hm.out, h1]))) (Below.refl _ _)
set_option maxRecDepth 1000000 in
theorem sameRows_any (A B : Option Addr) (n m c d : Nat) (l k : List RowN) (es ks : List RowE) (b1 b2 b3 b4 : Nat) (hl : n ≤ maxLen) (hk : m ≤ maxLen) (w : World) (h : ApiAt w b1 b2 A n c es l) (h' : ApiAt w b3 b4 B m d ks k) :
    Calls Tryz.prog 18 #[.slice A n c, .slice B m d] w (R1 (.bool (decide (l = k))) (Below w.heap.size w)) := by
  go_enter Tryz.func18, Tryz.ntmps18
  go_wp2_with fail
  refine (equalRow_any A B n m c d l k es ks b1 b2 b3 b4 hl hk _ (by exact h) (by exact h')).mono ?_
  rintro e w1 ⟨rfl, hb1⟩
  go_wp2_with fail
  go_ret
  exact R1.mk rfl hb1
end Go.Proofs.YtnicbhmeigpjkaaGreatDoor
namespace Go.Proofs.YtnicbhmeigpjkaaGreatDoor
open Go.RowKit

theorem kidE_cnt (k : Int) (BA : Option Addr) (bc : Nat) (b : List ByteArray) (g : Nat) (e : ExE) : (kidE k BA bc b g [e]).cnt = e.cnt + 1 := by
  rw [ExE.cnt_eq]
  show 1 + ExE.cntL [e] = _
  simp only [ExE.cntL]
  omega
theorem sum_law {e : ExE} {k : Int} (hk : k = 3 ∨ k = 4) {g g1 g2 bc : Nat} {BA : Option Addr} {b c : List ByteArray} (hsub : ∀ s ∈ c, s ∈ b) {all : List (List Lab × List Smp)} {now : Int} {l1 l2 : List RowN} (h1 : evalN (kidE k BA bc c g [e]) all now = (l1, 0)) (h2 : evalN (kidE k BA bc c g1 [kidE k BA bc b g2 [e]]) all now = (l2, 0)) (hn : ∀ s ∈ all, ∀ x ∈ s.2, in64 x.v) (hnu : e.Nu) : l1 = l2 := by
  obtain ⟨_, _, hA, _, _, e1⟩ := evalN_ok h1 hn
  obtain ⟨_, _, _, _, _, e2⟩ := evalN_ok h2 hn
  have hk3 : k = 3 ∨ k = 4 ∨ k = 5 := by rcases hk with h | h; exact .inl h; exact .inr (.inl h)
  unfold kidE at e1 e2
  rw [ev_one _ _ _ _ _ hk3] at e1
  rw [ev_one _ _ _ _ _ hk3, ev_one _ _ _ _ _ hk3, group_group txInj (RowsOk.ev hA now e hnu) (by omega) hsub] at e2
  rw [e1, e2]
theorem twoKinds {j : Nat} (h : j < 2) : (#[Value.int .i64 3, Value.int .i64 4] : Array Value).toList[j]? = some (.int .i64 ((3 + j : Nat) : Int)) := by
  match j, h with
  | 0, _ => rfl
  | 1, _ => rfl
theorem below_hidX {B : Nat} {a b : World} (h : Hid (Below B a b)) : Below B a b := h
theorem below_drewM2 {B : Nat} {a b : World} (h : Below B a b) (n : Nat) : Below B a (b.drewN n) := ⟨h.os, h.tape, h.output, h.size, h.block⟩
theorem strCs_mapX (l : List ByteArray) : strCs l = l.map Value.string := by
  unfold strCs
  induction l with
  | nil => rfl
  | cons x l ih => rw [List.flatMap_cons, ih]; rfl
theorem Has.takeS {w : World} {B : Nat} {A : Option Addr} {b : List ByteArray} (k : Nat) (h : Has w B A (strCs b)) : Has w B A (strCs (b.take k)) := fun hne => by
  rw [strCs_mapX, List.map_take] at hne
  obtain ⟨ad, e, h1, h2⟩ := h (fun e => hne (by rw [strCs_mapX] at e; rw [e, List.take_nil]))
  refine ⟨ad, e, h1, fun j u hu => h2 j u ?_⟩
  rw [strCs_mapX] at hu ⊢
  rw [List.map_take, List.getElem?_take] at hu
  split at hu
  · exact hu
  · cases hu
theorem two_new (w : World) (t : TypeId) (a b : Array Value) : Blk ((w.alloc (.cells a t)).alloc (.cells b t)).drew w.heap.size t a ∧ Blk ((w.alloc (.cells a t)).alloc (.cells b t)).drew (w.heap.size + 1) t b ∧ Below w.heap.size w ((w.alloc (.cells a t)).alloc (.cells b t)).drew :=
  ⟨(Blk.next (Blk.new w t a) (one_allocB _ _)).drewN 1, (Blk.newM (w.alloc (.cells a t)) t b (w.heap.size + 1) (by simp)).drewN 1, below_drewM (bnext (one_allocB _ _) (one_allocB _ _))⟩
theorem three_new (w : World) (t : TypeId) (a b c : Array Value) : Blk (((w.alloc (.cells a t)).alloc (.cells b t)).alloc (.cells c t)).drew w.heap.size t a ∧ Blk (((w.alloc (.cells a t)).alloc (.cells b t)).alloc (.cells c t)).drew (w.heap.size + 1) t b ∧ Blk (((w.alloc (.cells a t)).alloc (.cells b t)).alloc (.cells c t)).drew (w.heap.size + 2) t c ∧ Below w.heap.size w (((w.alloc (.cells a t)).alloc (.cells b t)).alloc (.cells c t)).drew :=
  ⟨(Blk.next (Blk.next (Blk.new w t a) (one_allocB _ _)) (one_allocB _ _)).drewN 1, (Blk.next (Blk.newM (w.alloc (.cells a t)) t b (w.heap.size + 1) (by simp)) (one_allocB _ _)).drewN 1, (Blk.newM ((w.alloc (.cells a t)).alloc (.cells b t)) t c (w.heap.size + 2) (by simp)).drewN 1, below_drewM (bnext (bnext (one_allocB _ _) (one_allocB _ _)) (one_allocB _ _))⟩
set_option maxRecDepth 1000000 in
set_option maxHeartbeats 8000000 in
theorem exprSum_any (e : ExE) (BA : Option Addr) (bn bc : Nat) (b : List ByteArray) (hbn : b.length = bn) (bok : ∀ s ∈ b, s.size ≤ maxLen) (b1 : bn ≤ bc) (b2 : bc ≤ maxLen) (b3 : BA = none → bc = 0) (bbk : bn ≤ 1048576) (k : Int) (now : Int) (hnow : in64 now) (SA : Option Addr) (sn sc : Nat) (ss : List SerE) (hn : ss.length = sn) (hs1 : sn ≤ sc) (hs2 : sc ≤ maxLen) (w : World) (hG : e.G w) (hk : e.cnt + 4 ≤ 1048576) (bhas : Has w w.heap.size BA (strCs b)) (hgood : ∀ s ∈ ss, s.good w) (has : Has w w.heap.size SA (sersC ss)) (tS : SgAt w) (hlen : LenAt w) :
    Calls Tryz.prog 6 #[exV e, .slice BA bn bc, .int .i64 k, .slice SA sn sc, .int .i64 now] w (R1 (.bool true) (Below w.heap.size w)) := by
  have HX := Lib.hid (fun (w' : World) => exprs_any w')
  obtain ⟨W0, hW0⟩ : ∃ W0, w.alloc (.cells #[.int .i64 e.kind, .int .i64 e.n, .int .i64 e.w, .slice e.ma e.m.length e.mc, .slice e.ba e.b.length e.bc, .slice e.xa e.x.length e.xc] 28) = W0 := ⟨_, rfl⟩
  obtain ⟨q, hq⟩ : ∃ q, w.heap.size = q := ⟨_, rfl⟩
  have hb0 : Below w.heap.size w W0 := by rw [← hW0]; exact one_allocB _ _
  have kx : Blk W0 q 28 #[.int .i64 e.kind, .int .i64 e.n, .int .i64 e.w, .slice e.ma e.m.length e.mc, .slice e.ba e.b.length e.bc, .slice e.xa e.x.length e.xc] := by rw [← hW0]; exact Blk.newM _ _ _ _ hq
  have hnum : ∀ s ∈ sersX ss, ∀ x ∈ s.2, in64 x.v := fun s hs x hx => by
    obtain ⟨y, hy, rfl⟩ := List.mem_map.1 hs
    exact ((hgood y hy).xs x hx).2
  have hNu := ExE.G.nu e hG
  have HL := Lib.hid (fun (kd : Int) (h : kd = 3 ∨ kd = 4) (kn : Nat) (g g1 g2 : Nat) (l1 l2 : List RowN) (h1 : evalN (kidE kd BA bc (b.take kn) g [e]) (sersX ss) now = (l1, 0)) (h2 : evalN (kidE kd BA bc (b.take kn) g1 [kidE kd BA bc b g2 [e]]) (sersX ss) now = (l2, 0)) => sum_law h (fun s hs => List.mem_of_mem_take hs) h1 h2 hnum hNu)
  have HW0 := Lib.hid hW0
  have Hq := Lib.hid hq
  replace hb0 := Lib.hid hb0
  replace kx := Lib.hid kx
  replace hgood := Lib.hid hgood
  replace has := Lib.hid has
  replace tS := Lib.hid tS
  replace hlen := Lib.hid hlen
  replace hG := Lib.hid hG
  replace bok := Lib.hid bok
  replace bhas := Lib.hid bhas
  replace hbn := Lib.hid hbn
  replace b3 := Lib.hid b3
  clear hW0 hq hnum hNu
  unfold exV
  go_enter Tryz.func6, Tryz.ntmps6
  go_upto_region 1 with fail
  rw [HW0.out, Hq.out]
  go_wp2_with fail
  refine (HX.out _).mono ?_
  rintro e1 w1 ⟨rfl, hb1⟩
  have kx1 := kx.out.next hb1
  replace hb1 := Lib.hid (bnext hb0.out hb1)
  replace kx1 := Lib.hid kx1
  by_cases hk0 : k < 0
  · have d1 : decide (k < 0) = true := decide_eq_true hk0
    go_wp2_with fail
    go_ret
    exact R1.mk rfl hb1.out
  have d1 : decide (k < 0) = false := decide_eq_false hk0
  by_cases hkn : (bn : Int) < k
  · have d2 : decide ((bn : Int) < k) = true := decide_eq_true hkn
    go_wp2_with fail
    go_ret
    exact R1.mk rfl hb1.out
  have d2 : decide ((bn : Int) < k) = false := decide_eq_false hkn
  obtain ⟨kn, rfl⟩ := Int.eq_ofNat_of_zero_le (show 0 ≤ k by omega)
  have hknb : kn ≤ bn := by omega
  have d2n : decide (bn < kn) = false := decide_eq_false (by omega)
  obtain ⟨q2, hq2⟩ : ∃ q2, w1.heap.size = q2 := ⟨_, rfl⟩
  obtain ⟨W2, hW2⟩ : ∃ W2, w1.alloc (.cells #[.int .i64 3, .int .i64 4] 3) = W2 := ⟨_, rfl⟩
  have hb12 : Below w1.heap.size w1 W2 := by rw [← hW2]; exact one_allocB _ _
  have k2 : Blk W2 q2 3 #[.int .i64 3, .int .i64 4] := by rw [← hW2]; exact Blk.newM _ _ _ _ hq2
  have kx2 := kx1.out.next hb12
  have hb2 := bnext hb1.out hb12
  replace kx2 := Lib.hid kx2
  replace hb2 := Lib.hid hb2
  replace k2 := Lib.hid k2
  have HW2 := Lib.hid hW2
  have Hq2 := Lib.hid hq2
  clear hW2 hq2 hb12 kx1 hb1 hk0 hkn
  go_upto_region 6 with fail
  rw [HW2.out, Hq2.out]
  go_wp2_with fail
  go_loopw [31] (fun i wr => ∃ (j : Nat), j ≤ 2 ∧ i = .int .i64 (j : Nat) ∧ Hid (Below W2.heap.size W2 wr)) (fun i _ => 7 - (intOf i).toNat)
  case atStart => exact ⟨0, by omega, rfl, Lib.hid (Below.refl _ _)⟩
  case round =>
    obtain ⟨j, hj, rfl, hbr⟩ := hrel
    by_cases hlt : (j : Int) < 2
    · have hj2 : j < 2 := by omega
      obtain ⟨ad, had, hadb, c0⟩ := (Has.of_blk (k2.out.next hbr.out)).at (twoKinds hj2)
      obtain ⟨kd, hkd⟩ : ∃ kd : Int, ((3 + j : Nat) : Int) = kd := ⟨_, rfl⟩
      rw [hkd] at c0
      have hkd34 := Lib.hid (show kd = 3 ∨ kd = 4 by omega)
      have hkd64 := Lib.hid (show in64 kd by unfold in64; omega)
      have q1 : (0 : Int) ≤ (j : Int) := by omega
      injection had with had
      subst had
      have hadj : (⟨q2, 0, none⟩ : Addr).add j = ⟨q2, j, none⟩ := by
        unfold Addr.add
        split
        · rename_i h0
          rw [h0]
        · show (⟨q2, 0 + j, none⟩ : Addr) = _
          rw [Nat.zero_add]
      rw [hadj] at c0
      have kxr := kx2.out.next hbr.out
      have hbr2 := Lib.hid (bnext hb2.out hbr.out)
      have x0 : wr.cell? ⟨q, 0, none⟩ = some (.int .i64 e.kind) := kxr.cell 0
      have x1 : wr.cell? ⟨q, 1, none⟩ = some (.int .i64 e.n) := kxr.cell 1
      have x2 : wr.cell? ⟨q, 2, none⟩ = some (.int .i64 e.w) := kxr.cell 2
      have x3 : wr.cell? ⟨q, 3, none⟩ = some (.slice e.ma e.m.length e.mc) := kxr.cell 3
      have x4 : wr.cell? ⟨q, 4, none⟩ = some (.slice e.ba e.b.length e.bc) := kxr.cell 4
      have x5 : wr.cell? ⟨q, 5, none⟩ = some (.slice e.xa e.x.length e.xc) := kxr.cell 5
      replace kxr := Lib.hid kxr
      clear hkd hadj
      go_upto_region 8 with fail
      have hk1 : (0 : Int) ≤ (kn : Int) := by omega
      have hk2' : (kn : Int) ≤ (bc : Int) := by omega
      have hwrs := kxr.out.lt
      go_cut [13] from 35 to 41 (fun s13 wx => ∃ (q13 g : Nat), s13 = .pointer (some ⟨q13, 0, none⟩) ∧ Hid (Blk wx q13 28 #[.int .i64 kd, .int .i64 0, .int .i64 0, .slice none 0 0, .slice BA kn bc, .slice (some ⟨g, 0, none⟩) 1 1]) ∧ Hid (Blk wx g 28 #[.int .i64 e.kind, .int .i64 e.n, .int .i64 e.w, .slice e.ma e.m.length e.mc, .slice e.ba e.b.length e.bc, .slice e.xa e.x.length e.xc]) ∧ Hid (Below wr.heap.size wr wx))
      case first =>
        go_region
        all_goals
          (go_wp2_with fail
           go_meet
           first
            | exact ⟨_, _, rfl, Lib.hid (two_new _ _ _ _).1, Lib.hid (two_new _ _ _ _).2.1, Lib.hid (two_new _ _ _ _).2.2⟩
            | exact ⟨_, _, rfl, Lib.hid (two_new _ _ _ _).2.1, Lib.hid (two_new _ _ _ _).1, Lib.hid (two_new _ _ _ _).2.2⟩)
      case rest =>
        obtain ⟨q13, g13, rfl, k13, kg13, hb13⟩ := hcut
        have hbA : Below wr.heap.size wr wc := hb13
        have kxc := kxr.out.next hbA
        have z0 : wc.cell? ⟨q, 0, none⟩ = some (.int .i64 e.kind) := kxc.cell 0
        have z1 : wc.cell? ⟨q, 1, none⟩ = some (.int .i64 e.n) := kxc.cell 1
        have z2 : wc.cell? ⟨q, 2, none⟩ = some (.int .i64 e.w) := kxc.cell 2
        have z3 : wc.cell? ⟨q, 3, none⟩ = some (.slice e.ma e.m.length e.mc) := kxc.cell 3
        have z4 : wc.cell? ⟨q, 4, none⟩ = some (.slice e.ba e.b.length e.bc) := kxc.cell 4
        have z5 : wc.cell? ⟨q, 5, none⟩ = some (.slice e.xa e.x.length e.xc) := kxc.cell 5
        have hwos := kxc.lt
        replace kxc := Lib.hid kxc
        clear x0 x1 x2 x3 x4 x5 hbA
        obtain ⟨wo, rfl⟩ : ∃ wo : World, wo = wc := ⟨wc, rfl⟩
        go_upto_region 9 with fail
        go_cut [14] from 42 to 52 (fun s14 wx => ∃ (q14 g h : Nat), s14 = .pointer (some ⟨q14, 0, none⟩) ∧ Hid (Blk wx q14 28 #[.int .i64 kd, .int .i64 0, .int .i64 0, .slice none 0 0, .slice BA kn bc, .slice (some ⟨h, 0, none⟩) 1 1]) ∧ Hid (Blk wx h 28 #[.int .i64 kd, .int .i64 0, .int .i64 0, .slice none 0 0, .slice BA bn bc, .slice (some ⟨g, 0, none⟩) 1 1]) ∧ Hid (Blk wx g 28 #[.int .i64 e.kind, .int .i64 e.n, .int .i64 e.w, .slice e.ma e.m.length e.mc, .slice e.ba e.b.length e.bc, .slice e.xa e.x.length e.xc]) ∧ Hid (Below wo.heap.size wo wx))
        case first =>
          go_region
          all_goals
            (go_wp2_with fail
             go_meet
             first
              | exact ⟨_, _, _, rfl, Lib.hid (three_new _ _ _ _ _).1, Lib.hid (three_new _ _ _ _ _).2.2.1, Lib.hid (three_new _ _ _ _ _).2.1, Lib.hid (three_new _ _ _ _ _).2.2.2⟩
              | exact ⟨_, _, _, rfl, Lib.hid (three_new _ _ _ _ _).2.1, Lib.hid (three_new _ _ _ _ _).2.2.1, Lib.hid (three_new _ _ _ _ _).1, Lib.hid (three_new _ _ _ _ _).2.2.2⟩
              | exact ⟨_, _, _, rfl, Lib.hid (three_new _ _ _ _ _).2.2.1, Lib.hid (three_new _ _ _ _ _).2.1, Lib.hid (three_new _ _ _ _ _).1, Lib.hid (three_new _ _ _ _ _).2.2.2⟩)
        case rest =>
          obtain ⟨q14, g14, h14, rfl, k14, kh14, kg14, hb14⟩ := hcut
          have hbw : Below w.heap.size w wc := bnext (bnext (bnext (below_hidX hb2) (below_hidX hbr)) (below_hidX hb13)) (below_hidX hb14)
          have hbrc : Below W2.heap.size W2 wc := bnext (bnext (below_hidX hbr) (below_hidX hb13)) (below_hidX hb14)
          have k13c := k13.out.next (below_hidX hb14)
          have kg13c := kg13.out.next (below_hidX hb14)
          have hGc := ExE.G.next hbw e hG.out
          have bhc := bhas.out.next hbw
          have hl1 : (b.take kn).length = kn := by rw [List.length_take, hbn.out]; omega
          have hat : (kidE kd BA bc (b.take kn) g13 [e]).G wc := kidE_G hkd64.out (fun s hs => bok.out s (List.mem_of_mem_take hs)) (by rw [hl1]; omega) b2 b3.out (Has.takeS kn bhc) (by rw [hl1]; omega) (fun y hy => by rw [List.mem_singleton.1 hy]; exact hGc) (show 1 ≤ maxLen by unfold maxLen; omega) (Has.of_blk kg13c)
          have hE13 := xEval_any (kidE kd BA bc (b.take kn) g13 [e]) SA sn sc ss hn hs1 hs2 now hnow wc hat (by rw [kidE_cnt]; omega) (fun s hs => (hgood.out s hs).next hbw) (has.out.next hbw) (tS.out.next hbw) (hlen.out.next hbw)
          obtain ⟨N1, hN1⟩ : ∃ N, evalN (kidE kd BA bc (b.take kn) g13 [e]) (sersX ss) now = N := ⟨_, rfl⟩
          rw [hN1] at hE13
          replace hE13 : Calls Tryz.prog 13 #[.agg #[.int .i64 kd, .int .i64 0, .int .i64 0, .slice none 0 0, .slice BA (b.take kn).length bc, .slice (some ⟨g13, 0, none⟩) 1 1], .slice SA sn sc, .int .i64 now] wc (RV (EvalP N1 wc)) := hE13
          rw [hl1] at hE13
          have a0 : wc.cell? ⟨q13, 0, none⟩ = some (.int .i64 kd) := k13c.cell 0
          have a1 : wc.cell? ⟨q13, 1, none⟩ = some (.int .i64 0) := k13c.cell 1
          have a2 : wc.cell? ⟨q13, 2, none⟩ = some (.int .i64 0) := k13c.cell 2
          have a3 : wc.cell? ⟨q13, 3, none⟩ = some (.slice none 0 0) := k13c.cell 3
          have a4 : wc.cell? ⟨q13, 4, none⟩ = some (.slice BA kn bc) := k13c.cell 4
          have a5 : wc.cell? ⟨q13, 5, none⟩ = some (.slice (some ⟨g13, 0, none⟩) 1 1) := k13c.cell 5
          have HE2 := Lib.hid (fun (w' : World) (hb : Below wc.heap.size wc w') => by
            have hbw' := bnext hbw hb
            have hG' := ExE.G.next hbw' e hG.out
            have hin : (kidE kd BA bc b g14 [e]).G w' := kidE_G hkd64.out bok.out (by rw [hbn.out]; exact b1) b2 b3.out (bhas.out.next hbw') (by rw [hbn.out]; exact bbk) (fun y hy => by rw [List.mem_singleton.1 hy]; exact hG') (show 1 ≤ maxLen by unfold maxLen; omega) (Has.of_blk (kg14.out.next hb))
            have hout : (kidE kd BA bc (b.take kn) h14 [kidE kd BA bc b g14 [e]]).G w' := kidE_G hkd64.out (fun s hs => bok.out s (List.mem_of_mem_take hs)) (by rw [hl1]; omega) b2 b3.out (Has.takeS kn (bhas.out.next hbw')) (by rw [hl1]; omega) (fun y hy => by rw [List.mem_singleton.1 hy]; exact hin) (show 1 ≤ maxLen by unfold maxLen; omega) (by have := Has.of_blk (kh14.out.next hb); rw [← hbn.out] at this; exact this)
            have h := xEval_any (kidE kd BA bc (b.take kn) h14 [kidE kd BA bc b g14 [e]]) SA sn sc ss hn hs1 hs2 now hnow w' hout (by rw [kidE_cnt, kidE_cnt]; omega) (fun s hs => (hgood.out s hs).next hbw') (has.out.next hbw') (tS.out.next hbw') (hlen.out.next hbw')
            replace h : Calls Tryz.prog 13 #[.agg #[.int .i64 kd, .int .i64 0, .int .i64 0, .slice none 0 0, .slice BA (b.take kn).length bc, .slice (some ⟨h14, 0, none⟩) 1 1], .slice SA sn sc, .int .i64 now] w' (RV (EvalP (evalN (kidE kd BA bc (b.take kn) h14 [kidE kd BA bc b g14 [e]]) (sersX ss) now) w')) := h
            rw [hl1] at h
            exact h)
          obtain ⟨N3, hN3⟩ : ∃ N, evalN (kidE kd BA bc (b.take kn) h14 [kidE kd BA bc b g14 [e]]) (sersX ss) now = N := ⟨_, rfl⟩
          rw [hN3] at HE2
          have hlaw := Lib.hid (fun (l1 l2 : List RowN) (h1 : N1 = (l1, 0)) (h2 : N3 = (l2, 0)) => HL.out kd hkd34.out kn g13 h14 g14 l1 l2 (hN1.trans h1) (hN3.trans h2))
          replace hE13 := Lib.hid hE13
          replace hbw := Lib.hid hbw
          replace hbrc := Lib.hid hbrc
          clear z0 z1 z2 z3 z4 z5 hGc bhc hl1 hat k13c kg13c hN1 hN3 kxc
          obtain ⟨wo2, rfl⟩ : ∃ wo2 : World, wo2 = wc := ⟨wc, rfl⟩
          go_wp2_with fail
          refine hE13.out.mono ?_
          rintro e1 w4 ⟨u4, rfl, A2, n2, c2, es2, rfl, hA2, hb4⟩
          have k144 := k14.out.next hb4
          have c20 : w4.cell? ⟨q14, 0, none⟩ = some (.int .i64 kd) := k144.cell 0
          have c21 : w4.cell? ⟨q14, 1, none⟩ = some (.int .i64 0) := k144.cell 1
          have c22 : w4.cell? ⟨q14, 2, none⟩ = some (.int .i64 0) := k144.cell 2
          have c23 : w4.cell? ⟨q14, 3, none⟩ = some (.slice none 0 0) := k144.cell 3
          have c24 : w4.cell? ⟨q14, 4, none⟩ = some (.slice BA kn bc) := k144.cell 4
          have c25 : w4.cell? ⟨q14, 5, none⟩ = some (.slice (some ⟨h14, 0, none⟩) 1 1) := k144.cell 5
          have hE4 := Lib.hid (HE2.out w4 hb4)
          replace hA2 := Lib.hid hA2
          have hbw4 := Lib.hid (bnext (below_hidX hbw) hb4)
          have hbr4 := Lib.hid (bnext (below_hidX hbrc) hb4)
          clear a0 a1 a2 a3 a4 a5 k144 HE2 hb4
          go_wp2_with fail
          refine hE4.out.mono ?_
          rintro e1 w16 ⟨u4, rfl, A6, n6, c6, es6, rfl, hA6, hb16⟩
          have hA56 := hA2.out.next hb16
          have hc5 := own_len hA56.own
          have hc6 := own_len hA6.own
          have hn5 : n2 ≤ maxLen := by omega
          have hn6 : n6 ≤ maxLen := by omega
          replace hA56 := Lib.hid hA56
          replace hA6 := Lib.hid hA6
          have hbr16 := Lib.hid (bnext (below_hidX hbr4) hb16)
          have hbw16 := Lib.hid (bnext (below_hidX hbw4) hb16)
          clear c20 c21 c22 c23 c24 c25 hc5 hc6 hb16
          obtain ⟨r1, hr1⟩ : ∃ r, N1.2 = r := ⟨_, rfl⟩
          obtain ⟨r3, hr3⟩ : ∃ r, N3.2 = r := ⟨_, rfl⟩
          rw [hr1, hr3]
          obtain ⟨q5, hq5⟩ : ∃ q5, w16.heap.size = q5 := ⟨_, rfl⟩
          obtain ⟨W5, hW5⟩ : ∃ W5, w16.alloc (.cells #[.int .i64 r1, .int .i64 r3] 31) = W5 := ⟨_, rfl⟩
          have hb45 : Below w16.heap.size w16 W5 := by rw [← hW5]; exact one_allocB _ _
          have k5 : Blk W5 q5 31 #[.int .i64 r1, .int .i64 r3] := by rw [← hW5]; exact Blk.newM _ _ _ _ hq5
          have hGd := good_any (some ⟨q5, 0, none⟩) 2 2 [r1, r3] rfl (by simp) W5 (Has.of_blk k5)
          obtain ⟨gd, hgd⟩ : ∃ gd, [r1, r3].all (· == 0) = gd := ⟨_, rfl⟩
          rw [hgd] at hGd
          replace hGd := Lib.hid hGd
          replace hgd := Lib.hid hgd
          replace hr1 := Lib.hid hr1
          replace hr3 := Lib.hid hr3
          replace hb45 := Lib.hid hb45
          have HW5 := Lib.hid hW5
          have Hq5 := Lib.hid hq5
          clear k5 hW5 hq5
          go_wp2_with fail
          rw [Hq5.out, HW5.out]
          refine hGd.out.mono ?_
          rintro e1 w6 ⟨rfl, nd, rfl⟩
          have hbr5 := Lib.hid (bnext (below_hidX hbr16) (below_drewM2 (below_hidX hb45) nd))
          cases gd with
          | false =>
            go_wp2_with fail
            go_roundw
            case rel => exact ⟨j + 1, by omega, by go_num, hbr5⟩
            case measure => simp [intOf]; omega
          | true =>
            have hz : r1 = 0 ∧ r3 = 0 := by simpa using hgd.out
            obtain ⟨rfl, rfl⟩ := hz
            have hlw : N1.1 = N3.1 := hlaw.out N1.1 N3.1 (Prod.ext rfl hr1.out) (Prod.ext rfl hr3.out)
            have hS := sameRows_any A2 A6 n2 n6 c2 c6 N1.1 N3.1 es2 es6 _ _ _ _ hn5 hn6 (W5.drewN nd) (hA56.out.next (below_drewM2 (below_hidX hb45) nd)) (hA6.out.next (below_drewM2 (below_hidX hb45) nd))
            rw [decide_eq_true hlw] at hS
            replace hS := Lib.hid hS
            clear hlw
            go_wp2_with fail
            refine hS.out.mono ?_
            rintro e1 w7 ⟨rfl, hb7⟩
            have hbr7 := Lib.hid (bnext (below_hidX hbr5) hb7)
            go_wp2_with fail
            go_roundw
            case rel => exact ⟨j + 1, by omega, by go_num, hbr7⟩
            case measure => simp [intOf]; omega
    · have hb9 := Lib.hid (bnext (below_hidX hb2) (below_hidX hbr))
      go_wp2_with fail
      go_ret
      exact R1.mk rfl hb9.out
theorem exprSum_law (W : World) (e : ExE) (hG : e.G W) (hk : e.cnt + 4 ≤ 1048576) (BA : Option Addr) (bc : Nat) (b : List ByteArray) (bok : ∀ s ∈ b, s.size ≤ maxLen) (b1 : b.length ≤ bc) (b2 : bc ≤ maxLen) (b3 : BA = none → bc = 0) (bhas : Has W W.heap.size BA (strCs b)) (bsmall : b.length ≤ 1048576) (k : Int) (_hk : in64 k)
    (A : Option Addr) (c : Nat) (ss : List SerE) (ok : ∀ s ∈ ss, s.good W) (lc : ss.length ≤ c) (cm : c ≤ maxLen) (_nil : A = none → c = 0) (has : Has W W.heap.size A (sersC ss)) (_reach : ss.length * 48 ≤ 140737488351232) (now : Int) (hnow : in64 now) (tS : SgAt W) (tM : LenAt W) :
    Calls Tryz.prog 6 #[exV e, .slice BA b.length bc, .int .i64 k, .slice A ss.length c, .int .i64 now] W (R1 (.bool true) (Below W.heap.size W)) :=
  exprSum_any e BA b.length bc b rfl bok b1 b2 b3 bsmall k now hnow A ss.length c ss rfl lc cm W hG hk bhas ok has tS tM
end Go.Proofs.YtnicbhmeigpjkaaGreatDoor
