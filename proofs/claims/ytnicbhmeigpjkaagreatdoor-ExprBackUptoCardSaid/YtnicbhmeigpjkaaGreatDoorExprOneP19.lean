/- Texts of the proof of ExprOne, joined (by merge.py). Conditions: each theorem's own hypotheses. -/
import Derived.Test.YtnicbhmeigpjkaaGreatDoorExprOneP11
import Derived.Test.YtnicbhmeigpjkaaGreatDoorExprOneP12
import Derived.Test.YtnicbhmeigpjkaaGreatDoorExprOneP17
import Derived.Deep.CutRange
namespace Go.Proofs.YtnicbhmeigpjkaaGreatDoor
open Go.RowKit

theorem exCs_at {l : List ExE} {k r : Nat} (h : k < l.length) (hr : r < 6) : (exCs l)[k * 6 + r]? = (exC (at_ l k))[r]? := flat_at (f := exC) (C := 6) (fun _ => rfl) h hr
/-- the six cells of an expression in a row -/
theorem exCs_cells {w : World} {B : Nat} {A : Option Addr} {l : List ExE} (h : Has w B A (exCs l)) {k : Nat} (hk : k < l.length) :
    ∃ ad, A = some ad ∧ ad.block < B ∧ w.cell? (ad.add (k * 6)) = some (.int .i64 (at_ l k).kind) ∧ w.cell? ⟨(ad.add (k * 6)).block, (ad.add (k * 6)).off + 1, none⟩ = some (.int .i64 (at_ l k).n) ∧ w.cell? ⟨(ad.add (k * 6)).block, (ad.add (k * 6)).off + 2, none⟩ = some (.int .i64 (at_ l k).w) ∧
      w.cell? ⟨(ad.add (k * 6)).block, (ad.add (k * 6)).off + 3, none⟩ = some (.slice (at_ l k).ma (at_ l k).m.length (at_ l k).mc) ∧ w.cell? ⟨(ad.add (k * 6)).block, (ad.add (k * 6)).off + 4, none⟩ = some (.slice (at_ l k).ba (at_ l k).b.length (at_ l k).bc) ∧ w.cell? ⟨(ad.add (k * 6)).block, (ad.add (k * 6)).off + 5, none⟩ = some (.slice (at_ l k).xa (at_ l k).x.length (at_ l k).xc) := by
  obtain ⟨ad, rfl, hb, c0⟩ := h.at (exCs_at hk (show 0 < 6 by decide))
  refine ⟨ad, rfl, hb, c0, ?_, ?_, ?_, ?_, ?_⟩
  · obtain ⟨ad', e', _, c⟩ := h.at (exCs_at hk (show 1 < 6 by decide)); injection e' with e'; subst e'; exact cell_off c (by decide)
  · obtain ⟨ad', e', _, c⟩ := h.at (exCs_at hk (show 2 < 6 by decide)); injection e' with e'; subst e'; exact cell_off c (by decide)
  · obtain ⟨ad', e', _, c⟩ := h.at (exCs_at hk (show 3 < 6 by decide)); injection e' with e'; subst e'; exact cell_off c (by decide)
  · obtain ⟨ad', e', _, c⟩ := h.at (exCs_at hk (show 4 < 6 by decide)); injection e' with e'; subst e'; exact cell_off c (by decide)
  · obtain ⟨ad', e', _, c⟩ := h.at (exCs_at hk (show 5 < 6 by decide)); injection e' with e'; subst e'; exact cell_off c (by decide)
/-- an expression by value -/
def exV (e : ExE) : Value := .agg #[.int .i64 e.kind, .int .i64 e.n, .int .i64 e.w, .slice e.ma e.m.length e.mc, .slice e.ba e.b.length e.bc, .slice e.xa e.x.length e.xc]
theorem cntL_take {l : List ExE} {j : Nat} (h : j < l.length) : ExE.cntL (l.take (j + 1)) = ExE.cntL (l.take j) + (at_ l j).cnt := by
  rw [List.take_add_one, List.getElem?_eq_getElem h, at_eq h]
  generalize l.take j = a
  induction a with
  | nil => simp only [List.nil_append, Option.toList_some, ExE.cntL, Nat.zero_add, Nat.add_zero]
  | cons y a ih => simp only [List.cons_append, ExE.cntL] at ih ⊢; rw [ih, Nat.add_assoc]
theorem cntL_le : ∀ (l : List ExE) (j : Nat), ExE.cntL (l.take j) ≤ ExE.cntL l
  | [], _ => by simp
  | y :: l, 0 => by simp only [List.take_zero, ExE.cntL]; exact Nat.zero_le _
  | y :: l, j + 1 => by simp only [List.take_succ_cons, ExE.cntL]; have := cntL_le l j; omega
theorem cnt_mem : ∀ {l : List ExE} {y : ExE}, y ∈ l → y.cnt ≤ ExE.cntL l
  | z :: l, y, h => by
    simp only [ExE.cntL]
    rcases List.mem_cons.1 h with e | e
    · rw [e]; omega
    · have := cnt_mem e; omega
set_option maxRecDepth 1000000 in
set_option maxHeartbeats 4000000 in
theorem xcount_any : ∀ (e : ExE) (w : World), e.G w → e.cnt ≤ 1099511627776 → Calls Tryz.prog 44 #[exV e] w (R1 (.int .i64 e.cnt) (Below w.heap.size w)) := by
  refine ExE.induct fun e ih => ?_
  intro w hG hk
  have hsub := hG.sub
  have ho := hG.own
  have hce := e.cnt_eq
  clear hG
  cases e with | mk k0 n0 w0 ma mc m ba bc b xa xc x =>
  have ml : m.length ≤ mc := ho.ml
  have hmc : mc ≤ maxLen := ho.mc
  have bl : b.length ≤ bc := ho.bl
  have hbc : bc ≤ maxLen := ho.bc
  have xl : x.length ≤ xc := ho.xl
  have hxc : xc ≤ maxLen := ho.xc
  have xh : Has w w.heap.size xa (exCs x) := ho.xh
  have hcl := cntL_le x
  unfold exV
  simp only [ExE.kind, ExE.n, ExE.w, ExE.ma, ExE.mc, ExE.m, ExE.ba, ExE.bc, ExE.b, ExE.xa, ExE.xc, ExE.x] at ih hsub hce ⊢
  obtain ⟨c, hc⟩ : ∃ c, (ExE.mk k0 n0 w0 ma mc m ba bc b xa xc x).cnt = c := ⟨_, rfl⟩
  rw [hc] at hce hk ⊢
  obtain ⟨n, hn⟩ : ∃ n, x.length = n := ⟨_, rfl⟩
  obtain ⟨mn, hmn⟩ : ∃ n, m.length = n := ⟨_, rfl⟩
  obtain ⟨bn, hbn⟩ : ∃ n, b.length = n := ⟨_, rfl⟩
  rw [hn] at xl ⊢
  rw [hmn] at ml ⊢
  rw [hbn] at bl ⊢
  obtain ⟨W0, hW0⟩ : ∃ W0, w.alloc (.cells #[.int .i64 k0, .int .i64 n0, .int .i64 w0, .slice ma mn mc, .slice ba bn bc, .slice xa n xc] 28) = W0 := ⟨_, rfl⟩
  obtain ⟨q, hq⟩ : ∃ q, w.heap.size = q := ⟨_, rfl⟩
  have hb0 : Below w.heap.size w W0 := by rw [← hW0]; exact one_allocB _ _
  have kx : Blk W0 q 28 #[.int .i64 k0, .int .i64 n0, .int .i64 w0, .slice ma mn mc, .slice ba bn bc, .slice xa n xc] := by rw [← hW0]; exact Blk.newM _ _ _ _ hq
  have x5 : W0.cell? ⟨q, 5, none⟩ = some (.slice xa n xc) := kx.cell 5
  have HW0 := Lib.hid hW0
  have Hq := Lib.hid hq
  have Hn := Lib.hid hn
  have Hce := Lib.hid hce
  have Hcl := Lib.hid hcl
  have hb0 := Lib.hid hb0
  have xh := Lib.hid xh
  have ih := Lib.hid ih
  have hsub := Lib.hid hsub
  have hn1 : n ≤ maxLen := by omega
  unfold maxLen at hn1
  clear hc hn hmn hbn hW0 hq kx hce hcl ho
  go_enter Tryz.func44, Tryz.ntmps44
  go_upto_region 1 with fail
  rw [HW0.out, Hq.out]
  go_wp2_with fail
  go_loopw [3, 9] (fun v i wr => ∃ (j a : Nat), j ≤ n ∧ i = .int .i64 (j : Nat) ∧ v = .int .i64 (a : Nat) ∧ Hid (a = 1 + ExE.cntL (x.take j)) ∧ a ≤ 1099511627776 ∧ Hid (Below w.heap.size w wr)) (fun _ i _ => n + 5 - (intOf i).toNat)
  case atStart => exact ⟨0, 1, by omega, rfl, rfl, Lib.hid (by rw [List.take_zero]; rfl), by omega, hb0⟩
  case round =>
    obtain ⟨j, a, hj, rfl, rfl, ha, hal, hbr⟩ := hrel
    by_cases hlt : (j : Int) < (n : Int)
    · have hjl : j < x.length := by rw [Hn.out]; omega
      obtain ⟨ad, had, hadb, c0, c1, c2, c3, c4, c5⟩ := exCs_cells (xh.out.next hbr.out) hjl
      have hmem : at_ x j ∈ x := at_mem hjl
      have htk := Lib.hid (cntL_take hjl)
      have hyG := ExE.G.next hbr.out _ (hsub.out _ hmem)
      have hyc := cnt_mem hmem
      obtain ⟨y, hy⟩ : ∃ y, at_ x j = y := ⟨_, rfl⟩
      rw [hy] at c0 c1 c2 c3 c4 c5 hmem htk hyG hyc
      have hyo := hyG.own
      have y1 : y.m.length ≤ y.mc := hyo.ml
      have y2 : y.mc ≤ maxLen := hyo.mc
      have y3 : y.b.length ≤ y.bc := hyo.bl
      have y4 : y.bc ≤ maxLen := hyo.bc
      have y5 : y.x.length ≤ y.xc := hyo.xl
      have y6 : y.xc ≤ maxLen := hyo.xc
      have hce := Hce.out
      have hcl := Hcl.out (j + 1)
      rw [htk.out] at hcl
      have ha1 := ha.out
      have hyk : y.cnt ≤ 1099511627776 := by omega
      have hak : a + y.cnt ≤ 1099511627776 := by omega
      have hC := fun (w' : World) (hb : Below wr.heap.size wr w') => ih.out y hmem w' (ExE.G.next hb _ hyG) hyk
      unfold exV at hC
      obtain ⟨yc, hyc'⟩ : ∃ c, y.cnt = c := ⟨_, rfl⟩
      rw [hyc'] at hC htk hak
      have hC := Lib.hid hC
      have q1 : (0 : Int) ≤ (j : Int) := by omega
      subst had
      clear hy hyG hyo hyk hyc hyc' hce hcl ha1
      go_wp2_with fail
      refine (hC.out _ (one_allocB _ _)).mono ?_
      rintro e w1 ⟨rfl, hb1⟩
      have hb01 := Lib.hid (bnext hbr.out (bnext (one_allocB _ _) hb1))
      have e1 : IntKind.i64.wrap ((a : Int) + (yc : Int)) = ((a + yc : Nat) : Int) := by rw [IntWalk.i64_in _ (by omega)]; omega
      clear hb1
      go_wp2_with fail
      go_roundw
      case rel => exact ⟨j + 1, a + yc, by omega, by go_num, by go_num, Lib.hid (by rw [htk.out, ha.out]; omega), hak, hb01⟩
      case measure => simp [intOf]; omega
    · obtain rfl : j = n := by omega
      have hac : a = c := by rw [ha.out, Hce.out, List.take_of_length_le (by rw [Hn.out]; exact Nat.le_refl _)]
      subst hac
      go_wp2_with fail
      go_ret
      exact R1.mk rfl hbr.out
end Go.Proofs.YtnicbhmeigpjkaaGreatDoor
namespace Go.Proofs.YtnicbhmeigpjkaaGreatDoor
open Go.RowKit

/-- a row, with where its labels lie -/
structure RowE where
  A : Option Addr
  c : Nat
  r : RowN
instance : Inhabited RowE := ⟨⟨none, 0, ([], 0)⟩⟩
def rowC (e : RowE) : List Value := [.string (txK e.r.1), .slice e.A e.r.1.length e.c, .int .i64 e.r.2]
def rowCs (l : List RowE) : List Value := l.flatMap rowC
theorem rowCs_len (l : List RowE) : (rowCs l).length = l.length * 3 := flat_len (f := rowC) (C := 3) (fun _ => rfl) l
theorem rowCs_app1 (l : List RowE) (x : RowE) : rowCs (l ++ [x]) = rowCs l ++ (#[.string (txK x.r.1), .slice x.A x.r.1.length x.c, .int .i64 x.r.2] : Array Value).toList := by simp [rowCs, rowC]
theorem rowCs_at {l : List RowE} {k r : Nat} (h : k < l.length) (hr : r < 3) : (rowCs l)[k * 3 + r]? = (rowC (at_ l k))[r]? := flat_at (f := rowC) (C := 3) (fun _ => rfl) h hr
/-- the three cells of a row -/
theorem rowCs_cells {w : World} {B : Nat} {A : Option Addr} {l : List RowE} (h : Has w B A (rowCs l)) {k : Nat} (hk : k < l.length) :
    ∃ ad, A = some ad ∧ ad.block < B ∧ w.cell? (ad.add (k * 3)) = some (.string (txK (at_ l k).r.1)) ∧ w.cell? ⟨(ad.add (k * 3)).block, (ad.add (k * 3)).off + 1, none⟩ = some (.slice (at_ l k).A (at_ l k).r.1.length (at_ l k).c) ∧ w.cell? ⟨(ad.add (k * 3)).block, (ad.add (k * 3)).off + 2, none⟩ = some (.int .i64 (at_ l k).r.2) := by
  obtain ⟨ad, rfl, hb, c0⟩ := h.at (rowCs_at hk (show 0 < 3 by decide))
  refine ⟨ad, rfl, hb, c0, ?_, ?_⟩
  · obtain ⟨ad', e', _, c⟩ := h.at (rowCs_at hk (show 1 < 3 by decide)); injection e' with e'; subst e'; exact cell_off c (by decide)
  · obtain ⟨ad', e', _, c⟩ := h.at (rowCs_at hk (show 2 < 3 by decide)); injection e' with e'; subst e'; exact cell_off c (by decide)
theorem elRow : Elem Tryz.prog 67 72 3 48 := Elem.mk' (z := .agg #[.string ⟨#[]⟩, .slice none 0 0, .int .i64 0]) Tryz.underlying67 (by kernel_rfl) rfl (by decide)
def RowOwn (w : World) (base : Nat) (e : RowE) : Prop := w.ownsRow base 78 2 (.slice e.A e.r.1.length e.c) e.r.1.length (labCs e.r.1)
theorem RowOwn.next {w w' : World} {base : Nat} {e : RowE} (h : RowOwn w base e) (hb : Below w.heap.size w w') : RowOwn w' base e := own_next h hb
theorem RowOwn.less {w : World} {base b2 : Nat} {e : RowE} (h : RowOwn w base e) (hb : b2 ≤ base) : RowOwn w b2 e := own_less h hb
/-- rows of the call's own -/
structure RowsAt (w : World) (base : Nat) (A : Option Addr) (n c : Nat) (es : List RowE) (l : List RowN) : Prop where
  len : es.length = n
  map : es.map (·.r) = l
  own : w.ownsRow base 72 3 (.slice A n c) n (rowCs es)
  labs : ∀ e ∈ es, RowOwn w base e
theorem RowsAt.next {w w' : World} {base : Nat} {A : Option Addr} {n c : Nat} {es : List RowE} {l : List RowN} (h : RowsAt w base A n c es l) (hb : Below w.heap.size w w') : RowsAt w' base A n c es l :=
  ⟨h.len, h.map, own_next h.own hb, fun e he => (h.labs e he).next hb⟩
theorem RowsAt.less {w : World} {base b2 : Nat} {A : Option Addr} {n c : Nat} {es : List RowE} {l : List RowN} (h : RowsAt w base A n c es l) (hb : b2 ≤ base) : RowsAt w b2 A n c es l :=
  ⟨h.len, h.map, own_less h.own hb, fun e he => (h.labs e he).less hb⟩
theorem RowsAt.nil (w : World) (base : Nat) : RowsAt w base none 0 0 [] [] := ⟨rfl, rfl, World.ownsRow_nil _ _ _ _, fun _ h => by cases h⟩
theorem RowsAt.lenN {w : World} {base : Nat} {A : Option Addr} {n c : Nat} {es : List RowE} {l : List RowN} (h : RowsAt w base A n c es l) : l.length = n := by rw [← h.map, List.length_map, h.len]
/-- a row more: the row of rows has grown -/
theorem RowsAt.snoc {w w7 w8 : World} {base : Nat} {A A8 : Option Addr} {n c c8 : Nat} {es : List RowE} {l : List RowN} (h : RowsAt w base A n c es l) {e : RowE} (hb : Below w.heap.size w w7) (he : RowOwn w7 base e) {v : Value} (hv : v = .slice A n c)
    (ho : w8.ownsRow base 72 3 (.slice A8 (n + 1) c8) (n + 1) (rowCs es ++ (#[.string (txK e.r.1), .slice e.A e.r.1.length e.c, .int .i64 e.r.2] : Array Value).toList)) (hg : w7.grownBy w8 v.ownBlock) : RowsAt w8 base A8 (n + 1) c8 (es ++ [e]) (l ++ [e.r]) := by
  subst hv
  refine ⟨by rw [List.length_append, h.len]; rfl, by rw [List.map_append, h.map]; rfl, by rw [rowCs_app1]; exact ho, fun y hy => ?_⟩
  have ho7 := own_next h.own hb
  have hk : ∀ y : RowE, RowOwn w7 base y → RowOwn w8 base y := fun y hy => own_keepX hy hg (own_apartX hy ho7 (by decide))
  rcases List.mem_append.1 hy with h1 | h1
  · exact hk y ((h.labs y h1).next hb)
  · rw [List.mem_singleton.1 h1]
    exact hk e he
where
  own_keepX {w w' : World} {base size n : Nat} {e : TypeId} {v : Value} {xs : List Value} {row : Option Nat} (h : w.ownsRow base e size v n xs) (hg : w.grownBy w' row) (hne : ∀ k, v.ownBlock = some k → some k ≠ row) : w'.ownsRow base e size v n xs := by
    refine ⟨h.1, ?_⟩
    rcases h.2 with h2 | ⟨g, cap, cur, rfl, hb, hgg, rest⟩
    · exact .inl h2
    · exact .inr ⟨g, cap, cur, rfl, hb, (hg.block g (Array.getElem?_eq_some_iff.1 hgg).1 (hne g rfl)).trans hgg, rest⟩
  own_apartX {w : World} {base base' size size' n n' : Nat} {e e' : TypeId} {v v' : Value} {xs xs' : List Value} (h : w.ownsRow base e size v n xs) (h' : w.ownsRow base' e' size' v' n' xs') (he : e ≠ e') : ∀ k, v.ownBlock = some k → some k ≠ v'.ownBlock := by
    intro k hk hk'
    rcases h.2 with ⟨rfl, _⟩ | ⟨g, cap, cur, rfl, _, hg, _⟩
    · cases hk
    · cases hk
      rcases h'.2 with ⟨rfl, _⟩ | ⟨g', cap', cur', rfl, _, hg', _⟩
      · cases hk'
      · cases hk'
        have := hg.symm.trans hg'
        simp at this
        exact he this.2
def RowOfP (L : List Lab) (v : Int) (w : World) (u : Value) (w' : World) : Prop :=
  ∃ A c, u = .agg #[.string (txK L), .slice A L.length c, .int .i64 v] ∧ w'.ownsRow w.heap.size 78 2 (.slice A L.length c) L.length (labCs L) ∧ Below w.heap.size w w'
theorem labOk_chk {L : List Lab} (h : chkL L = 0) : ∀ e ∈ L, LabOk e := fun e he => by
  obtain ⟨h1, h2, _⟩ := chkL_iff.1 h
  obtain ⟨h3, h4⟩ := h2 e he
  have h5 := nameOk_le h3
  exact ⟨by unfold maxLen; omega, by unfold maxLen; omega⟩
theorem text_chk {L : List Lab} (h : chkL L = 0) : textN L = (txK L, 0) := by unfold textN txK; rw [h, if_neg (by simp)]
set_option maxRecDepth 100000 in
theorem rowOf_any (A : Option Addr) (n c : Nat) (L : List Lab) (hn : L.length = n) (hA : A = none → n = 0 ∧ c = 0) (hchk : chkL L = 0) (v : Int) (w : World) (h : Has w w.heap.size A (labCs L)) (tS : SgAt w) :
    Calls Tryz.prog 53 #[.slice A n c, .int .i64 v] w (RV (RowOfP L v w)) := by
  have hl10 := (chkL_iff.1 hchk).1
  rw [hn] at hl10
  obtain ⟨W0, hW0⟩ : ∃ W0, w.alloc (.cells #[.string ⟨#[]⟩, .slice none 0 0, .int .i64 0] 72) = W0 := ⟨_, rfl⟩
  obtain ⟨q, hq⟩ : ∃ q, w.heap.size = q := ⟨_, rfl⟩
  have hb0 : Below w.heap.size w W0 := by rw [← hW0]; exact one_allocB _ _
  have kx : Blk W0 q 72 #[.string ⟨#[]⟩, .slice none 0 0, .int .i64 0] := by rw [← hW0]; exact Blk.newM _ _ _ _ hq
  have HT := lbtext_any A n c L hn (by unfold maxLen; omega) W0 (h.next hb0) (labOk_chk hchk) (tS.next hb0)
  rw [text_chk hchk] at HT
  have HT := Lib.hid HT
  have HC := Lib.hid (fun (w' : World) (hb : Below W0.heap.size W0 w') => cloneXLab_any A n c (labCs L) (by rw [labCs_len, hn]) (labCs_oneX L) hA (by omega) w' (h.next (bnext hb0 hb)))
  obtain ⟨k, hk⟩ : ∃ k, txK L = k := ⟨_, rfl⟩
  rw [hk] at HT
  have Hk := Lib.hid hk
  have Hn := Lib.hid hn
  have HW0 := Lib.hid hW0
  have Hq := Lib.hid hq
  have hb0 := Lib.hid hb0
  have kx := Lib.hid kx
  clear hW0 hq hn hk
  go_enter Tryz.func53, Tryz.ntmps53
  go_upto_region 1 with fail
  rw [HW0.out, Hq.out]
  go_wp2_with fail
  refine HT.out.mono ?_
  rintro e w1 ⟨rfl, hb1⟩
  have kx1 := kx.out.next hb1
  have hC := Lib.hid (HC.out _ hb1)
  have hb1 := Lib.hid hb1
  go_wp2_with fail
  refine hC.out.mono ?_
  rintro e w2 ⟨u, rfl, A', c', rfl, hown, hb2⟩
  have kx2 := kx1.next hb2
  have f0 : w2.frozen? ⟨q, 0, none⟩ = false := kx2.frozen 0
  have f1 : w2.frozen? ⟨q, 1, none⟩ = false := kx2.frozen 1
  have f2 : w2.frozen? ⟨q, 2, none⟩ = false := kx2.frozen 2
  have y0 : w2.cell? ⟨q, 0, none⟩ = some (.string ⟨#[]⟩) := kx2.cell 0
  have y1 : w2.cell? ⟨q, 1, none⟩ = some (.slice none 0 0) := kx2.cell 1
  have y2 : w2.cell? ⟨q, 2, none⟩ = some (.int .i64 0) := kx2.cell 2
  have hown := Lib.hid hown
  have hb2 := Lib.hid hb2
  have hq2 : Hid (q < w2.heap.size) := Lib.hid kx2.lt
  have hql : Hid (q < W0.heap.size ∧ q < w1.heap.size) := Lib.hid ⟨kx.out.lt, Nat.lt_of_lt_of_le kx.out.lt hb1.out.size⟩
  have hqw : Hid (w.heap.size ≤ q) := Lib.hid (Nat.le_of_eq Hq.out)
  clear kx1 kx2
  go_wp2_with fail
  refine bodyPost_ret (v := .agg #[.string k, .slice A' n c', .int .i64 v]) (by simp [results, Tryz.results53, go_sem, *]) rfl (RV.mk ⟨A', c', by rw [Hk.out, Hn.out], ?_, ?_⟩)
  · rw [Hn.out]
    exact own_less (ownsRow_setCell_below (ownsRow_setCell_below (ownsRow_setCell_below hown.out (a := ⟨q, 0, none⟩) hql.out.2 _) (a := ⟨q, 1, none⟩) hql.out.2 _) (a := ⟨q, 2, none⟩) hql.out.2 _) (Nat.le_trans hb0.out.size hb1.out.size)
  · exact (((bnext hb0.out (bnext hb1.out hb2.out)).setCell (p := ⟨q, 0, none⟩) hqw.out _).setCell (p := ⟨q, 1, none⟩) hqw.out _).setCell (p := ⟨q, 2, none⟩) hqw.out _
end Go.Proofs.YtnicbhmeigpjkaaGreatDoor
