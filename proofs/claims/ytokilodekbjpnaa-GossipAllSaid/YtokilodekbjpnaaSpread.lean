/- What Spread of package gossip gives. Conditions: claims and edges lie in their cells, and rows are not larger than memory. -/
import Derived.Test.YtokilodekbjpnaaOwnG
import Derived.Deep.RegionHeld3
namespace Go.Proofs.Ytokilodekbjpnaa
open Go.RowKit

theorem elLs : Elem Try.prog 22 28 1 24 := Elem.mk' (z := .slice none 0 0) Try.underlying22 (by kernel_rfl) rfl (by decide)
theorem ClE.good.next {w w' : World} {e : ClE} (h : e.good w) (hb : Below w.heap.size w w') : e.good w' := ⟨h.1.next hb, h.2⟩
theorem LsE.good.next {w w' : World} {e : LsE} (h : e.good w) (hb : Below w.heap.size w w') : e.good w' :=
  ⟨fun x hx => ⟨(h.1 x hx).1.next hb, (h.1 x hx).2⟩, h.2.1, h.2.2.1, h.2.2.2.1, h.2.2.2.2.1.next hb, h.2.2.2.2.2⟩
/-- a slice of rows of claims in its cells -/
def SsAt (w : World) (A : Option Addr) (n c : Nat) (LL : List LsE) : Prop := LL.length = n ∧ n ≤ c ∧ c ≤ maxLen ∧ Has w w.heap.size A (lsCs LL) ∧ ∀ e ∈ LL, e.good w
theorem SsAt.next {w w' : World} {A : Option Addr} {n c : Nat} {LL : List LsE} (h : SsAt w A n c LL) (hb : Below w.heap.size w w') : SsAt w' A n c LL :=
  ⟨h.1, h.2.1, h.2.2.1, h.2.2.2.1.next hb, fun e he => (h.2.2.2.2 e he).next hb⟩
def EdAt (w : World) (A : Option Addr) (n c : Nat) (EL : List Edg) : Prop := EL.length = n ∧ n ≤ c ∧ c ≤ maxLen ∧ Has w w.heap.size A (edCs EL) ∧ ∀ e ∈ EL, e.ok
theorem EdAt.next {w w' : World} {A : Option Addr} {n c : Nat} {EL : List Edg} (h : EdAt w A n c EL) (hb : Below w.heap.size w w') : EdAt w' A n c EL :=
  ⟨h.1, h.2.1, h.2.2.1, h.2.2.2.1.next hb, h.2.2.2.2⟩
theorem lsCs_at {l : List LsE} {k : Nat} (h : k < l.length) : (lsCs l)[k]? = some (at_ l k).v := by
  have := flat_at (f := lsC) (C := 1) (fun _ => rfl) h (r := 0) (by decide)
  rw [Nat.mul_one, Nat.add_zero] at this
  exact this
theorem lsCs_len (l : List LsE) : (lsCs l).length = l.length := by rw [lsCs, flat_len (C := 1) (fun _ => rfl), Nat.mul_one]
theorem lsCs_set (l : List LsE) (k : Nat) (e : LsE) : (lsCs l).set k e.v = lsCs (l.set k e) := by
  induction l generalizing k with
  | nil => rfl
  | cons x l ih =>
    cases k with
    | zero => rfl
    | succ k => rw [List.set_cons_succ]; show _ :: (lsCs l).set k e.v = _ :: lsCs (l.set k e); rw [ih]
theorem lsCs_app1 (l : List LsE) (e : LsE) : lsCs (l ++ [e]) = lsCs l ++ (#[e.v] : Array Value).toList := by simp [lsCs, lsC]
theorem edCs_0 {l : List Edg} {k : Nat} (h : k < l.length) : (edCs l)[k * 2]? = some (.int .i64 (at_ l k).f) := flat_at (f := edC) (C := 2) (fun _ => rfl) h (r := 0) (by decide)
theorem edCs_1 {l : List Edg} {k : Nat} (h : k < l.length) : (edCs l)[k * 2 + 1]? = some (.int .i64 (at_ l k).t) := flat_at (f := edC) (C := 2) (fun _ => rfl) h (r := 1) (by decide)
theorem Has.edAt {w : World} {B : Nat} {A : Option Addr} {L : List Edg} (h : Has w B A (edCs L)) {j : Nat} (hj : j < L.length) : ∃ ad, A = some ad ∧ ad.block < B ∧
    w.cell? (ad.add (j * 2)) = some (.int .i64 (at_ L j).f) ∧ w.cell? ⟨(ad.add (j * 2)).block, (ad.add (j * 2)).off + 1, none⟩ = some (.int .i64 (at_ L j).t) := by
  obtain ⟨ad, rfl, had, c0⟩ := h.at (edCs_0 hj)
  obtain ⟨ad', e, _, c1⟩ := h.at (edCs_1 hj)
  injection e with e
  subst e
  exact ⟨_, rfl, had, c0, cell_off c1 (by decide)⟩
/-- all rows of claims are the call's own -/
def AllOwn (w : World) (B : Nat) (OO : List LsE) : Prop := ∀ e ∈ OO, OwnL w B e.A e.c e.L
theorem AllOwn.next {w w' : World} {B : Nat} {OO : List LsE} (h : AllOwn w B OO) (hb : Below w.heap.size w w') : AllOwn w' B OO := fun e he => (h e he).next hb
theorem OwnL.grown {w w' : World} {B B2 c n size : Nat} {A : Option Addr} {O : List ClE} {v : Value} {xs : List Value} (h : OwnL w B A c O) (ho : w.ownsRow B2 28 size v n xs) (hg : w.grownBy w' v.ownBlock) : OwnL w' B A c O :=
  ⟨rk_grown h.1 hg (rk_two h.1 ho (by decide)), fun e he => rk_grown (h.2 e he) hg (rk_two (h.2 e he) ho (by decide))⟩
theorem AllOwn.grown {w w' : World} {B B2 n size : Nat} {OO : List LsE} {v : Value} {xs : List Value} (h : AllOwn w B OO) (ho : w.ownsRow B2 28 size v n xs) (hg : w.grownBy w' v.ownBlock) : AllOwn w' B OO :=
  fun e he => (h e he).grown ho hg
theorem AllOwn.snoc {w : World} {B : Nat} {OO : List LsE} {e : LsE} (h : AllOwn w B OO) (he : OwnL w B e.A e.c e.L) : AllOwn w B (OO ++ [e]) := by
  intro x hx
  rcases List.mem_append.1 hx with hx | hx
  · exact h x hx
  · simp at hx; subst hx; exact he
theorem AllOwn.set {w : World} {B : Nat} {OO : List LsE} {e : LsE} (h : AllOwn w B OO) (he : OwnL w B e.A e.c e.L) (k : Nat) : AllOwn w B (OO.set k e) := by
  intro x hx
  rcases List.mem_or_eq_of_mem_set hx with hx | hx
  · exact h x hx
  · subst hx; exact he
def SpreadP (r : List (List Clm) × Int) (w : World) (v : Value) (w' : World) : Prop :=
  ∃ (OO : List LsE) (A : Option Addr) (c : Nat), v = .tuple #[.slice A OO.length c, .int .i64 r.2] ∧ OO.map LsE.x = r.1 ∧ w'.ownsRow w.heap.size 28 1 (.slice A OO.length c) OO.length (lsCs OO) ∧ AllOwn w' w.heap.size OO ∧ Below w.heap.size w w'
theorem SpreadP.bad {r : List (List Clm) × Int} {z : Int} {w w' : World} (hr : r = ([], z)) (hb : Below w.heap.size w w') : SpreadP r w (.tuple #[.slice none 0 0, .int .i64 z]) w' :=
  ⟨[], none, 0, by rw [hr]; rfl, by rw [hr]; rfl, ⟨rfl, .inl ⟨rfl, rfl⟩⟩, (fun e he => by cases he), hb⟩
theorem keepSp {B b g f t : Nat} {w W : World} {x0 x1 y0 y1 : Value} (k : Below B w W) (hb : b < B) (hg : g < B) (c0 : w.cell? ⟨b, 0, none⟩ = some x0) (c1 : w.cell? ⟨b, 1, none⟩ = some x1) (d0 : w.cell? ⟨g, f, none⟩ = some y0) (d1 : w.cell? ⟨g, t, none⟩ = some y1) :
    W.cell? ⟨b, 0, none⟩ = some x0 ∧ W.cell? ⟨b, 1, none⟩ = some x1 ∧ W.cell? ⟨g, f, none⟩ = some y0 ∧ W.cell? ⟨g, t, none⟩ = some y1 :=
  ⟨(k.cell (p := ⟨b, 0, none⟩) hb).trans c0, (k.cell (p := ⟨b, 1, none⟩) hb).trans c1, (k.cell (p := ⟨g, f, none⟩) hg).trans d0, (k.cell (p := ⟨g, t, none⟩) hg).trans d1⟩
def VAll (o : List (List Clm)) : Prop := ∀ d ∈ o, VOk d
theorem VAll.at {o : List (List Clm)} (h : VAll o) (i : Nat) : VOk (at_ o i) := by
  rcases at_or o i with g | g
  · rw [g]; exact VOk.nil
  · exact h _ g
theorem VAll.step {o : List (List Clm)} (h : VAll o) {e : Edg} (hs : (swapAt o e).2 = 0) : VAll (stepE o e) := by
  intro d hd c hc
  obtain ⟨d', hd', hc'⟩ := step_from hs d hd c hc
  exact h d' hd' c hc'
theorem map_at {OO : List LsE} {k : Nat} (h : k < OO.length) : at_ (OO.map LsE.x) k = (at_ OO k).x := by
  unfold at_; rw [List.getD_eq_getElem?_getD, List.getElem?_map, get?_at h]; rfl

set_option maxRecDepth 1000000 in
set_option maxHeartbeats 8000000 in
theorem spread_any {A B : Option Addr} {n c m d : Nat} {LL : List LsE} {EL : List Edg} {all : List (List Clm)} {r : List (List Clm) × Int} (w : World) (ha : LL.map LsE.x = all) (hr : spreadN all EL = r) (hL : SsAt w A n c LL) (hE : EdAt w B m d EL) :
    Calls Try.prog 10 #[.slice A n c, .slice B m d] w (RV (SpreadP r w)) := by
  have hln : all.length = n := by rw [← ha, List.length_map]; exact hL.1
  have HL := Lib.hid hL
  have HE := Lib.hid hE
  have Ha := Lib.hid ha
  have Hln := Lib.hid hln
  have hnm : n ≤ 9223372036854775807 := Nat.le_trans hL.2.1 (by have := hL.2.2.1; unfold maxLen at this; exact this)
  have hmm : m ≤ 9223372036854775807 := Nat.le_trans hE.2.1 (by have := hE.2.2.1; unfold maxLen at this; exact this)
  clear hL hE ha hln
  by_cases h20 : (20 : Int) < (n : Int)
  · have HR := Lib.hid (show r = ([], 1) by rw [← hr]; unfold spreadN; rw [if_pos (by rw [Hln.out]; omega)])
    clear hr
    go_enter Try.func10, Try.ntmps10
    go_wp2_with fail
    go_ret2
    exact RV.mk (SpreadP.bad HR.out (Below.refl _ _))
  have hn20 : n ≤ 20 := by omega
  have HR := Lib.hid hr
  clear hr
  go_enter Try.func10, Try.ntmps10
  go_wp2_with fail
  go_loopw [23] (fun i wr => ∃ k : Nat, k ≤ m ∧ i = .int .i64 (k : Nat) ∧ Hid (∀ j, j < k → edgeOk n (at_ EL j) = true) ∧ Below w.heap.size w wr) (fun i _ => m - (intOf i).toNat)
  case atStart => exact ⟨0, by omega, rfl, Lib.hid (fun j hj => by omega), Below.refl _ _⟩
  case round =>
    obtain ⟨k, hk, rfl, hok, hbr⟩ := hrel
    by_cases hlt : (k : Int) < (m : Int)
    · have l1 := Lib.hid (show k < EL.length by rw [HE.out.1]; omega)
      obtain ⟨ad, rfl, had, c0, c1⟩ := (HE.out.next hbr).2.2.2.1.edAt l1.out
      have heo : (at_ EL k).ok := HE.out.2.2.2.2 _ (at_mem l1.out)
      obtain ⟨e, he⟩ : ∃ e, at_ EL k = e := ⟨_, rfl⟩
      rw [he] at c0 c1 heo
      have He := Lib.hid he
      clear he
      have kb : Blk (wr.alloc (.cells #[.int .i64 e.f, .int .i64 e.t] 44)) wr.heap.size 44 #[.int .i64 e.f, .int .i64 e.t] := Blk.new _ _ _
      have hbb := hbr.alloc hbr.size (.cells #[.int .i64 e.f, .int .i64 e.t] 44)
      by_cases ho : edgeOk n e = true
      · have ho2 : 0 ≤ e.f ∧ e.f < (n : Int) ∧ 0 ≤ e.t ∧ e.t < (n : Int) := of_decide_eq_true ho
        have Ho := Lib.hid ho
        have d1 : decide (e.f < 0) = false := decide_eq_false (by omega)
        have d2 : decide ((n : Int) ≤ e.f) = false := decide_eq_false (by omega)
        have d3 : decide (e.t < 0) = false := decide_eq_false (by omega)
        have d4 : decide ((n : Int) ≤ e.t) = false := decide_eq_false (by omega)
        clear ho
        go_wp2_with fail
        go_roundw
        case rel => exact ⟨k + 1, by omega, by go_num, Lib.hid (fun j hj => by
          rcases Nat.lt_or_ge j k with h1 | h1
          · exact hok.out j h1
          · rw [show j = k by omega, He.out]; exact Ho.out), hbb⟩
        case measure => simp [intOf]; omega
      · have hbad := Lib.hid (show r = ([], 6) by
          rw [← HR.out]
          unfold spreadN
          rw [if_neg (by rw [Hln.out]; omega), if_neg]
          intro hall
          rw [Hln.out] at hall
          exact ho (by rw [← He.out]; exact List.all_eq_true.1 hall _ (at_mem l1.out)))
        have ho2 : ¬ (0 ≤ e.f ∧ e.f < (n : Int) ∧ 0 ≤ e.t ∧ e.t < (n : Int)) := fun h => ho (decide_eq_true h)
        clear ho
        go_wp2_with fail
        all_goals first
          | (go_ret2; exact RV.mk (SpreadP.bad hbad.out hbb))
          | (exfalso; omega)
          | (trace_state; fail)
    · have hkm : m = k := by omega
      subst hkm
      have HR2 := Lib.hid (show runE all EL = r by
        rw [← HR.out]
        unfold spreadN
        rw [if_neg (by rw [Hln.out]; omega), if_pos]
        rw [Hln.out, List.all_eq_true]
        intro x hx
        obtain ⟨i, hi, rfl⟩ := List.getElem_of_mem hx
        rw [← at_eq hi]
        exact hok.out i (by rw [HE.out.1] at hi; exact hi))
      have HOK := hok
      clear hlt hk hok
      have hB0 := Lib.hid hbr
      have hsz0 := hbr.size
      clear hbr
      go_wp2_with fail
      go_loopw [9, 11, 50] (fun o _ i wq => ∃ (q : Nat) (O : Option Addr) (e : Nat) (OO : List LsE), q ≤ n ∧ i = .int .i64 (q : Nat) ∧ o = .slice O q e ∧ wq.ownsRow w.heap.size 28 1 (.slice O q e) q (lsCs OO) ∧ AllOwn wq w.heap.size OO ∧ Hid (OO.map LsE.x = (LL.take q).map LsE.x) ∧ Below w.heap.size w wq) (fun _ _ i _ => n - (intOf i).toNat)
      case atStart => exact ⟨0, none, 0, [], by omega, rfl, rfl, ⟨rfl, .inl ⟨rfl, rfl⟩⟩, (fun e he => by cases he), Lib.hid rfl, hB0.out⟩
      case round =>
        obtain ⟨q, O, e, OO, hq, rfl, rfl, hown, hall, hmap, hb2⟩ := hrel
        have hs2 := hb2.size
        by_cases hlq : (q : Int) < (n : Int)
        · have lq := Lib.hid (show q < LL.length by rw [HL.out.1]; omega)
          obtain ⟨ad, rfl, had, c0⟩ := (HL.out.next hb2).2.2.2.1.at (lsCs_at lq.out)
          have hgo := Lib.hid ((HL.out.next hb2).2.2.2.2 _ (at_mem lq.out))
          have htk := Lib.hid (show (LL.take (q + 1)).map LsE.x = (LL.take q).map LsE.x ++ [(at_ LL q).x] by rw [take_at lq.out, List.map_append]; rfl)
          obtain ⟨x, hx⟩ : ∃ x, at_ LL q = x := ⟨_, rfl⟩
          rw [hx] at c0 hgo htk
          clear hx
          have hHown := Lib.hid hown
          have hHall := Lib.hid hall
          clear hown hall
          have c0 : _ = some (Value.slice x.A x.L.length x.c) := c0
          go_wp2_with fail
          refine (gown_any x.A x.L.length x.c x.L rfl hgo.out.2.2.2.1 hgo.out.2.1 hgo.out.2.2.2.2.2 (fun y hy => (hgo.out.1 y hy).2) _ hgo.out.2.2.2.2.1 (fun y hy => (hgo.out.1 y hy).1.1)).mono ?_
          rintro e0 w5 ⟨v, rfl, O5, A5, c5, rfl, hm5, ho5, hb5⟩
          have hown5 := own_next hHown.out hb5
          have hall5 := hHall.out.next hb5
          have ho5 := ho5.less hs2
          have hb25 := bnext hb2 hb5
          have hs5 := hb25.size
          have Hm5 := Lib.hid hm5
          have Hall5 := Lib.hid hall5
          have Ho5 := Lib.hid ho5
          clear hm5 hall5 ho5
          go_wp2_with (at_builtin; refine wpList_append1 rfl _ _ _ rfl elLs rfl hown5 rfl rfl rfl ?_ ?k1 ?k2 ?k3 ?k4; intro A6 e6 w6 hown6 hgrow6 hb6)
          case k1 => rfl
          case k2 => omega
          case k3 => unfold maxLen; omega
          case k4 => exact hs5
          have hA6 := Lib.hid (AllOwn.snoc (e := ⟨A5, c5, O5⟩) (Hall5.out.grown hown5 hgrow6) (Ho5.out.grown hown5 hgrow6))
          have Hown6 := Lib.hid hown6
          have hb26 := hb25.trans hb6
          clear hown6 hgrow6 hown5
          go_roundw
          case rel =>
            refine ⟨q + 1, A6, e6, OO ++ [⟨A5, c5, O5⟩], by omega, by go_num, rfl, ?_, hA6.out, Lib.hid ?_, hb26⟩
            · rw [lsCs_app1]; exact Hown6.out
            · rw [htk.out, List.map_append, hmap.out]
              show _ ++ [O5.map ClE.x] = _ ++ [x.L.map ClE.x]
              rw [Hm5.out]
          case measure => simp [intOf]; omega
        · have hqn : n = q := by omega
          subst hqn
          have Hm0 := Lib.hid (show OO.map LsE.x = all by rw [hmap.out, List.take_of_length_le (by rw [HL.out.1]; exact Nat.le_refl _)]; exact Ha.out)
          have HV := Lib.hid (show VAll all by
            intro dd hdd c0 hc0
            rw [← Ha.out] at hdd
            obtain ⟨e1, he1, rfl⟩ := List.mem_map.1 hdd
            obtain ⟨x1, hx1, rfl⟩ := List.mem_map.1 hc0
            exact ((HL.out.2.2.2.2 e1 he1).1 x1 hx1).1.2.1)
          clear hmap hlq
          have hoo := own_len hown
          have hocap := own_cap hown
          go_wp2_with fail
          go_loopw [62] (fun i wq => ∃ (k : Nat) (OO : List LsE), k ≤ m ∧ i = .int .i64 (k : Nat) ∧ OO.length = n ∧ wq.ownsRow w.heap.size 28 1 (.slice O n e) n (lsCs OO) ∧ AllOwn wq w.heap.size OO ∧ Hid (runE (OO.map LsE.x) (EL.drop k) = r) ∧ Hid (VAll (OO.map LsE.x)) ∧ Below w.heap.size w wq) (fun i _ => m - (intOf i).toNat)
          case atStart => exact ⟨0, OO, by omega, rfl, by have h1 := congrArg List.length Hm0.out; rw [List.length_map, Hln.out] at h1; exact h1, hown, hall, Lib.hid (by rw [Hm0.out]; exact HR2.out), Lib.hid (by rw [Hm0.out]; exact HV.out), hb2⟩
          case round =>
            clear hown hall hb2 hs2 Hm0
            obtain ⟨k, OO, hk, rfl, hOn, hown, hall, hrun, hva, hb3⟩ := hrel
            have HOn := Lib.hid hOn
            clear hOn
            have hs3 := hb3.size
            by_cases hlt : (k : Int) < (m : Int)
            · have l1 := Lib.hid (show k < EL.length by rw [HE.out.1]; omega)
              have hok := HOK.out k (by omega)
              obtain ⟨ad, rfl, had, c0, c1⟩ := (HE.out.next hb3).2.2.2.1.edAt l1.out
              have hdr := Lib.hid (drop_at l1.out)
              obtain ⟨x, hx⟩ : ∃ x, at_ EL k = x := ⟨_, rfl⟩
              rw [hx] at c0 c1 hok hdr
              clear hx
              have ho2 : 0 ≤ x.f ∧ x.f < (n : Int) ∧ 0 ≤ x.t ∧ x.t < (n : Int) := of_decide_eq_true hok
              obtain ⟨xf, xt⟩ := x
              simp only [] at ho2 c0 c1
              obtain ⟨f, rfl⟩ := Int.eq_ofNat_of_zero_le ho2.1
              obtain ⟨t, rfl⟩ := Int.eq_ofNat_of_zero_le ho2.2.2.1
              have hfq : f < n := by omega
              have htq : t < n := by omega
              clear hok ho2
              obtain ⟨g, cap, ev, hg, hgs⟩ := hown.form (by omega)
              injection ev with e1 e2 e3
              subst e1 e3
              obtain ⟨E1, hE1⟩ : ∃ E1, at_ OO f = E1 := ⟨_, rfl⟩
              obtain ⟨E2, hE2⟩ : ∃ E2, at_ OO t = E2 := ⟨_, rfl⟩
              have hm1 : E1 ∈ OO := by rw [← hE1]; exact at_mem (by rw [HOn.out]; exact hfq)
              have hm2 : E2 ∈ OO := by rw [← hE2]; exact at_mem (by rw [HOn.out]; exact htq)
              obtain ⟨⟨⟨P, Q⟩, z⟩, hsw⟩ : ∃ s, swapN E1.x E2.x = s := ⟨_, rfl⟩
              have hsA : swapAt (OO.map LsE.x) ⟨(f : Nat), (t : Nat)⟩ = ((P, Q), z) := by
                unfold swapAt
                simp only [Int.toNat_natCast]
                rw [map_at (by rw [HOn.out]; exact hfq), map_at (by rw [HOn.out]; exact htq), hE1, hE2]
                exact hsw
              have hv1 := Lib.hid (show VOk E1.x by have := hva.out.at f; rwa [map_at (by rw [HOn.out]; exact hfq), hE1] at this)
              have hv2 := Lib.hid (show VOk E2.x by have := hva.out.at t; rwa [map_at (by rw [HOn.out]; exact htq), hE2] at this)
              have q0 := (hown.cellAt f (by omega)).trans (lsCs_at (by rw [HOn.out]; exact hfq))
              have q1 := (hown.cellAt t (by omega)).trans (lsCs_at (by rw [HOn.out]; exact htq))
              rw [hE1] at q0
              rw [hE2] at q1
              have q0 : wr.cell? ⟨g, f, none⟩ = some (.slice E1.A E1.L.length E1.c) := q0
              have q1 : wr.cell? ⟨g, t, none⟩ = some (.slice E2.A E2.L.length E2.c) := q1
              have HSW := Lib.hid hsw
              have HSA := Lib.hid hsA
              clear hE1 hE2 hsw hsA
              have hbx : Below wr.heap.size wr (wr.alloc (.cells #[.int .i64 (f : Nat), .int .i64 (t : Nat)] 44)) := one_alloc _ _
              have kb : Blk (wr.alloc (.cells #[.int .i64 (f : Nat), .int .i64 (t : Nat)] 44)) wr.heap.size 44 #[.int .i64 (f : Nat), .int .i64 (t : Nat)] := Blk.new _ _ _
              have hownE := hown.alloc (.cells #[.int .i64 (f : Nat), .int .i64 (t : Nat)] 44)
              have hallE := Lib.hid (hall.next hbx)
              have hbe := hb3.alloc hs3 (.cells #[.int .i64 (f : Nat), .int .i64 (t : Nat)] 44)
              have hgw : g < wr.heap.size := hown.lt g rfl |>.2
              have y0 := (hbx.cell (p := ⟨g, f, none⟩) hgw).trans q0
              have y1 := (hbx.cell (p := ⟨g, t, none⟩) hgw).trans q1
              clear q0 q1 hown hall hbx
              go_wp2_with fail
              obtain ⟨we, hwe⟩ : ∃ we, wr.alloc (.cells #[.int .i64 (f : Nat), .int .i64 (t : Nat)] 44) = we := ⟨_, rfl⟩
              rw [hwe] at kb hownE hallE hbe y0 y1 ⊢
              obtain ⟨b, hb⟩ : ∃ b, wr.heap.size = b := ⟨_, rfl⟩
              rw [hb] at kb hgw hs3 ⊢
              have hbl : b < we.heap.size := kb.lt
              have hgl : g < we.heap.size := by omega
              have HB3 := Lib.hid hb3
              clear hwe hb hb3
              have p0 : we.cell? ⟨b, 0, none⟩ = some (.int .i64 (f : Nat)) := kb.cell 0
              have p1 : we.cell? ⟨b, 1, none⟩ = some (.int .i64 (t : Nat)) := kb.cell 1
              have i1 : (f : Int) < (n : Int) := by omega
              have i2 : (t : Int) < (n : Int) := by omega
              have i3 : decide ((f : Int) < 0) = false := by rw [decide_eq_false_iff_not]; omega
              have i4 : decide ((t : Int) < 0) = false := by rw [decide_eq_false_iff_not]; omega
              have hbse : w.heap.size ≤ we.heap.size := hbe.size
              go_region_held3 (fun w' => w'.cell? ⟨b, 0, none⟩ = some (.int .i64 (f : Nat)) ∧ w'.cell? ⟨b, 1, none⟩ = some (.int .i64 (t : Nat)) ∧ w'.cell? ⟨g, f, none⟩ = some (.slice E1.A E1.L.length E1.c) ∧ w'.cell? ⟨g, t, none⟩ = some (.slice E2.A E2.L.length E2.c))
                (first | (refine keepSp (B := we.heap.size) (w := we) ?_ hbl hgl p0 p1 y0 y1; (repeat' (first | with_reducible exact hB9 | with_reducible exact Below.refl _ _ | with_reducible refine below_drewM ?_ | with_reducible refine below_drewN ?_ _)); done) | (trace_state; fail))
                ((go_at_call 43; refine (swap_any _ rfl rfl HSW.out (by exact (hallE.out E1 hm1).ls.drewN 1) (by exact (hallE.out E2 hm2).ls.drewN 1) hv1.out hv2.out).mono ?_; rintro e9 w9 ⟨v9, rfl, O1, O2, A1, A2, k1, k2, rfl, s1, s2, l91, l92, hb9⟩; have hB9 : Below we.heap.size we w9 := Below.trans (by first | with_reducible exact below_drewM (Below.refl _ _) | exact below_drewN (Below.refl _ _) 1) hb9))
              have hown9 := own_next hownE hB9
              have hall9 := hallE.out.next hB9
              have hbe9 : Below w.heap.size w w9 := hbe.trans (hB9.mono hbse)
              have kb9 := kb.next hB9
              have L1 := Lib.hid (l91.less (B' := w.heap.size) (by exact hbse))
              have L2 := Lib.hid (l92.less (B' := w.heap.size) (by exact hbse))
              have S1 := Lib.hid s1
              have S2 := Lib.hid s2
              have hrun2 : runE (OO.map LsE.x) (⟨(f : Nat), (t : Nat)⟩ :: EL.drop (k + 1)) = r := by rw [← hdr.out]; exact hrun.out
              rw [runE, HSA.out] at hrun2
              clear l91 l92 s1 s2 hownE hallE kb p0 p1 y0 y1 hb9
              have p0 : w9.cell? ⟨b, 0, none⟩ = some (.int .i64 (f : Nat)) := kb9.cell 0
              have p1 : w9.cell? ⟨b, 1, none⟩ = some (.int .i64 (t : Nat)) := kb9.cell 1
              have hbg : b ≠ g := by omega
              by_cases hz : z = 0
              · subst hz
                rw [if_neg (fun h => h rfl)] at hrun2
                have HRun := Lib.hid hrun2
                have HVA := Lib.hid (hva.out.step (e := ⟨(f : Nat), (t : Nat)⟩) (by rw [HSA.out]))
                clear hrun2
                have x0 := (hown9.cellAt f (by omega)).trans (lsCs_at (by rw [HOn.out]; exact hfq))
                have x1 := (hown9.cellAt t (by omega)).trans (lsCs_at (by rw [HOn.out]; exact htq))
                have g0 := hown9.frozenAt f
                have g1 := hown9.frozenAt t
                obtain ⟨hst1, hgr1⟩ := hown9.stored f (.slice A1 O1.length k1)
                have hall10 := hall9.grown hown9 hgr1
                have L10 := Lib.hid (L1.out.grown hown9 hgr1)
                have M10 := Lib.hid (L2.out.grown hown9 hgr1)
                rw [show (Value.slice A1 O1.length k1) = (⟨A1, k1, O1⟩ : LsE).v from rfl, lsCs_set] at hst1
                have Hst1 := Lib.hid hst1
                have Hall10 := Lib.hid hall10
                by_cases hft : f = t
                · subst hft
                  have hstep := Lib.hid (show stepE (OO.map LsE.x) ⟨(f : Nat), (f : Nat)⟩ = (OO.set f ⟨A1, k1, O1⟩).map LsE.x by
                    unfold stepE
                    rw [if_pos rfl, HSA.out, List.map_set]
                    show (OO.map LsE.x).set f P = _
                    rw [show (⟨A1, k1, O1⟩ : LsE).x = P from S1.out])
                  clear hst1 hall10 hown9 hall9 hgr1
                  go_wp2_with fail
                  go_roundw
                  case rel => exact ⟨k + 1, OO.set f ⟨A1, k1, O1⟩, by omega, by go_num, by rw [List.length_set]; exact HOn.out, Hst1.out, AllOwn.set Hall10.out L10.out f, Lib.hid (by rw [← hstep.out]; exact HRun.out), Lib.hid (by rw [← hstep.out]; exact HVA.out), hbe9.setCell (by show w.heap.size ≤ g; exact hg) _⟩
                  case measure => simp [intOf]; omega
                · have hstep := Lib.hid (show stepE (OO.map LsE.x) ⟨(f : Nat), (t : Nat)⟩ = ((OO.set f ⟨A1, k1, O1⟩).set t ⟨A2, k2, O2⟩).map LsE.x by
                    unfold stepE
                    rw [if_neg (by simp only []; omega), HSA.out, List.map_set, List.map_set]
                    show ((OO.map LsE.x).set f P).set t Q = _
                    rw [show (⟨A1, k1, O1⟩ : LsE).x = P from S1.out, show (⟨A2, k2, O2⟩ : LsE).x = Q from S2.out])
                  obtain ⟨hst2, hgr2⟩ := hst1.stored t (.slice A2 O2.length k2)
                  have hall11 := hall10.grown hst1 hgr2
                  have L11 := Lib.hid (L10.out.grown hst1 hgr2)
                  have M11 := Lib.hid (M10.out.grown hst1 hgr2)
                  rw [show (Value.slice A2 O2.length k2) = (⟨A2, k2, O2⟩ : LsE).v from rfl, lsCs_set] at hst2
                  have Hst2 := Lib.hid hst2
                  have Hall11 := Lib.hid hall11
                  have hne1 : ((f : Int) != (t : Int)) = true := by rw [bne_iff_ne]; omega
                  have hne2 : ¬ (f = t) := hft
                  clear hst1 hall10 hown9 hall9 hgr1 hst2 hall11 hgr2
                  go_wp2_with fail
                  go_roundw
                  case rel => exact ⟨k + 1, (OO.set f ⟨A1, k1, O1⟩).set t ⟨A2, k2, O2⟩, by omega, by go_num, by rw [List.length_set, List.length_set]; exact HOn.out, Hst2.out, AllOwn.set (AllOwn.set Hall11.out L11.out f) M11.out t, Lib.hid (by rw [← hstep.out]; exact HRun.out), Lib.hid (by rw [← hstep.out]; exact HVA.out), (hbe9.setCell (by show w.heap.size ≤ g; exact hg) _).setCell (by show w.heap.size ≤ g; exact hg) _⟩
                  case measure => simp [intOf]; omega
              · have f1 : (z != 0) = true := by rw [bne_iff_ne]; exact hz
                rw [if_pos hz] at hrun2
                have HRun := Lib.hid hrun2.symm
                clear hrun2 hown9 hall9
                go_wp2_with fail
                go_ret2
                exact RV.mk (SpreadP.bad HRun.out hbe9)
            · have hkm : m = k := by omega
              subst hkm
              have HF := Lib.hid (show r = (OO.map LsE.x, 0) by rw [← hrun.out, List.drop_of_length_le (by rw [HE.out.1]; exact Nat.le_refl _)]; rfl)
              have hv : Value.tuple #[.slice O n e, .int .i64 0] = Value.tuple #[.slice O OO.length e, .int .i64 r.2] := by rw [HF.out, HOn.out]
              have Hv := Lib.hid hv
              clear hv
              go_wp2_with fail
              go_ret2
              exact RV.mk ⟨OO, O, e, Hv.out, by rw [HF.out], by rw [HOn.out]; exact hown, hall, hb3⟩
end Go.Proofs.Ytokilodekbjpnaa
