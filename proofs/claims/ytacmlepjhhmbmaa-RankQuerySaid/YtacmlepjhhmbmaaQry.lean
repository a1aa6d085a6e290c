/- What Query of package rank answers. Conditions: rows lie in their cells. -/
import Derived.Test.YtacmlepjhhmbmaaRkOrd
import Derived.Test.YtacmlepjhhmbmaaConcL
import Derived.Test.YtacmlepjhhmbmaaSortI
namespace Go.Proofs.Ytacmlepjhhmbmaa
open Go.RowKit

def FoundV (v : Value) (i : Nat) : Prop := ∃ b, v = .tuple #[.int .i64 i, .bool b]
/-- a rank's box and its rows -/
structure RkBox (w : World) (g : Nat) (K : Int) (A : Option Addr) (c : Nat) (T : List Int) (B : Option Addr) (e : Nat) (L : List (List Int)) (vs : List Value) (N S : Int) : Prop where
  k : Blk w g 35 (rankV K A T.length c B L.length e N S)
  t : IntAt w (.slice A T.length c) T
  b : Has w w.heap.size B vs
  l : IntsAt w vs L
theorem RkBox.next {w w' : World} {g : Nat} {K : Int} {A : Option Addr} {c : Nat} {T : List Int} {B : Option Addr} {e : Nat} {L : List (List Int)} {vs : List Value} {N S : Int} (h : RkBox w g K A c T B e L vs N S) (hb : Below w.heap.size w w') : RkBox w' g K A c T B e L vs N S :=
  ⟨h.k.next hb, h.t.next hb, h.b.next hb, h.l.next hb⟩

set_option maxRecDepth 1000000 in
set_option maxHeartbeats 2000000 in
theorem query1_any (K : Int) (A : Option Addr) (c : Nat) (T : List Int) (B : Option Addr) (e : Nat) (L : List (List Int)) (vs : List Value) (N S : Int) (hLe : L.length ≤ e) (hem : e ≤ maxLen) (hLl : L.length ≤ 20) (g : Nat) (x r : Int) (w : World) (h : RkBox w g K A c T B e L vs N S) :
    Calls Try.prog 34 #[.int .i64 x, .int .i64 r, .pointer (some ⟨g, 0, none⟩)] w (R1 (.int .i64 (if wsum T L x L.length < r then -1 else 1)) (Below w.heap.size w)) := by
  have y0 : w.cell? ⟨g, 0, none⟩ = some (.int .i64 K) := h.k.cell 0
  have y1 : w.cell? ⟨g, 1, none⟩ = some (.slice A T.length c) := h.k.cell 1
  have y2 : w.cell? ⟨g, 2, none⟩ = some (.slice B L.length e) := h.k.cell 2
  have y3 : w.cell? ⟨g, 3, none⟩ = some (.int .i64 N) := h.k.cell 3
  have y4 : w.cell? ⟨g, 4, none⟩ = some (.int .i64 S) := h.k.cell 4
  have HW := Lib.hid (weight_any K A c T B e L vs N S x hLe hem w h.t h.b h.l hLl)
  obtain ⟨z, hz⟩ : ∃ z, wsum T L x L.length = z := ⟨_, rfl⟩
  rw [hz] at HW ⊢
  clear hz h
  by_cases hr : z < r
  · go_enter Try.func34, Try.ntmps34
    go_wp2_with fail
    refine HW.out.mono ?_
    rintro e' w2 ⟨rfl, hb2⟩
    go_wp2_with fail
    go_ret
    exact R1.mk (by simp) hb2
  · go_enter Try.func34, Try.ntmps34
    go_wp2_with fail
    refine HW.out.mono ?_
    rintro e' w2 ⟨rfl, hb2⟩
    go_wp2_with fail
    go_ret
    exact R1.mk (by simp) hb2

set_option maxRecDepth 1000000 in
set_option maxHeartbeats 4000000 in
theorem binsR_any (K : Int) (A : Option Addr) (c : Nat) (T : List Int) (B : Option Addr) (e : Nat) (L : List (List Int)) (vs : List Value) (N S : Int) (hLe : L.length ≤ e) (hem : e ≤ maxLen) (hLl : L.length ≤ 20) (hmono : ∀ x y, x ≤ y → wsum T L x L.length ≤ wsum T L y L.length) (g : Nat) (r : Int)
    (X : Option Addr) (n d : Nat) (U : List Int) (hn : U.length = n) (hl : n ≤ 4000) (hU : U.Pairwise (· ≤ ·)) (w : World) (h : RkBox w g K A c T B e L vs N S) (hX : Has w w.heap.size X (i64s U)) :
    Calls Try.prog 33 #[.slice X n d, .int .i64 r, .func (.func 34) #[] #[.pointer (some ⟨g, 0, none⟩)]] w
      (RV fun v w' => (∃ (i : Nat), FoundV v i ∧ i ≤ n ∧ (∀ q, q < i → wsum T L (at_ U q) L.length < r) ∧ ∀ q, i ≤ q → q < n → r ≤ wsum T L (at_ U q) L.length) ∧ Below w.heap.size w w') := by
  have Hn := Lib.hid hn; clear hn
  have HQ := Lib.hid (fun x (w' : World) (hb : Below w.heap.size w w') => query1_any K A c T B e L vs N S hLe hem hLl g x r w' (h.next hb))
  obtain ⟨f, hf⟩ : ∃ f : Int → Int, (fun x => wsum T L x L.length) = f := ⟨_, rfl⟩
  have hfx : ∀ x, wsum T L x L.length = f x := fun x => by rw [← hf]
  simp only [hfx] at hmono HQ ⊢
  have HS := Lib.hid (show ∀ i j, i ≤ j → j < U.length → f (at_ U i) ≤ f (at_ U j) from fun i j hij hj => by
    rcases Nat.lt_or_ge i j with g | g
    · refine hmono _ _ ?_
      rw [at_eq hj, at_eq (show i < U.length by omega)]
      exact List.pairwise_iff_getElem.1 hU i j (by omega) hj g
    · rw [show i = j by omega]; exact Int.le_refl _)
  clear hf hfx hmono hU h
  go_enter Try.func33, Try.ntmps33
  go_wp2_with fail
  go_loopw [9, 10] (fun a b wr => ∃ i j : Nat, i ≤ j ∧ j ≤ n ∧ a = .int .i64 (i : Nat) ∧ b = .int .i64 (j : Nat) ∧ Hid ((∀ q, q < i → f (at_ U q) < r) ∧ ∀ q, j ≤ q → q < n → r ≤ f (at_ U q)) ∧ Below w.heap.size w wr) (fun a b _ => (intOf b).toNat - (intOf a).toNat)
  case atStart => exact ⟨0, n, by omega, by omega, rfl, rfl, Lib.hid ⟨fun q hq => by omega, fun q h1 h2 => by omega⟩, Below.refl _ _⟩
  case round =>
    obtain ⟨i, j, hij, hjn, rfl, rfl, hq, hbr⟩ := hrel
    by_cases hlt : (i : Int) < (j : Int)
    · obtain ⟨m, hm⟩ : ∃ m, (i + j) / 2 = m := ⟨_, rfl⟩
      have h1 : i ≤ m := by omega
      have h2 : m < j := by omega
      have e1 : Hid (((i : Int) + (j : Int)) / 2 = (m : Int)) := Lib.hid (by omega)
      have Hm := Lib.hid hm
      clear hm
      obtain ⟨ad, rfl, had, c0⟩ := (hX.next hbr).at (i64s_at (show m < U.length by rw [Hn.out]; omega))
      obtain ⟨y, hy⟩ : ∃ y, at_ U m = y := ⟨_, rfl⟩
      rw [hy, ← Hm.out] at c0
      have Hy := Lib.hid hy
      clear hy
      obtain ⟨z, hz⟩ : ∃ z, f y = z := ⟨_, rfl⟩
      have Hz := Lib.hid hz
      clear hz
      by_cases hyx : z < r
      · go_wp2_with fail
        rw [e1.out]
        go_wp2_with fail
        refine (HQ.out y _ hbr).mono ?_
        rw [Hz.out, if_pos hyx]
        rintro e w1 ⟨rfl, hb1⟩
        go_wp2_with fail
        go_roundw
        case rel =>
          refine ⟨m + 1, j, by omega, hjn, by go_num, rfl, Lib.hid ⟨fun q hq2 => ?_, hq.out.2⟩, bnext hbr hb1⟩
          have := HS.out q m (by omega) (by rw [Hn.out]; omega)
          rw [Hy.out, Hz.out] at this
          omega
        case measure => simp [intOf]; omega
      · go_wp2_with fail
        rw [e1.out]
        go_wp2_with fail
        refine (HQ.out y _ hbr).mono ?_
        rw [Hz.out, if_neg (by omega)]
        rintro e w1 ⟨rfl, hb1⟩
        go_wp2_with fail
        go_roundw
        case rel =>
          refine ⟨i, m, h1, by omega, rfl, rfl, Lib.hid ⟨hq.out.1, fun q h3 h4 => ?_⟩, bnext hbr hb1⟩
          have := HS.out m q h3 (by rw [Hn.out]; exact h4)
          rw [Hy.out, Hz.out] at this
          omega
        case measure => simp [intOf]; omega
    · have hij2 : j = i := by omega
      subst hij2
      have hres := Lib.hid (show j ≤ n ∧ (∀ q, q < j → f (at_ U q) < r) ∧ ∀ q, j ≤ q → q < n → r ≤ f (at_ U q) from ⟨hjn, hq.out.1, hq.out.2⟩)
      by_cases hjl : (j : Int) < (n : Int)
      · obtain ⟨ad, rfl, had, c0⟩ := (hX.next hbr).at (i64s_at (show j < U.length by rw [Hn.out]; omega))
        obtain ⟨y, hy⟩ : ∃ y, at_ U j = y := ⟨_, rfl⟩
        rw [hy] at c0
        clear hy
        by_cases hyx : f y < r
        · go_wp2_with fail
          refine (HQ.out y _ hbr).mono ?_
          rw [if_pos hyx]
          rintro e w1 ⟨rfl, hb1⟩
          go_wp2_with fail
          go_ret2
          exact RV.mk ⟨⟨j, ⟨_, rfl⟩, hres.out⟩, bnext hbr hb1⟩
        · go_wp2_with fail
          refine (HQ.out y _ hbr).mono ?_
          rw [if_neg (by omega)]
          rintro e w1 ⟨rfl, hb1⟩
          go_wp2_with fail
          go_ret2
          exact RV.mk ⟨⟨j, ⟨_, rfl⟩, hres.out⟩, bnext hbr hb1⟩
      · go_wp2_with fail
        go_ret2
        exact RV.mk ⟨⟨j, ⟨_, rfl⟩, hres.out⟩, hbr⟩

set_option maxRecDepth 1000000 in
set_option maxHeartbeats 8000000 in
theorem query_any (K : Int) (hK : in64 K) (A : Option Addr) (c : Nat) (T : List Int) (B : Option Addr) (e : Nat) (L : List (List Int)) (vs : List Value) (N S r : Int) (hLe : L.length ≤ e) (hem : e ≤ maxLen)
    (w : World) (hT : IntAt w (.slice A T.length c) T) (hB : Has w w.heap.size B vs) (hL : IntsAt w vs L) (hLl : L.length ≤ 5864062014634) :
    Calls Try.prog 18 #[.agg #[.int .i64 K, .slice A T.length c, .slice B L.length e, .int .i64 N, .int .i64 S], .int .i64 r] w
      (RV fun v w' => (∃ a E, v = W2 (a, E) ∧ QueryR K T L N S r a E) ∧ Below w.heap.size w w') := by
  have hb1 : Below w.heap.size w (w.alloc (.cells #[.int .i64 K, .slice A T.length c, .slice B L.length e, .int .i64 N, .int .i64 S] 35)) := (Below.refl _ _).alloc (Nat.le_refl _) _
  have hk1 : Blk (w.alloc (.cells #[.int .i64 K, .slice A T.length c, .slice B L.length e, .int .i64 N, .int .i64 S] 35)) w.heap.size 35 #[.int .i64 K, .slice A T.length c, .slice B L.length e, .int .i64 N, .int .i64 S] := Blk.new _ _ _
  have hx1 : RkBox (w.alloc (.cells #[.int .i64 K, .slice A T.length c, .slice B L.length e, .int .i64 N, .int .i64 S] 35)) w.heap.size K A c T B e L vs N S := ⟨hk1, hT.next hb1, hB.next hb1, hL.next hb1⟩
  obtain ⟨C, hC⟩ : ∃ C, chkK K T L N S = C := ⟨_, rfl⟩
  have hC04 := chkK_cases K T L N S
  rw [hC] at hC04
  have HC := Lib.hid hC
  clear hC
  go_enter Try.func18, Try.ntmps18
  go_wp2_with fail
  refine (rcheck_any K hK A c T B e L vs N S hLe hem _ hx1.t hx1.b hx1.l hLl).mono ?_
  rw [HC.out]
  rintro e' w2 ⟨rfl, hb2⟩
  have hb12 := bnext hb1 hb2
  have hx2 := hx1.next hb2
  have y0 : w2.cell? ⟨w.heap.size, 0, none⟩ = some (.int .i64 K) := hx2.k.cell 0
  have y1 : w2.cell? ⟨w.heap.size, 1, none⟩ = some (.slice A T.length c) := hx2.k.cell 1
  have y2 : w2.cell? ⟨w.heap.size, 2, none⟩ = some (.slice B L.length e) := hx2.k.cell 2
  have y3 : w2.cell? ⟨w.heap.size, 3, none⟩ = some (.int .i64 N) := hx2.k.cell 3
  have y4 : w2.cell? ⟨w.heap.size, 4, none⟩ = some (.int .i64 S) := hx2.k.cell 4
  clear hk1 hx1
  rcases hC04 with rfl | rfl
  · have hF := Lib.hid (RkF.of HC.out)
    have hl20 := hF.out.l20
    have hT64 := hF.out.t64
    have hfl : L.flatten.length ≤ 1280 := by
      have := preL_le (L := L) (fun k _ => hF.out.l64 k) (Nat.le_refl _)
      rw [preL_all] at this
      omega
    by_cases hN : N = 0
    · subst hN
      go_wp2_with fail
      go_ret2
      exact RV.mk ⟨⟨0, 7, rfl, .inr ⟨by decide, by decide, by decide, rfl, fun g => by omega⟩⟩, hb12⟩
    · by_cases hr1 : r < 1
      · go_wp2_with fail
        go_ret2
        exact RV.mk ⟨⟨0, 6, rfl, .inr ⟨by decide, by decide, by decide, rfl, fun g => by omega⟩⟩, hb12⟩
      · by_cases hrN : N < r
        · go_wp2_with fail
          go_ret2
          exact RV.mk ⟨⟨0, 6, rfl, .inr ⟨by decide, by decide, by decide, rfl, fun g => by omega⟩⟩, hb12⟩
        · have HCon := Lib.hid (concatL_any B e L vs hLe hem hl20 (fun k _ => hF.out.l64 k) w2 hx2.b hx2.l)
          have HU := Lib.hid (show L.flatten ++ T = allR T L from rfl)
          obtain ⟨F, hFl⟩ : ∃ F, L.flatten = F := ⟨_, rfl⟩
          rw [hFl] at HCon hfl HU
          clear hFl
          obtain ⟨p, hp⟩ : ∃ p, F.length = p := ⟨_, rfl⟩
          rw [hp] at HCon hfl
          have Hp := Lib.hid hp
          clear hp
          obtain ⟨m, hm⟩ : ∃ m, T.length = m := ⟨_, rfl⟩
          rw [hm] at hT64
          have Hm := Lib.hid hm
          have H64 := Lib.hid hT64
          clear hm hT64
          go_wp2_with fail
          refine HCon.out.mono ?_
          rintro e' w3 ⟨v, rfl, A3, c3, rfl, hown3, hb3⟩
          have hb23 := hb3
          have hx3 := hx2.next hb3
          clear y0 y1 y2 y3 y4
          have y0 : w3.cell? ⟨w.heap.size, 0, none⟩ = some (.int .i64 K) := hx3.k.cell 0
          have y1 : w3.cell? ⟨w.heap.size, 1, none⟩ = some (.slice A T.length c) := hx3.k.cell 1
          have y2 : w3.cell? ⟨w.heap.size, 2, none⟩ = some (.slice B L.length e) := hx3.k.cell 2
          have y3 : w3.cell? ⟨w.heap.size, 3, none⟩ = some (.int .i64 N) := hx3.k.cell 3
          have y4 : w3.cell? ⟨w.heap.size, 4, none⟩ = some (.int .i64 S) := hx3.k.cell 4
          have hown3 := Lib.hid hown3
          have hsz3 := Lib.hid hb3.size
          have hTr := Lib.hid (show Has w3 w3.heap.size A (i64s T) from by
            obtain ⟨_, _, e0, _, _, _, h4, _⟩ := hx3.t
            injection e0 with e01 _ e02
            subst e01
            exact h4)
          go_wp2_with (at_builtin; refine wpList_spread rfl _ _ _ rfl elI64 rfl hown3.out rfl (by exact hTr.out) ?_ ?c1 ?c2 ?c3 ?c4 ?c5; intro A4 c4 w4 hown4 hgrow4 hbel4)
          case c1 => rw [i64sC_len, Nat.mul_one]
          case c2 => exact i64sC_one _
          case c3 => rw [Hm.out]; have := H64.out; omega
          case c4 => unfold maxLen; rw [Hm.out]; have := H64.out; omega
          case c5 => exact hsz3.out
          rw [Hm.out, ← i64sC_app, HU.out] at hown4
          rw [Hm.out]
          obtain ⟨q, hq⟩ : ∃ q, p + m = q := ⟨_, rfl⟩
          have hqs : q ≤ 1344 := by have := H64.out; omega
          have hqU : (allR T L).length = q := by rw [← HU.out, List.length_append, Hp.out, Hm.out]; exact hq
          rw [hq] at hown4 ⊢
          clear hq
          have hb24 : Below w2.heap.size w2 w4 := hb23.trans hbel4
          have HSo := Lib.hid (sortI_any (allR T L) hqU (by omega) w4 hown4)
          have HqU := Lib.hid hqU
          have Hown4 := Lib.hid hown4
          clear hqU hown4 hgrow4 hbel4
          go_wp2_with fail
          refine HSo.out.mono ?_
          rintro e' w5 ⟨rfl, hown5, hgrow5⟩
          have hb45 := grown_below Hown4.out hgrow5 hb24.size
          have hb25 : Below w2.heap.size w2 w5 := hb24.trans hb45
          have hx5 := hx2.next hb25
          obtain ⟨U, hU⟩ : ∃ U, sortI (allR T L) = U := ⟨_, rfl⟩
          have hUn : U.length = q := by rw [← hU, sortI_len]; exact HqU.out
          have hUs : U.Pairwise (· ≤ ·) := by rw [← hU]; exact sortI_le _
          rw [hU] at hown5
          have hX5 : Has w5 w5.heap.size A4 (i64s U) := Has.of_own hown5
          have HS := Lib.hid (binsR_any K A c T B e L vs N S hLe hem hl20 (fun x y hxy => hF.out.mono hxy) w.heap.size r A4 q c4 U hUn (by omega) hUs w5 hx5 hX5)
          have Hown5 := Lib.hid hown5
          have HUU := Lib.hid hU
          have HUn := Lib.hid hUn
          clear hU hUn hUs hown5 HSo
          go_wp2_with fail
          refine HS.out.mono ?_
          rintro e' w6 ⟨v, rfl, ⟨i, ⟨b, rfl⟩, hi1, hi2, hi3⟩, hb6⟩
          obtain ⟨f1, f2, f3⟩ := rank_found hF.out (show 1 ≤ r by omega) (show r ≤ N by omega) HUU.out.symm hi2 (by rw [HUn.out]; exact hi1) (fun q' h1 h2 => hi3 q' h1 (by rw [← HUn.out]; exact h2))
          obtain ⟨ad, rfl, had, c0⟩ := (hX5.next hb6).at (i64s_at f1)
          rw [HUn.out] at f1
          obtain ⟨y, hy⟩ : ∃ y, at_ U i = y := ⟨_, rfl⟩
          rw [hy] at c0 f2 f3
          have HR := Lib.hid (show QueryR K T L N S r y 0 from .inl ⟨rfl, HC.out, by omega, by omega, f2, f3⟩)
          clear hi2 hi3 hy f2 f3 HS
          go_wp2_with fail
          go_ret2
          exact RV.mk ⟨⟨y, 0, rfl, HR.out⟩, hb12.trans ((hb25.mono hb12.size).trans (hb6.mono (Nat.le_trans hb12.size hb25.size)))⟩
  · go_wp2_with fail
    go_ret2
    exact RV.mk ⟨⟨0, 4, rfl, .inr ⟨by decide, by decide, by decide, rfl, fun g => by have := HC.out; omega⟩⟩, hb12⟩
end Go.Proofs.Ytacmlepjhhmbmaa
