/- What set, And, Or and Not of package index make. Conditions: rows lie in their cells and are not larger than memory. -/
import Derived.Test.YtmfndpkhcejffaaIxLaw
import Derived.Test.YtmfndpkhcejffaaCloneN
import Derived.Test.YtmfndpkhcejffaaSortN
import Derived.Test.YtmfndpkhcejffaaCmpN
import Derived.Test.YtmfndpkhcejffaaConcN
import Derived.Test.YtmfndpkhcejffaaBinN
import Derived.Test.YtmfndpkhcejffaaEqN
import Derived.Test.YtmfndpkhcejffaaCopyK
import Derived.Deep.QuietTactic
namespace Go.Proofs.Ytmfndpkhcejffaa
open Go.RowKit

theorem one_allocN (w : World) (o : Obj) : Below w.heap.size w (w.alloc o) := (Below.refl _ _).alloc (Nat.le_refl _) _
/-- a row of int in its cells -/
def RowN (w : World) (A : Option Addr) (n c : Nat) (l : List Int) : Prop := l.length = n ∧ n ≤ c ∧ c ≤ maxLen ∧ (A = none → c = 0) ∧ Has w w.heap.size A (i64s l)
theorem RowN.next {w w' : World} {A : Option Addr} {n c : Nat} {l : List Int} (h : RowN w A n c l) (hb : Below w.heap.size w w') : RowN w' A n c l := ⟨h.1, h.2.1, h.2.2.1, h.2.2.2.1, h.2.2.2.2.next hb⟩
theorem RowN.nil (w : World) : RowN w none 0 0 [] := ⟨rfl, Nat.le_refl _, Nat.zero_le _, fun _ => rfl, Has.nil _ _ _⟩
theorem RowN.own {w : World} {base n c : Nat} {A : Option Addr} {l : List Int} (h : w.ownsRow base 3 1 (.slice A n c) n (i64s l)) : RowN w A n c l := by
  obtain ⟨A', c', e1, h2, h3, h4, h5⟩ := own_form h
  injection e1 with e1 _ e3
  subst e1 e3
  exact ⟨by have := h.1; rw [i64s_len, Nat.mul_one] at this; exact this, h2, h3, h5, Has.of_own h⟩
theorem RowN.none {w : World} {A : Option Addr} {n c : Nat} {l : List Int} (h : RowN w A n c l) : A = none → n = 0 ∧ c = 0 := fun e => by
  have h1 := h.2.2.2.1 e
  have h2 := h.2.1
  omega
def SetP (l : List Int) (w : World) (v : Value) (w' : World) : Prop := ∃ A n c, v = .slice A n c ∧ RowN w' A n c l ∧ Below w.heap.size w w'
/-- a row of int that the call has made -/
def SetO (l : List Int) (w : World) (v : Value) (w' : World) : Prop := ∃ A n c, v = .slice A n c ∧ w'.ownsRow w.heap.size 3 1 (.slice A n c) n (i64s l) ∧ Below w.heap.size w w'
theorem SetO.set {l : List Int} {w w' : World} {v : Value} (h : SetO l w v w') : SetP l w v w' := by
  obtain ⟨A, n, c, h1, h2, h3⟩ := h
  exact ⟨A, n, c, h1, RowN.own h2, h3⟩
theorem i64s_oneN (l : List Int) : ∀ u ∈ i64s l, u.oneCell' = true := by
  intro u hu
  simp only [i64s, List.mem_map] at hu
  obtain ⟨b, _, rfl⟩ := hu
  rfl
set_option maxRecDepth 1000000 in
set_option maxHeartbeats 2000000 in
theorem set_any (A : Option Addr) (n c : Nat) (l : List Int) (hn : n ≤ 35184372088832) (w : World) (h : RowN w A n c l) :
    Calls Try.prog 28 #[.slice A n c] w (RV (SetP (setI l) w)) := by
  have hl := h.1
  have H1 := Lib.hid (cloneN_any A n c (i64s l) (by rw [i64s_len, hl, Nat.mul_one]) (i64s_oneN l) h.none (by omega) w h.2.2.2.2)
  have H2 := Lib.hid (fun (base c : Nat) (A : Option Addr) (w : World) (h : w.ownsRow base 3 1 (.slice A n c) n (i64s l)) => sortN_any l hl (by omega) w h)
  have H3 := Lib.hid (fun (base c : Nat) (A : Option Addr) (w : World) (h : w.ownsRow base 3 1 (.slice A n c) n (i64s (sortI l))) => compactN_any (sortI l) (by rw [sortI_len]; exact hl) (by omega) w h)
  have he : Lib.compact (sortI l) = setI l := rfl
  unfold CmpNP at H3
  rw [he] at H3
  obtain ⟨r, hr⟩ : ∃ r, setI l = r := ⟨_, rfl⟩
  rw [hr] at H3 ⊢
  clear h hl he hr
  go_enter Try.func28, Try.ntmps28
  go_wp2_with fail
  refine H1.out.mono ?_
  rintro e w1 ⟨v, rfl, A1, c1, rfl, ho1, hb1⟩
  have hob1 := fun k hk => (own_blockM ho1 k hk).1
  have hs1 := hb1.size
  go_wp2_with fail
  refine (H2.out _ _ _ _ ho1).mono ?_
  rintro e w2 ⟨rfl, ho2, hg2⟩
  have hb2 := hb1.grown hg2 hs1 hob1
  have hob2 := fun k hk => (own_blockM ho2 k hk).1
  have hs2 := hb2.size
  go_wp2_with fail
  refine (H3.out _ _ _ _ ho2).mono ?_
  rintro e w3 ⟨v, rfl, rfl, ho3, hg3⟩
  have hb3 := hb2.grown hg3 hs2 hob2
  have hfin := Lib.hid (show SetP r w (.slice A1 r.length c1) w3 from ⟨_, _, _, rfl, RowN.own ho3, hb3⟩)
  clear ho3 hg3 hb3 ho1 ho2
  go_wp2_with fail
  go_ret
  exact RV.mk hfin.out

def sLenN : Value → Nat
  | .slice _ n _ => n
  | _ => 0
theorem i64s_cons (x : Int) (l : List Int) : i64s (x :: l) = .int .i64 x :: i64s l := rfl
theorem Has.headN {w : World} {B : Nat} {A : Option Addr} {x : Int} {l : List Int} (h : Has w B A (i64s (x :: l))) : ∃ ad : Addr, A = some ad ∧ ad.block < B ∧ w.cell? ad = some (.int .i64 x) := by
  obtain ⟨ad, rfl, h1, c1⟩ := h.at (k := 0) (u := .int .i64 x) rfl
  exact ⟨ad, rfl, h1, by simpa [Addr.add] using c1⟩
theorem Has.tailN {w : World} {B d : Nat} {ad : Addr} {x : Int} {l : List Int} (h : Has w B (some ad) (i64s (x :: l))) (hd : l.length + 1 ≤ d) :
    Has w B (if d = 1 then some ad else some ⟨ad.block, ad.off + 1, none⟩) (i64s l) := by
  have h1 := h.cut (k := 1) (n := l.length + 1) (size := 1) (cap := d) (by rw [i64s_len]; simp) hd
  have e : (i64s (x :: l)).drop (1 * 1) = i64s l := rfl
  rw [e] at h1
  have e2 : (if d = 1 then some ad else Option.map (fun x => x.add (1 * 1)) (some ad)) = (if d = 1 then some ad else some ⟨ad.block, ad.off + 1, none⟩) := by
    split
    · rfl
    · simp [Addr.add]
  rw [e2] at h1
  exact h1
theorem slice_eqN {A : Option Addr} {n m c : Nat} (h : n = m) : Value.slice A n c = .slice A m c := by rw [h]
theorem i64s_app1 (l : List Int) (x : Int) : i64s (l ++ [x]) = i64s l ++ (#[Value.int .i64 x] : Array Value).toList := by simp [i64s, i64v]

set_option maxRecDepth 1000000 in
set_option maxHeartbeats 8000000 in
theorem andO_any (A : Option Addr) (n c : Nat) (a : List Int) (B : Option Addr) (m d : Nat) (b : List Int) (hn : n ≤ 17592186044415) (hm : m ≤ 35184372088832) (w : World) (hA : RowN w A n c a) (hB : RowN w B m d b) :
    Calls Try.prog 12 #[.slice A n c, .slice B m d] w (RV (SetO (andI a b) w)) := by
  have H1 := Lib.hid (fun (w : World) (h : RowN w A n c a) => set_any A n c a (by omega) w h)
  have H2 := Lib.hid (fun (w : World) (h : RowN w B m d b) => set_any B m d b hm w h)
  have hlX := setI_len a
  have hla := hA.1
  obtain ⟨X, hX⟩ : ∃ X, setI a = X := ⟨_, rfl⟩
  obtain ⟨Y, hY⟩ : ∃ Y, setI b = Y := ⟨_, rfl⟩
  have hr : andI a b = interI X Y := by unfold andI; rw [hX, hY]
  have hup : UpI X ∧ UpI Y := by rw [← hX, ← hY]; exact ⟨setI_up a, setI_up b⟩
  rw [hX] at H1 hlX
  rw [hY] at H2
  rw [hr]
  rw [hla] at hlX
  obtain ⟨R, hR⟩ : ∃ R, interI X Y = R := ⟨_, rfl⟩
  rw [hR]
  have HR := Lib.hid hR
  have Hup := Lib.hid hup
  clear hX hY hr hR hup hla
  go_enter Try.func12, Try.ntmps12
  go_wp2_with fail
  refine (H1.out _ hA).mono ?_
  rintro e w1 ⟨v, rfl, A1, n1, c1, rfl, hX1, hb1⟩
  go_wp2_with fail
  refine (H2.out _ (hB.next hb1)).mono ?_
  rintro e w2 ⟨v, rfl, A2, n2, c2, rfl, hY2, hb2⟩
  have hX2 := hX1.next hb2
  have hbw2 := bnext hb1 hb2
  obtain ⟨ex, x2, x3, x4, x5⟩ := hX2
  obtain ⟨ey, y2, y3, y4, y5⟩ := hY2
  subst ex ey
  clear hX1 hb1 hb2 hA hB H1 H2
  go_wp2_with fail
  go_loopw [0, 1, 5] (fun x y o wr => ∃ (a' b' o' : List Int) (A' B' O : Option Addr) (c' d' e : Nat), x = .slice A' a'.length c' ∧ y = .slice B' b'.length d' ∧ o = .slice O o'.length e ∧ a'.length ≤ c' ∧ c' ≤ maxLen ∧ b'.length ≤ d' ∧ d' ≤ maxLen ∧ Hid (R = o' ++ interI a' b') ∧ Hid (UpI a' ∧ UpI b') ∧ o'.length + a'.length ≤ n ∧
    Has wr w2.heap.size A' (i64s a') ∧ Has wr w2.heap.size B' (i64s b') ∧ wr.ownsRow w2.heap.size 3 1 (.slice O o'.length e) o'.length (i64s o') ∧ Below w2.heap.size w2 wr) (fun x y _ _ => sLenN x + sLenN y)
  case atStart => exact ⟨X, Y, [], A1, A2, none, c1, c2, 0, rfl, rfl, rfl, x2, x3, y2, y3, Lib.hid HR.out.symm, Hup, by simpa using hlX, x5, y5, ⟨rfl, .inl ⟨rfl, rfl⟩⟩, Below.refl _ _⟩
  case round =>
    clear x5 y5 x4 y4
    obtain ⟨a', b', o', A', B', O, c', d', e, rfl, rfl, rfl, q1, q2, q3, q4, hm', hup', hsum, hA', hB', hown, hbel⟩ := hrel
    have hbs := hbel.size
    rcases a' with _ | ⟨x, a1⟩
    · have hfin := Lib.hid (show SetO R w (.slice O o'.length e) wr from ⟨_, _, _, rfl, by rw [hm'.out, interI_nil_left, List.append_nil]; exact own_less hown hbw2.size, bnext hbw2 hbel⟩)
      clear hown hm' hup'
      go_wp2_with fail
      go_ret
      exact RV.mk hfin.out
    · rcases b' with _ | ⟨y, b1⟩
      · have hfin := Lib.hid (show SetO R w (.slice O o'.length e) wr from ⟨_, _, _, rfl, by rw [hm'.out, interI_nil_right, List.append_nil]; exact own_less hown hbw2.size, bnext hbw2 hbel⟩)
        clear hown hm' hup'
        go_wp2_with fail
        go_ret
        exact RV.mk hfin.out
      · obtain ⟨ad, rfl, had, k1⟩ := hA'.headN
        obtain ⟨bd, rfl, hbd, k2⟩ := hB'.headN
        have hTA := Lib.hid (hA'.tailN q1)
        have hTB := Lib.hid (hB'.tailN q3)
        have p1 : (1 : Int) ≤ (a1.length : Int) + 1 := by omega
        have p2 : (a1.length : Int) + 1 ≤ (c' : Int) := by simp at q1; omega
        have p3 : (1 : Int) ≤ (b1.length : Int) + 1 := by omega
        have p4 : (b1.length : Int) + 1 ≤ (d' : Int) := by simp at q3; omega
        have q1' : a1.length + 1 ≤ c' := q1
        have q3' : b1.length + 1 ≤ d' := q3
        rcases Int.lt_trichotomy x y with hlt | heq | hgt
        · have f1 : decide (x < y) = true := decide_eq_true hlt
          have hst := Lib.hid (show R = o' ++ interI a1 (y :: b1) by rw [hm'.out, interI_lt hup'.out.2 hlt])
          have hu := Lib.hid (show UpI a1 ∧ UpI (y :: b1) from ⟨hup'.out.1.tail, hup'.out.2⟩)
          clear hlt
          go_wp2_with fail
          go_quiet (fail)
          go_wp2_with fail
          go_roundw
          case rel => exact ⟨a1, y :: b1, o', _, _, O, _, _, e, rfl, rfl, rfl, by omega, by omega, q3, q4, hst, hu, by simp at hsum; omega, by exact hTA.out, by exact hB', by exact hown, by exact below_drewN hbel _⟩
          case measure => first | (simp [sLenN]; done) | (simp [sLenN]; omega)
        · subst heq
          have f1 : decide (x < x) = false := decide_eq_false (by omega)
          have hst := Lib.hid (show R = (o' ++ [x]) ++ interI a1 b1 by rw [hm'.out, interI_eq hup'.out.1]; simp)
          have hu := Lib.hid (show UpI a1 ∧ UpI b1 from ⟨hup'.out.1.tail, hup'.out.2.tail⟩)
          have h8 : (o'.length + 1) * 8 ≤ 140737488355328 := by simp at hsum; omega
          have h63 : o'.length + 1 ≤ maxLen := by unfold maxLen; omega
          go_wp2_with fail
          go_quiet (fail)
          go_wp2_with fail
          go_quiet (fail)
          go_wp2_with (at_builtin; refine wpList_append1 rfl _ _ _ rfl elN rfl (by exact own_drewN hown _) rfl (by first | rfl | simp) rfl ?_ ?k1 ?k2 ?k3 ?k4; intro A5 e5 w5 hown5 hgrow5 hb5)
          case k1 => first | rfl | exact ⟨rfl⟩ | (intro u hu; simp at hu; subst hu; rfl)
          case k2 => exact h8
          case k3 => exact h63
          case k4 => exact hbs
          have hb05 : Below w2.heap.size w2 w5 := (below_drewN hbel _).trans hb5
          have hO5 := Lib.hid (show w5.ownsRow w2.heap.size 3 1 (.slice A5 (o' ++ [x]).length e5) (o' ++ [x]).length (i64s (o' ++ [x])) by rw [i64s_app1, List.length_append]; exact hown5)
          have hb15 := hb5
          clear hown5 hgrow5 hb5 hown
          go_quiet (fail)
          go_wp2_with fail
          go_roundw
          case rel => exact ⟨a1, b1, o' ++ [x], _, _, A5, _, _, e5, rfl, rfl, slice_eqN (by simp), by omega, by omega, by omega, by omega, hst, hu, by simp at hsum ⊢; omega, by exact hTA.out.below (below_drewN ((below_drewN (Below.refl _ _) _).trans hb15) _), by exact hTB.out.below (below_drewN ((below_drewN (Below.refl _ _) _).trans hb15) _), by exact hO5.out, by exact below_drewN hb05 _⟩
          case measure => first | (simp [sLenN]; done) | (simp [sLenN]; omega)
        · have f1 : decide (x < y) = false := decide_eq_false (by omega)
          have f2 : decide (y < x) = true := decide_eq_true hgt
          have hst := Lib.hid (show R = o' ++ interI (x :: a1) b1 by rw [hm'.out, interI_gt hup'.out.1 hgt])
          have hu := Lib.hid (show UpI (x :: a1) ∧ UpI b1 from ⟨hup'.out.1, hup'.out.2.tail⟩)
          clear hgt
          go_wp2_with fail
          go_quiet (fail)
          go_wp2_with fail
          go_quiet (fail)
          go_wp2_with fail
          go_roundw
          case rel => exact ⟨x :: a1, b1, o', _, _, O, _, _, e, rfl, rfl, rfl, q1, q2, by omega, by omega, hst, hu, hsum, by exact hA', by exact hTB.out, by exact hown, by exact below_drewN hbel _⟩
          case measure => first | (simp [sLenN]; done) | (simp [sLenN]; omega)
theorem and_any (A : Option Addr) (n c : Nat) (a : List Int) (B : Option Addr) (m d : Nat) (b : List Int) (hn : n ≤ 17592186044415) (hm : m ≤ 35184372088832) (w : World) (hA : RowN w A n c a) (hB : RowN w B m d b) :
    Calls Try.prog 12 #[.slice A n c, .slice B m d] w (RV (SetP (andI a b) w)) :=
  (andO_any A n c a B m d b hn hm w hA hB).mono fun _ _ ⟨v, he, h⟩ => ⟨v, he, h.set⟩
set_option maxRecDepth 1000000 in
set_option maxHeartbeats 2000000 in
theorem or_any (A : Option Addr) (n c : Nat) (a : List Int) (B : Option Addr) (m d : Nat) (b : List Int) (hn : n ≤ 17592186044415) (hm : m ≤ 17592186044415) (w : World) (hA : RowN w A n c a) (hB : RowN w B m d b) :
    Calls Try.prog 18 #[.slice A n c, .slice B m d] w (RV (SetP (orI a b) w)) := by
  have HC := Lib.hid (fun (w : World) (hA : RowN w A n c a) (hB : RowN w B m d b) (ad : Addr) (hbl : ad.block < w.heap.size) (v0 : w.cell? ad = some (.slice A n c)) (v1 : w.cell? (ad.add 1) = some (.slice B m d)) => concatN_any A n c a B m d b hA.1 hB.1 hn hm hA.2.2.2.1 hA.2.1 hB.2.2.2.1 hB.2.1 w hA.2.2.2.2 hB.2.2.2.2 ad hbl v0 v1)
  have H2 := Lib.hid (fun (A : Option Addr) (c : Nat) (w : World) (h : RowN w A (n + m) c (a ++ b)) => set_any A (n + m) c (a ++ b) (by omega) w h)
  have he : setI (a ++ b) = orI a b := rfl
  rw [he] at H2
  obtain ⟨R, hR⟩ : ∃ R, orI a b = R := ⟨_, rfl⟩
  rw [hR] at H2 ⊢
  have kb := Blk.new w 31 #[Value.slice A n c, .slice B m d]
  have hb1 := one_allocN w (.cells #[Value.slice A n c, .slice B m d] 31)
  clear he hR
  go_enter Try.func18, Try.ntmps18
  go_wp2_with fail
  refine (HC.out _ (by exact hA.next hb1) (by exact hB.next hb1) ⟨w.heap.size, 0, none⟩ (by exact kb.lt) (by exact kb.cell 0) (by exact kb.cell 1)).mono ?_
  rintro e w2 ⟨v, rfl, O, e2, rfl, ho2, hb2⟩
  have hr2 := RowN.own ho2
  have hbw2 := bnext hb1 hb2
  clear ho2
  go_wp2_with fail
  refine (H2.out _ _ _ hr2).mono ?_
  rintro e w3 ⟨v, rfl, A3, n3, c3, rfl, hr3, hb3⟩
  have hfin := Lib.hid (show SetP R w (.slice A3 n3 c3) w3 from ⟨_, _, _, rfl, hr3, bnext hbw2 hb3⟩)
  clear hr3 hr2
  go_wp2_with fail
  go_ret
  exact RV.mk hfin.out
def NotO (r : List Int × Int) (w : World) (v : Value) (w' : World) : Prop := ∃ A n c, v = .tuple #[.slice A n c, .int .i64 r.2] ∧ w'.ownsRow w.heap.size 3 1 (.slice A n c) n (i64s r.1) ∧ Below w.heap.size w w'
def NotP (r : List Int × Int) (w : World) (v : Value) (w' : World) : Prop := ∃ A n c, v = .tuple #[.slice A n c, .int .i64 r.2] ∧ RowN w' A n c r.1 ∧ Below w.heap.size w w'
set_option maxRecDepth 1000000 in
set_option maxHeartbeats 4000000 in
theorem notO_any (N : Int) (A : Option Addr) (n c : Nat) (a : List Int) (hn : n ≤ 35184372088832) (w : World) (hA : RowN w A n c a) :
    Calls Try.prog 13 #[.int .i64 N, .slice A n c] w (RV (NotO (notI N a) w)) := by
  by_cases hN : N < 0 ∨ 1000 < N
  · have e := Lib.hid (show notI N a = ([], 1) by unfold notI; rw [if_pos hN])
    rw [e.out]
    rcases (show N < 0 ∨ (¬ N < 0 ∧ 1000 < N) by omega) with h1 | ⟨h1, h2⟩
    all_goals
      clear hN
      go_enter Try.func13, Try.ntmps13
      go_wp2_with fail
      go_ret2
      exact RV.mk ⟨none, 0, 0, rfl, World.ownsRow_nil _ _ _ _, Below.refl _ _⟩
  · obtain ⟨k, rfl⟩ := Int.eq_ofNat_of_zero_le (show 0 ≤ N by omega)
    have e := Lib.hid (show notI (k : Int) a = (noneI k (setI a), 0) by unfold notI; rw [if_neg hN, Int.toNat_natCast])
    rw [e.out]
    have h1 : ¬ (k : Int) < 0 := by omega
    have h2 : ¬ 1000 < (k : Int) := by omega
    have hk : k ≤ 1000 := by omega
    have H1 := Lib.hid (set_any A n c a hn w hA)
    have hlX := setI_len a
    rw [hA.1] at hlX
    have hup := Lib.hid (setI_up a)
    obtain ⟨X, hX⟩ : ∃ X, setI a = X := ⟨_, rfl⟩
    rw [hX] at H1 hlX hup ⊢
    clear hN hX hA
    go_enter Try.func13, Try.ntmps13
    go_wp2_with fail
    refine H1.out.mono ?_
    rintro e w1 ⟨v, rfl, A1, n1, c1, rfl, hX1, hb1⟩
    obtain ⟨ex, x2, x3, x4, x5⟩ := hX1
    have hn1 : n1 ≤ 4000000000000000000 := by omega
    have Hex := Lib.hid ex
    clear ex
    go_wp2_with fail
    go_loopw [6, 19] (fun o i wr => ∃ (j q : Nat) (O : Option Addr) (e : Nat), j ≤ k ∧ i = .int .i64 (j : Nat) ∧ o = .slice O q e ∧ q ≤ j ∧ Hid ((noneI j X).length = q) ∧ wr.ownsRow w1.heap.size 3 1 (.slice O q e) q (i64s (noneI j X)) ∧ Below w1.heap.size w1 wr) (fun _ i _ => k - (intOf i).toNat)
    case atStart => exact ⟨0, 0, none, 0, by omega, rfl, rfl, by omega, Lib.hid rfl, ⟨rfl, .inl ⟨rfl, rfl⟩⟩, Below.refl _ _⟩
    case round =>
      obtain ⟨j, q, O, e9, hj, rfl, rfl, hqj, hq, hown, hbr⟩ := hrel
      have hbs := hbr.size
      by_cases hlt : (j : Int) < (k : Int)
      · have hst := noneI_succ j X
        have HB := Lib.hid (binsN_any A1 n1 c1 X Hex.out hn1 hup.out (j : Int) wr (x5.next hbr))
        by_cases hm : (j : Int) ∈ X
        · rw [if_pos hm, List.append_nil] at hst
          have Hst := Lib.hid hst
          have Hd := Lib.hid (decide_eq_true hm)
          clear hm hst
          go_wp2_with fail
          refine HB.out.mono ?_
          rintro e1 w2 ⟨v, rfl, ⟨i, rfl, hp⟩, hw2⟩
          rw [hw2, Hd.out]
          clear hp
          go_wp2_with fail
          go_roundw
          case rel => exact ⟨j + 1, q, O, e9, by omega, by go_num, rfl, by omega, by rw [Hst.out]; exact hq, by rw [Hst.out]; exact hown, hbr⟩
          case measure => simp [intOf]; omega
        · rw [if_neg hm] at hst
          have Hst := Lib.hid hst
          have Hd := Lib.hid (decide_eq_false hm)
          clear hm hst
          go_wp2_with fail
          refine HB.out.mono ?_
          rintro e1 w2 ⟨v, rfl, ⟨i, rfl, hp⟩, hw2⟩
          rw [hw2, Hd.out]
          clear hp
          go_wp2_with (at_builtin; refine wpList_append1 rfl _ _ _ rfl elN rfl hown rfl (by first | rfl | simp) rfl ?_ ?k1 ?k2 ?k3 ?k4; intro A5 e5 w5 hown5 hgrow5 hb5)
          case k1 => first | rfl | exact ⟨rfl⟩ | (intro u hu; simp at hu; subst hu; rfl)
          case k2 => omega
          case k3 => unfold maxLen; omega
          case k4 => exact hbs
          have hb05 := hbr.trans hb5
          go_roundw
          case rel => exact ⟨j + 1, q + 1, A5, e5, by omega, by go_num, rfl, by omega, Lib.hid (by rw [Hst.out, List.length_append, hq.out]; rfl), by rw [Hst.out, i64s_app1]; exact hown5, hb05⟩
          case measure => simp [intOf]; omega
      · have hjk : j = k := by omega
        subst hjk
        have hfin := Lib.hid (show NotO (noneI j X, 0) w (.tuple #[.slice O q e9, .int .i64 0]) wr from ⟨_, _, _, rfl, own_less hown hb1.size, bnext hb1 hbr⟩)
        clear hown hq
        go_wp2_with fail
        go_ret2
        exact RV.mk hfin.out
theorem not_any (N : Int) (A : Option Addr) (n c : Nat) (a : List Int) (hn : n ≤ 35184372088832) (w : World) (hA : RowN w A n c a) :
    Calls Try.prog 13 #[.int .i64 N, .slice A n c] w (RV (NotP (notI N a) w)) :=
  (notO_any N A n c a hn w hA).mono fun _ _ ⟨v, he, A', n', c', h1, h2, h3⟩ => ⟨v, he, A', n', c', h1, RowN.own h2, h3⟩
set_option maxRecDepth 1000000 in
set_option maxHeartbeats 1000000 in
theorem indexes_true (w : World) : Calls Try.prog 6 #[] w (R1 (.bool true) (Below w.heap.size w)) := by
  have hs1 : (w.alloc (.cells #[.int .i64 1] 3)).heap.size = w.heap.size + 1 := World.size_alloc _ _
  have ka := (Blk.new w 3 #[Value.int .i64 1]).alloc (.cells #[.int .i64 2] 3)
  have kb := Blk.new (w.alloc (.cells #[.int .i64 1] 3)) 3 #[Value.int .i64 2]
  rw [hs1] at kb
  have hb2 := bnext (one_allocN w (.cells #[.int .i64 1] 3)) (one_allocN (w.alloc (.cells #[.int .i64 1] 3)) (.cells #[.int .i64 2] 3))
  have rowOne : ∀ (W : World) (g : Nat) (x : Int), Blk W g 3 #[Value.int .i64 x] → RowN W (some ⟨g, 0, none⟩) 1 1 [x] := fun W g x hk => ⟨rfl, Nat.le_refl _, by unfold maxLen; omega, (fun e => by cases e), fun _ => ⟨_, rfl, hk.lt, fun j u hu => by
    cases j with
    | zero => injection hu with hu; subst hu; exact hk.cell 0
    | succ j => simp [i64s] at hu⟩⟩
  have H := Lib.hid (or_any (some ⟨w.heap.size, 0, none⟩) 1 1 [1] (some ⟨w.heap.size + 1, 0, none⟩) 1 1 [2] (by omega) (by omega) _ (rowOne _ _ _ ka) (rowOne _ _ _ kb))
  have hr : orI [1] [2] = [1, 2] := up_ext (orI_up _ _) (by unfold UpI; simp) (fun x => by rw [orI_mem]; simp)
  rw [hr] at H
  clear ka kb rowOne hs1 hr
  go_enter Try.func6, Try.ntmps6
  go_wp2_with fail
  refine H.out.mono ?_
  rintro e w3 ⟨v, rfl, A3, n3, c3, rfl, hr3, hb3⟩
  have hn3 : n3 = 2 := hr3.1.symm
  subst hn3
  clear hr3
  go_wp2_with fail
  go_ret
  exact R1.mk (by simp) (bnext hb2 hb3)
end Go.Proofs.Ytmfndpkhcejffaa
