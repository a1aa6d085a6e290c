/- What Join of package roll gives of windows in form. Conditions: at most a thousand windows each, in form, all together of at most a milliard of samples. -/
import Derived.Test.YtkcfhfplppdnnaaRollCheck
import Derived.Test.YtkcfhfplppdnnaaMerge
import Derived.Deep.RegionLaw
import Derived.Deep.DrawnRows
namespace Go.Proofs.Ytkcfhfplppdnnaa
open Go.RowKit

theorem winCs_app1 (l : List Win) (x : Win) : winCs (l ++ [x]) = winCs l ++ (#[.int .i64 x.t, .int .i64 x.n, .int .i64 x.s, .int .i64 x.lo, .int .i64 x.hi, .int .i64 x.f, .int .i64 x.l] : Array Value).toList := by simp [winCs, winC]
theorem Has.tailW {w : World} {B d : Nat} {ad : Addr} {y : Win} {l : List Win} (h : Has w B (some ad) (winCs (y :: l))) (hd : l.length + 1 ≤ d) :
    Has w B (if d = 1 then some ad else some ⟨ad.block, ad.off + 7, none⟩) (winCs l) := by
  have h1 := h.cut (k := 1) (n := l.length + 1) (size := 7) (cap := d) (by rw [winCs_len]; rfl) hd
  have e : (winCs (y :: l)).drop (1 * 7) = winCs l := rfl
  rw [e] at h1
  have e2 : (if d = 1 then some ad else Option.map (fun x => x.add (1 * 7)) (some ad)) = (if d = 1 then some ad else some ⟨ad.block, ad.off + 7, none⟩) := by
    split
    · rfl
    · simp [Addr.add]
  rw [← e2]
  exact h1
theorem Has.headW {w : World} {B : Nat} {A : Option Addr} {y : Win} {l : List Win} (h : Has w B A (winCs (y :: l))) :
    ∃ ad : Addr, A = some ad ∧ ad.block < B ∧ WinAt w ad y := by
  obtain ⟨ad, rfl, h1, h2⟩ := h.win (show 0 < (y :: l).length by simp)
  refine ⟨ad, rfl, h1, ?_⟩
  have e : ad.add (0 * 7) = ad := by simp [Addr.add]
  rw [e] at h2
  exact h2
theorem below_drew {B : Nat} {a w : World} (h : Below B a w) : Below B a w.drew := below_drewN h 1
theorem keep14 {w W : World} {B : Nat} {ad bd : Addr} {x y : Win} (h : Below B w W) (h1 : ad.block < B) (h2 : bd.block < B) (c0 : w.cell? ad = some (.int .i64 x.t)) (c1 : w.cell? ⟨ad.block, ad.off + 1, none⟩ = some (.int .i64 x.n)) (c2 : w.cell? ⟨ad.block, ad.off + 2, none⟩ = some (.int .i64 x.s)) (c3 : w.cell? ⟨ad.block, ad.off + 3, none⟩ = some (.int .i64 x.lo)) (c4 : w.cell? ⟨ad.block, ad.off + 4, none⟩ = some (.int .i64 x.hi)) (c5 : w.cell? ⟨ad.block, ad.off + 5, none⟩ = some (.int .i64 x.f)) (c6 : w.cell? ⟨ad.block, ad.off + 6, none⟩ = some (.int .i64 x.l)) (d0 : w.cell? bd = some (.int .i64 y.t)) (d1 : w.cell? ⟨bd.block, bd.off + 1, none⟩ = some (.int .i64 y.n)) (d2 : w.cell? ⟨bd.block, bd.off + 2, none⟩ = some (.int .i64 y.s)) (d3 : w.cell? ⟨bd.block, bd.off + 3, none⟩ = some (.int .i64 y.lo)) (d4 : w.cell? ⟨bd.block, bd.off + 4, none⟩ = some (.int .i64 y.hi)) (d5 : w.cell? ⟨bd.block, bd.off + 5, none⟩ = some (.int .i64 y.f)) (d6 : w.cell? ⟨bd.block, bd.off + 6, none⟩ = some (.int .i64 y.l)) :
    W.cell? ad = some (.int .i64 x.t) ∧ W.cell? ⟨ad.block, ad.off + 1, none⟩ = some (.int .i64 x.n) ∧ W.cell? ⟨ad.block, ad.off + 2, none⟩ = some (.int .i64 x.s) ∧ W.cell? ⟨ad.block, ad.off + 3, none⟩ = some (.int .i64 x.lo) ∧ W.cell? ⟨ad.block, ad.off + 4, none⟩ = some (.int .i64 x.hi) ∧ W.cell? ⟨ad.block, ad.off + 5, none⟩ = some (.int .i64 x.f) ∧ W.cell? ⟨ad.block, ad.off + 6, none⟩ = some (.int .i64 x.l) ∧ W.cell? bd = some (.int .i64 y.t) ∧ W.cell? ⟨bd.block, bd.off + 1, none⟩ = some (.int .i64 y.n) ∧ W.cell? ⟨bd.block, bd.off + 2, none⟩ = some (.int .i64 y.s) ∧ W.cell? ⟨bd.block, bd.off + 3, none⟩ = some (.int .i64 y.lo) ∧ W.cell? ⟨bd.block, bd.off + 4, none⟩ = some (.int .i64 y.hi) ∧ W.cell? ⟨bd.block, bd.off + 5, none⟩ = some (.int .i64 y.f) ∧ W.cell? ⟨bd.block, bd.off + 6, none⟩ = some (.int .i64 y.l) :=
  ⟨(h.cell (p := ad) h1).trans c0, (h.cell (p := ⟨ad.block, ad.off + 1, none⟩) h1).trans c1, (h.cell (p := ⟨ad.block, ad.off + 2, none⟩) h1).trans c2, (h.cell (p := ⟨ad.block, ad.off + 3, none⟩) h1).trans c3, (h.cell (p := ⟨ad.block, ad.off + 4, none⟩) h1).trans c4, (h.cell (p := ⟨ad.block, ad.off + 5, none⟩) h1).trans c5, (h.cell (p := ⟨ad.block, ad.off + 6, none⟩) h1).trans c6, (h.cell (p := bd) h2).trans d0, (h.cell (p := ⟨bd.block, bd.off + 1, none⟩) h2).trans d1, (h.cell (p := ⟨bd.block, bd.off + 2, none⟩) h2).trans d2, (h.cell (p := ⟨bd.block, bd.off + 3, none⟩) h2).trans d3, (h.cell (p := ⟨bd.block, bd.off + 4, none⟩) h2).trans d4, (h.cell (p := ⟨bd.block, bd.off + 5, none⟩) h2).trans d5, (h.cell (p := ⟨bd.block, bd.off + 6, none⟩) h2).trans d6⟩
def okWs (l : List Win) : Prop := ∀ x ∈ l, okW x
theorem sumN_pos {l : List Win} (h : okWs l) : 0 ≤ sumN l := (lastN_le (fun x hx => by have := (h x hx).1; omega)).2
theorem okWs_tail {x : Win} {l : List Win} (h : okWs (x :: l)) : okWs l := fun y hy => h y (by simp [hy])
theorem joinUp_len (a b : List Win) : (joinUp a b).length ≤ a.length + b.length := by
  fun_induction joinUp a b <;> simp_all <;> omega
theorem stepW_one (x : Win) : ∀ u ∈ (#[.int .i64 x.t, .int .i64 x.n, .int .i64 x.s, .int .i64 x.lo, .int .i64 x.hi, .int .i64 x.f, .int .i64 x.l] : Array Value).toList, u.oneCell' = true := by
  intro u hu
  simp at hu
  rcases hu with rfl | rfl | rfl | rfl | rfl | rfl | rfl <;> rfl

set_option maxRecDepth 1000000 in
set_option maxHeartbeats 8000000 in
theorem join_any (A : Option Addr) (n c : Nat) (a : List Win) (hna : a.length = n) (hac : n ≤ c) (hc : c ≤ maxLen) (B : Option Addr) (m d : Nat) (b : List Win) (hmb : b.length = m) (hbd : m ≤ d) (hd : d ≤ maxLen)
    (la : n ≤ 1000) (lb : m ≤ 1000) (oa : okWs a) (ua : UpW a) (ob : okWs b) (ub : UpW b) (hs : sumN a + sumN b ≤ 1000000000) (hjl : (joinUp a b).length ≤ 1000) (w : World) (hA : Has w w.heap.size A (winCs a)) (hB : Has w w.heap.size B (winCs b)) :
    Calls Try.prog 40 #[.slice A n c, .slice B m d] w (RV (WinsP (joinUp a b, 0) w)) := by
  subst hna hmb
  have b0 : Below w.heap.size w (w.alloc (.cells #[.slice A a.length c, .slice B b.length d] 24)) := (Below.refl _ _).alloc (Nat.le_refl _) _
  have k0 : Blk (w.alloc (.cells #[.slice A a.length c, .slice B b.length d] 24)) w.heap.size 24 #[.slice A a.length c, .slice B b.length d] := Blk.new _ _ _
  have OA := Lib.hid oa; clear oa
  have UA := Lib.hid ua; clear ua
  have OB := Lib.hid ob; clear ob
  have UB := Lib.hid ub; clear ub
  have HS := Lib.hid hs; clear hs
  have HJ := Lib.hid hjl; clear hjl
  have K0 := Lib.hid k0; clear k0
  go_enter Try.func40, Try.ntmps40
  go_wp2_with fail
  go_loopw [15] (fun i wr => ∃ k : Nat, k ≤ 2 ∧ i = .int .i64 (k : Nat) ∧ Below (w.alloc (.cells #[.slice A a.length c, .slice B b.length d] 24)).heap.size (w.alloc (.cells #[.slice A a.length c, .slice B b.length d] 24)) wr) (fun i _ => 5 - (intOf i).toNat)
  case atStart => exact ⟨0, by omega, rfl, Below.refl _ _⟩
  case round =>
    obtain ⟨k, hk, rfl, hbr⟩ := hrel
    have hz2 : w.heap.size + 1 ≤ wr.heap.size := by have := hbr.size; simpa using this
    have kr := Blk.next K0.out hbr
    have C0 := Lib.hid (show wr.cell? ⟨w.heap.size, 0, none⟩ = some (.slice A a.length c) from kr.cell 0)
    have C1 := Lib.hid (show wr.cell? ⟨w.heap.size, 1, none⟩ = some (.slice B b.length d) from kr.cell 1)
    clear kr
    have hbw : Below w.heap.size w wr := b0.trans (hbr.mono (by simp))
    have hAr := Lib.hid (hA.next hbw)
    have hBr := Lib.hid (hB.next hbw)
    rcases (show k = 0 ∨ k = 1 ∨ k = 2 by omega) with rfl | rfl | rfl
    · have c0 := C0.out
      rw [show ((0 : Nat) : Int) = 0 from rfl]
      go_wp2_with fail
      refine (wcheck_any A _ c a rfl la OA.out UA.out _ (by exact hAr.out)).mono ?_
      rintro e w1 ⟨rfl, hb1⟩
      go_wp2_with fail
      go_roundw
      case rel => exact ⟨1, by omega, rfl, bnext hbr hb1⟩
      case measure => simp [intOf]
    · have c1 := C1.out
      rw [show ((1 : Nat) : Int) = 1 from rfl]
      go_wp2_with fail
      refine (wcheck_any B _ d b rfl lb OB.out UB.out _ (by exact hBr.out)).mono ?_
      rintro e w1 ⟨rfl, hb1⟩
      go_wp2_with fail
      go_roundw
      case rel => exact ⟨2, by omega, rfl, bnext hbr hb1⟩
      case measure => simp [intOf]
    · rw [show ((2 : Nat) : Int) = 2 from rfl]
      have hAw := Lib.hid (hA.below hbw)
      have hBw := Lib.hid (hB.below hbw)
      clear hbr
      go_wp2_with fail
      go_loopw [0, 1, 9] (fun x y o wr => ∃ (a' b' o' : List Win) (A' B' O : Option Addr) (c' d' e : Nat), x = .slice A' a'.length c' ∧ y = .slice B' b'.length d' ∧ o = .slice O o'.length e ∧ a'.length ≤ c' ∧ c' ≤ maxLen ∧ b'.length ≤ d' ∧ d' ≤ maxLen ∧ Hid (joinUp a b = o' ++ joinUp a' b') ∧ o'.length + a'.length + b'.length ≤ 2000 ∧ Hid (okWs a') ∧ Hid (okWs b') ∧ Hid (sumN a' + sumN b' ≤ 1000000000) ∧
        Has wr w.heap.size A' (winCs a') ∧ Has wr w.heap.size B' (winCs b') ∧ wr.ownsRow w.heap.size 29 7 (.slice O o'.length e) o'.length (winCs o') ∧ Below w.heap.size w wr) (fun x y _ _ => sLen x + sLen y)
      case atStart =>
        exact ⟨a, b, [], A, B, none, c, d, 0, rfl, rfl, rfl, hac, hc, hbd, hd, Lib.hid rfl, by simp; omega, OA, OB, HS, hAw.out, hBw.out, ⟨rfl, .inl ⟨rfl, rfl⟩⟩, hbw⟩
      case round =>
        obtain ⟨a', b', o', A', B', O, c', d', e, rfl, rfl, rfl, q1, q2, q3, q4, hm, hsum, oa, ob, hs, hA', hB', hown, hbel⟩ := hrel
        rcases a' with _ | ⟨x, a1⟩ <;> rcases b' with _ | ⟨y, b1⟩
        · have hM : Hid (joinUp a b = o') := Lib.hid (by rw [hm.out]; simp [joinUp])
          have h1000 : (o'.length : Int) ≤ 1000 := by have := HJ.out; rw [hM.out] at this; omega
          go_wp2_with fail
          go_ret2
          rw [hM.out]
          exact RV.mk ⟨O, e, rfl, hown, hbel⟩
        · -- b alone
          obtain ⟨bd, rfl, hb2, d0, d1, d2, d3, d4, d5, d6⟩ := hB'.headW
          have hTB := Lib.hid (hB'.tailW q3)
          have p3 : (1 : Int) ≤ (b1.length : Int) + 1 := by omega
          have p4 : (b1.length : Int) + 1 ≤ (d' : Int) := by simp at q3; omega
          have p6 : ((b1.length : Int) + 1 == 0) = false := by rw [beq_eq_false_iff_ne]; omega
          have hbs := hbel.size
          have h16 : (o'.length + 1) * 56 ≤ 140737488355328 := by omega
          have h63 : o'.length + 1 ≤ maxLen := by unfold maxLen; omega
          go_wp2_with fail
          go_quiet (fail)
          go_wp2_with fail
          go_quiet (fail)
          go_wp2_with fail
          go_region_held3 (fun w' => w'.cell? bd = some (.int .i64 y.t) ∧ w'.cell? ⟨bd.block, bd.off + 1, none⟩ = some (.int .i64 y.n) ∧ w'.cell? ⟨bd.block, bd.off + 2, none⟩ = some (.int .i64 y.s) ∧ w'.cell? ⟨bd.block, bd.off + 3, none⟩ = some (.int .i64 y.lo) ∧ w'.cell? ⟨bd.block, bd.off + 4, none⟩ = some (.int .i64 y.hi) ∧ w'.cell? ⟨bd.block, bd.off + 5, none⟩ = some (.int .i64 y.f) ∧ w'.cell? ⟨bd.block, bd.off + 6, none⟩ = some (.int .i64 y.l)) (first | exact ⟨d0, d1, d2, d3, d4, d5, d6⟩ | go_keep | (go_split_ands; refine ⟨?_, ?_, ?_, ?_, ?_, ?_, ?_⟩ <;> (rw [hbel1.cell (by first | exact hb1 | exact hb2)]; assumption)))
            ((refine step_append1 rfl _ _ _ (by rfl) elWin (by exact (own_drewN hown _).alloc _) (by rfl) (by rfl) (by exact heap_alloc_new _ _) (by rfl) (stepW_one _) h16 h63 (by simp; omega) ?_; intro A2 e2 w1 hown1 hgrow hbel1))
          have Hown1 := Lib.hid hown1; clear hown1 hgrow
          have Hbel1 := Lib.hid hbel1; clear hbel1
          go_roundw
          case rel => (repeat apply Exists.intro); refine ⟨?_, rfl⟩; exact ⟨[], b1, o' ++ [y], _, _, A2, _, _, e2, rfl, rfl, slice_eq (by simp), q1, q2, by simp at q3; omega, by omega, Lib.hid (by rw [hm.out]; simp [joinUp]), by simp at hsum ⊢; omega, oa, Lib.hid (okWs_tail ob.out), Lib.hid (by have h1 := hs.out; have h2 := (ob.out y (by simp)).1; rw [show sumN (y :: b1) = y.n + sumN b1 from rfl] at h1; omega),
            Has.below (Has.alloc (Has.drewN hA' _) (by simp; omega) _) Hbel1.out, Has.below (Has.alloc (Has.drewN hTB.out _) (by simp; omega) _) Hbel1.out, by rw [List.length_append]; rw [winCs_app1] ; exact Hown1.out, (below_drewN hbel _).trans (Below.trans (by exact ((Below.refl _ _).alloc (by simp; omega) _)) Hbel1.out)⟩
          case measure => first | (simp [sLen]; done) | (simp [sLen]; omega)
        · -- a alone
          obtain ⟨ad, rfl, hb1, c0, c1, c2, c3, c4, c5, c6⟩ := hA'.headW
          have hTA := Lib.hid (hA'.tailW q1)
          have p1 : (1 : Int) ≤ (a1.length : Int) + 1 := by omega
          have p2 : (a1.length : Int) + 1 ≤ (c' : Int) := by simp at q1; omega
          have p5 : ((a1.length : Int) + 1 == 0) = false := by rw [beq_eq_false_iff_ne]; omega
          have hbs := hbel.size
          have h16 : (o'.length + 1) * 56 ≤ 140737488355328 := by omega
          have h63 : o'.length + 1 ≤ maxLen := by unfold maxLen; omega
          go_wp2_with fail
          go_quiet (fail)
          go_wp2_with fail
          go_region_held3 (fun w' => w'.cell? ad = some (.int .i64 x.t) ∧ w'.cell? ⟨ad.block, ad.off + 1, none⟩ = some (.int .i64 x.n) ∧ w'.cell? ⟨ad.block, ad.off + 2, none⟩ = some (.int .i64 x.s) ∧ w'.cell? ⟨ad.block, ad.off + 3, none⟩ = some (.int .i64 x.lo) ∧ w'.cell? ⟨ad.block, ad.off + 4, none⟩ = some (.int .i64 x.hi) ∧ w'.cell? ⟨ad.block, ad.off + 5, none⟩ = some (.int .i64 x.f) ∧ w'.cell? ⟨ad.block, ad.off + 6, none⟩ = some (.int .i64 x.l)) (first | exact ⟨c0, c1, c2, c3, c4, c5, c6⟩ | go_keep | (go_split_ands; refine ⟨?_, ?_, ?_, ?_, ?_, ?_, ?_⟩ <;> (rw [hbel1.cell (by first | exact hb1 | exact hb2)]; assumption)))
            ((refine step_append1 rfl _ _ _ (by rfl) elWin (by exact (own_drewN hown _).alloc _) (by rfl) (by rfl) (by exact heap_alloc_new _ _) (by rfl) (stepW_one _) h16 h63 (by simp; omega) ?_; intro A2 e2 w1 hown1 hgrow hbel1))
          have Hown1 := Lib.hid hown1; clear hown1 hgrow
          have Hbel1 := Lib.hid hbel1; clear hbel1
          go_roundw
          case rel => (repeat apply Exists.intro); refine ⟨?_, rfl⟩; exact ⟨a1, [], o' ++ [x], _, _, A2, _, _, e2, rfl, rfl, slice_eq (by simp), by simp at q1; omega, by omega, q3, q4, Lib.hid (by rw [hm.out]; simp [joinUp, joinUp_nil]), by simp at hsum ⊢; omega, Lib.hid (okWs_tail oa.out), ob, Lib.hid (by have h1 := hs.out; have h2 := (oa.out x (by simp)).1; rw [show sumN (x :: a1) = x.n + sumN a1 from rfl] at h1; omega),
            Has.below (Has.alloc (Has.drewN hTA.out _) (by simp; omega) _) Hbel1.out, Has.below (Has.alloc (Has.drewN hB' _) (by simp; omega) _) Hbel1.out, by rw [List.length_append]; rw [winCs_app1] ; exact Hown1.out, (below_drewN hbel _).trans (Below.trans (by exact ((Below.refl _ _).alloc (by simp; omega) _)) Hbel1.out)⟩
          case measure => first | (simp [sLen]; done) | (simp [sLen]; omega)
        · -- both
          obtain ⟨ad, rfl, hb1, c0, c1, c2, c3, c4, c5, c6⟩ := hA'.headW
          have hTA := Lib.hid (hA'.tailW q1)
          have p1 : (1 : Int) ≤ (a1.length : Int) + 1 := by omega
          have p2 : (a1.length : Int) + 1 ≤ (c' : Int) := by simp at q1; omega
          have p5 : ((a1.length : Int) + 1 == 0) = false := by rw [beq_eq_false_iff_ne]; omega
          obtain ⟨bd, rfl, hb2, d0, d1, d2, d3, d4, d5, d6⟩ := hB'.headW
          have hTB := Lib.hid (hB'.tailW q3)
          have p3 : (1 : Int) ≤ (b1.length : Int) + 1 := by omega
          have p4 : (b1.length : Int) + 1 ≤ (d' : Int) := by simp at q3; omega
          have p6 : ((b1.length : Int) + 1 == 0) = false := by rw [beq_eq_false_iff_ne]; omega
          have hbs := hbel.size
          have h16 : (o'.length + 1) * 56 ≤ 140737488355328 := by omega
          have h63 : o'.length + 1 ≤ maxLen := by unfold maxLen; omega
          rcases Int.lt_trichotomy x.t y.t with hlt | heq | hgt
          · have f1 : decide (x.t < y.t) = true := by simpa using hlt
            go_wp2_with fail
            go_quiet (fail)
            go_wp2_with fail
            go_region_held3 (fun w' => w'.cell? ad = some (.int .i64 x.t) ∧ w'.cell? ⟨ad.block, ad.off + 1, none⟩ = some (.int .i64 x.n) ∧ w'.cell? ⟨ad.block, ad.off + 2, none⟩ = some (.int .i64 x.s) ∧ w'.cell? ⟨ad.block, ad.off + 3, none⟩ = some (.int .i64 x.lo) ∧ w'.cell? ⟨ad.block, ad.off + 4, none⟩ = some (.int .i64 x.hi) ∧ w'.cell? ⟨ad.block, ad.off + 5, none⟩ = some (.int .i64 x.f) ∧ w'.cell? ⟨ad.block, ad.off + 6, none⟩ = some (.int .i64 x.l)) (first | exact ⟨c0, c1, c2, c3, c4, c5, c6⟩ | go_keep | (go_split_ands; refine ⟨?_, ?_, ?_, ?_, ?_, ?_, ?_⟩ <;> (rw [hbel1.cell (by first | exact hb1 | exact hb2)]; assumption)))
              ((refine step_append1 rfl _ _ _ (by rfl) elWin (by exact (own_drewN hown _).alloc _) (by rfl) (by rfl) (by exact heap_alloc_new _ _) (by rfl) (stepW_one _) h16 h63 (by simp; omega) ?_; intro A2 e2 w1 hown1 hgrow hbel1))
            have Hown1 := Lib.hid hown1; clear hown1 hgrow
            have Hbel1 := Lib.hid hbel1; clear hbel1
            go_roundw
            case rel => (repeat apply Exists.intro); refine ⟨?_, rfl⟩; exact ⟨a1, y :: b1, o' ++ [x], _, _, A2, _, _, e2, rfl, rfl, slice_eq (by simp), by simp at q1; omega, by omega, q3, q4, Lib.hid (by rw [hm.out]; rw [joinUp, if_pos hlt]; simp), by simp at hsum ⊢; omega, Lib.hid (okWs_tail oa.out), ob, Lib.hid (by have h1 := hs.out; have h2 := (oa.out x (by simp)).1; rw [show sumN (x :: a1) = x.n + sumN a1 from rfl] at h1; omega),
              Has.below (Has.alloc (Has.drewN hTA.out _) (by simp; omega) _) Hbel1.out, Has.below (Has.alloc (Has.drewN hB' _) (by simp; omega) _) Hbel1.out, by rw [List.length_append]; rw [winCs_app1] ; exact Hown1.out, (below_drewN hbel _).trans (Below.trans (by exact ((Below.refl _ _).alloc (by simp; omega) _)) Hbel1.out)⟩
            case measure => first | (simp [sLen]; done) | (simp [sLen]; omega)
          · have f1 : decide (x.t < y.t) = false := by rw [decide_eq_false_iff_not]; omega
            have f2 : decide (y.t < x.t) = false := by rw [decide_eq_false_iff_not]; omega
            have HE := Lib.hid heq; clear heq
            go_wp2_with fail
            go_quiet (fail)
            go_wp2_with fail
            go_quiet (fail)
            have hxn : 0 ≤ x.n ∧ x.n ≤ 1000000000 := by have := oa.out x (by simp); exact ⟨by have := this.1; omega, this.2.1⟩
            have hyn : 0 ≤ y.n ∧ y.n ≤ 1000000000 := by have := ob.out y (by simp); exact ⟨by have := this.1; omega, this.2.1⟩
            have hxy : x.n + y.n ≤ 1000000000 := by
              have h1 := hs.out
              have h2 := sumN_pos (okWs_tail oa.out)
              have h3 := sumN_pos (okWs_tail ob.out)
              rw [show sumN (x :: a1) = x.n + sumN a1 from rfl, show sumN (y :: b1) = y.n + sumN b1 from rfl] at h1
              omega
            have Hxy := Lib.hid hxy; clear hxy
            have hb3 : ad.block < wr.heap.size := by omega
            have hb4 : bd.block < wr.heap.size := by omega
            go_wp2_with fail
            go_region_held3 (fun w' => w'.cell? ad = some (.int .i64 x.t) ∧ w'.cell? ⟨ad.block, ad.off + 1, none⟩ = some (.int .i64 x.n) ∧ w'.cell? ⟨ad.block, ad.off + 2, none⟩ = some (.int .i64 x.s) ∧ w'.cell? ⟨ad.block, ad.off + 3, none⟩ = some (.int .i64 x.lo) ∧ w'.cell? ⟨ad.block, ad.off + 4, none⟩ = some (.int .i64 x.hi) ∧ w'.cell? ⟨ad.block, ad.off + 5, none⟩ = some (.int .i64 x.f) ∧ w'.cell? ⟨ad.block, ad.off + 6, none⟩ = some (.int .i64 x.l) ∧ w'.cell? bd = some (.int .i64 y.t) ∧ w'.cell? ⟨bd.block, bd.off + 1, none⟩ = some (.int .i64 y.n) ∧ w'.cell? ⟨bd.block, bd.off + 2, none⟩ = some (.int .i64 y.s) ∧ w'.cell? ⟨bd.block, bd.off + 3, none⟩ = some (.int .i64 y.lo) ∧ w'.cell? ⟨bd.block, bd.off + 4, none⟩ = some (.int .i64 y.hi) ∧ w'.cell? ⟨bd.block, bd.off + 5, none⟩ = some (.int .i64 y.f) ∧ w'.cell? ⟨bd.block, bd.off + 6, none⟩ = some (.int .i64 y.l)) (first | (refine keep14 (B := wr.heap.size) (w := wr) ?_ hb3 hb4 c0 c1 c2 c3 c4 c5 c6 d0 d1 d2 d3 d4 d5 d6; (repeat' (first | with_reducible exact hb7' | with_reducible exact Below.refl _ _ | with_reducible refine below_drew ?_ | with_reducible refine below_drewN ?_ _ | with_reducible refine Below.setCell ?_ (by simp) _ | with_reducible refine Below.alloc ?_ (by first | exact hb7'.size | simp) _)); done) | (trace_state; fail))
              ((go_at_call 60; refine (both_any' x y hxn hyn _).mono ?_; rintro e w7 ⟨v7, rfl, z, rfl, Hz, hb7⟩; have hb7' : Below wr.heap.size wr w7 := Below.trans (by first | exact below_drewN (Below.refl _ _) _ | exact (below_drewN (Below.refl _ _) _).alloc (by simp) _) (hb7.mono (by simp)); try (have kz := Blk.next (Blk.new _ _ _) hb7; have z0 : w7.cell? ⟨wr.heap.size, 0, none⟩ = some (.int .i64 0) := kz.cell 0; have fz0 : w7.frozen? ⟨wr.heap.size, 0, none⟩ = false := kz.frozen 0; have z1 : w7.cell? ⟨wr.heap.size, 1, none⟩ = some (.int .i64 0) := kz.cell 1; have fz1 : w7.frozen? ⟨wr.heap.size, 1, none⟩ = false := kz.frozen 1; have z2 : w7.cell? ⟨wr.heap.size, 2, none⟩ = some (.int .i64 0) := kz.cell 2; have fz2 : w7.frozen? ⟨wr.heap.size, 2, none⟩ = false := kz.frozen 2; have z3 : w7.cell? ⟨wr.heap.size, 3, none⟩ = some (.int .i64 0) := kz.cell 3; have fz3 : w7.frozen? ⟨wr.heap.size, 3, none⟩ = false := kz.frozen 3; have z4 : w7.cell? ⟨wr.heap.size, 4, none⟩ = some (.int .i64 0) := kz.cell 4; have fz4 : w7.frozen? ⟨wr.heap.size, 4, none⟩ = false := kz.frozen 4; have z5 : w7.cell? ⟨wr.heap.size, 5, none⟩ = some (.int .i64 0) := kz.cell 5; have fz5 : w7.frozen? ⟨wr.heap.size, 5, none⟩ = false := kz.frozen 5; have z6 : w7.cell? ⟨wr.heap.size, 6, none⟩ = some (.int .i64 0) := kz.cell 6; have fz6 : w7.frozen? ⟨wr.heap.size, 6, none⟩ = false := kz.frozen 6)))
            · have k8 : Blk (w7.alloc (.cells #[.int .i64 z.t, .int .i64 z.n, .int .i64 z.s, .int .i64 z.lo, .int .i64 z.hi, .int .i64 z.f, .int .i64 z.l] 29)) w7.heap.size 29 #[.int .i64 z.t, .int .i64 z.n, .int .i64 z.s, .int .i64 z.lo, .int .i64 z.hi, .int .i64 z.f, .int .i64 z.l] := Blk.new _ _ _
              have b8 : Below wr.heap.size wr (w7.alloc (.cells #[.int .i64 z.t, .int .i64 z.n, .int .i64 z.s, .int .i64 z.lo, .int .i64 z.hi, .int .i64 z.f, .int .i64 z.l] 29)) := hb7'.alloc hb7'.size _
              have gb : wr.heap.size ≤ w7.heap.size := hb7'.size
              rename_i hHd; clear hHd
              generalize (w7.alloc (.cells #[.int .i64 z.t, .int .i64 z.n, .int .i64 z.s, .int .i64 z.lo, .int .i64 z.hi, .int .i64 z.f, .int .i64 z.l] 29)) = W8 at k8 b8 ⊢
              generalize w7.heap.size = g at k8 gb ⊢
              have k8 := Lib.hid k8
              have b8 := Lib.hid b8
              have hzn : z.n ≤ 1000000000 := by rw [Hz.out]; exact Hxy.out
              clear hb7'
              clear c0 c1 c2 c3 c4 c5 c6 d0 d1 d2 d3 d4 d5 d6 hb3 hb4 hxn hyn
              have hown8 := Lib.hid (own_next hown b8.out); clear hown
              have e0 := k8.out.cell 0
              have e1 := k8.out.cell 1
              have e2 := k8.out.cell 2
              have e3 := k8.out.cell 3
              have e4 := k8.out.cell 4
              have e5 := k8.out.cell 5
              have e6 := k8.out.cell 6
              simp at e0 e1 e2 e3 e4 e5 e6
              go_wp2_with (at_builtin; refine wpList_append1 rfl _ _ _ rfl elWin rfl (by exact hown8.out) (by rfl) (by simp) rfl ?_ ?k1 ?k2 ?k3 ?k4; intro A2 e2' w6 hown6 hgrow hb6)
              case k1 => first | exact ⟨rfl, rfl, rfl, rfl, rfl, rfl, rfl⟩ | exact stepW_one z | (intro u hu; simp at hu; rcases hu with rfl | rfl | rfl | rfl | rfl | rfl | rfl <;> rfl)
              case k2 => omega
              case k3 => unfold maxLen; omega
              case k4 => first | omega | (have := b8.out.size; omega)
              have hown9 := Lib.hid hown6; clear hown6 hgrow hown8
              have hb9 := Lib.hid hb6; clear hb6
              clear e0 e1 e2 e3 e4 e5 e6
              go_quiet (fail)
              go_wp2_with fail
              have hbx := (b8.out.mono hbs).trans hb9.out
              go_roundw
              case rel => exact ⟨a1, b1, o' ++ [z], _, _, A2, _, _, e2', rfl, rfl, slice_eq (by simp), by simp at q1; omega, by omega, by simp at q3; omega, by omega, Lib.hid (by rw [hm.out, joinUp, if_neg (by have := HE.out; omega), if_neg (by have := HE.out; omega), Hz.out]; simp), by simp at hsum ⊢; omega, Lib.hid (okWs_tail oa.out), Lib.hid (okWs_tail ob.out), Lib.hid (by
                  have h1 := hs.out; have h2 := (oa.out x (by simp)).1; have h3 := (ob.out y (by simp)).1
                  rw [show sumN (x :: a1) = x.n + sumN a1 from rfl, show sumN (y :: b1) = y.n + sumN b1 from rfl] at h1; omega),
                hTA.out.below (below_drewN hbx _), hTB.out.below (below_drewN hbx _), by rw [List.length_append]; rw [winCs_app1]; exact hown9.out, below_drewN (hbel.trans hbx) _⟩
              case measure => first | (simp [sLen]; done) | (simp [sLen]; omega)
            · have k8 : Blk (((((((w7.setCell ⟨wr.heap.size, 0, none⟩ (.int .i64 z.t)).setCell ⟨wr.heap.size, 1, none⟩ (.int .i64 z.n)).setCell ⟨wr.heap.size, 2, none⟩ (.int .i64 z.s)).setCell ⟨wr.heap.size, 3, none⟩ (.int .i64 z.lo)).setCell ⟨wr.heap.size, 4, none⟩ (.int .i64 z.hi)).setCell ⟨wr.heap.size, 5, none⟩ (.int .i64 z.f)).setCell ⟨wr.heap.size, 6, none⟩ (.int .i64 z.l)) wr.heap.size 29 #[.int .i64 z.t, .int .i64 z.n, .int .i64 z.s, .int .i64 z.lo, .int .i64 z.hi, .int .i64 z.f, .int .i64 z.l] := ((((((kz.set 0 _).set 1 _).set 2 _).set 3 _).set 4 _).set 5 _).set 6 _
              have b8 : Below wr.heap.size wr (((((((w7.setCell ⟨wr.heap.size, 0, none⟩ (.int .i64 z.t)).setCell ⟨wr.heap.size, 1, none⟩ (.int .i64 z.n)).setCell ⟨wr.heap.size, 2, none⟩ (.int .i64 z.s)).setCell ⟨wr.heap.size, 3, none⟩ (.int .i64 z.lo)).setCell ⟨wr.heap.size, 4, none⟩ (.int .i64 z.hi)).setCell ⟨wr.heap.size, 5, none⟩ (.int .i64 z.f)).setCell ⟨wr.heap.size, 6, none⟩ (.int .i64 z.l)) := ((((((hb7'.setCell (Nat.le_refl _) _).setCell (Nat.le_refl _) _).setCell (Nat.le_refl _) _).setCell (Nat.le_refl _) _).setCell (Nat.le_refl _) _).setCell (Nat.le_refl _) _).setCell (Nat.le_refl _) _
              clear kz z0 z1 z2 z3 z4 z5 z6 fz0 fz1 fz2 fz3 fz4 fz5 fz6
              rename_i hHd; clear hHd
              have gb : wr.heap.size ≤ wr.heap.size := Nat.le_refl _
              generalize (((((((w7.setCell ⟨wr.heap.size, 0, none⟩ (.int .i64 z.t)).setCell ⟨wr.heap.size, 1, none⟩ (.int .i64 z.n)).setCell ⟨wr.heap.size, 2, none⟩ (.int .i64 z.s)).setCell ⟨wr.heap.size, 3, none⟩ (.int .i64 z.lo)).setCell ⟨wr.heap.size, 4, none⟩ (.int .i64 z.hi)).setCell ⟨wr.heap.size, 5, none⟩ (.int .i64 z.f)).setCell ⟨wr.heap.size, 6, none⟩ (.int .i64 z.l)) = W8 at k8 b8 ⊢
              generalize hg : wr.heap.size = g at k8 gb ⊢
              rw [hg] at b8
              have b8 : Below wr.heap.size wr W8 := by rw [hg]; exact b8
              have k8 := Lib.hid k8
              have b8 := Lib.hid b8
              have hzn : z.n ≤ 1000000000 := by rw [Hz.out]; exact Hxy.out
              clear hb7' hg
              clear c0 c1 c2 c3 c4 c5 c6 d0 d1 d2 d3 d4 d5 d6 hb3 hb4 hxn hyn
              have hown8 := Lib.hid (own_next hown b8.out); clear hown
              have e0 := k8.out.cell 0
              have e1 := k8.out.cell 1
              have e2 := k8.out.cell 2
              have e3 := k8.out.cell 3
              have e4 := k8.out.cell 4
              have e5 := k8.out.cell 5
              have e6 := k8.out.cell 6
              simp at e0 e1 e2 e3 e4 e5 e6
              go_wp2_with (at_builtin; refine wpList_append1 rfl _ _ _ rfl elWin rfl (by exact hown8.out) (by rfl) (by simp) rfl ?_ ?k1 ?k2 ?k3 ?k4; intro A2 e2' w6 hown6 hgrow hb6)
              case k1 => first | exact ⟨rfl, rfl, rfl, rfl, rfl, rfl, rfl⟩ | exact stepW_one z | (intro u hu; simp at hu; rcases hu with rfl | rfl | rfl | rfl | rfl | rfl | rfl <;> rfl)
              case k2 => omega
              case k3 => unfold maxLen; omega
              case k4 => first | omega | (have := b8.out.size; omega)
              have hown9 := Lib.hid hown6; clear hown6 hgrow hown8
              have hb9 := Lib.hid hb6; clear hb6
              clear e0 e1 e2 e3 e4 e5 e6
              go_quiet (fail)
              go_wp2_with fail
              have hbx := (b8.out.mono hbs).trans hb9.out
              go_roundw
              case rel => exact ⟨a1, b1, o' ++ [z], _, _, A2, _, _, e2', rfl, rfl, slice_eq (by simp), by simp at q1; omega, by omega, by simp at q3; omega, by omega, Lib.hid (by rw [hm.out, joinUp, if_neg (by have := HE.out; omega), if_neg (by have := HE.out; omega), Hz.out]; simp), by simp at hsum ⊢; omega, Lib.hid (okWs_tail oa.out), Lib.hid (okWs_tail ob.out), Lib.hid (by
                  have h1 := hs.out; have h2 := (oa.out x (by simp)).1; have h3 := (ob.out y (by simp)).1
                  rw [show sumN (x :: a1) = x.n + sumN a1 from rfl, show sumN (y :: b1) = y.n + sumN b1 from rfl] at h1; omega),
                hTA.out.below (below_drewN hbx _), hTB.out.below (below_drewN hbx _), by rw [List.length_append]; rw [winCs_app1]; exact hown9.out, below_drewN (hbel.trans hbx) _⟩
              case measure => first | (simp [sLen]; done) | (simp [sLen]; omega)
          · have f1 : decide (x.t < y.t) = false := by rw [decide_eq_false_iff_not]; omega
            have f2 : decide (y.t < x.t) = true := by simpa using hgt
            go_wp2_with fail
            go_quiet (fail)
            go_wp2_with fail
            go_quiet (fail)
            go_wp2_with fail
            go_region_held3 (fun w' => w'.cell? bd = some (.int .i64 y.t) ∧ w'.cell? ⟨bd.block, bd.off + 1, none⟩ = some (.int .i64 y.n) ∧ w'.cell? ⟨bd.block, bd.off + 2, none⟩ = some (.int .i64 y.s) ∧ w'.cell? ⟨bd.block, bd.off + 3, none⟩ = some (.int .i64 y.lo) ∧ w'.cell? ⟨bd.block, bd.off + 4, none⟩ = some (.int .i64 y.hi) ∧ w'.cell? ⟨bd.block, bd.off + 5, none⟩ = some (.int .i64 y.f) ∧ w'.cell? ⟨bd.block, bd.off + 6, none⟩ = some (.int .i64 y.l)) (first | exact ⟨d0, d1, d2, d3, d4, d5, d6⟩ | go_keep | (go_split_ands; refine ⟨?_, ?_, ?_, ?_, ?_, ?_, ?_⟩ <;> (rw [hbel1.cell (by first | exact hb1 | exact hb2)]; assumption)))
              ((refine step_append1 rfl _ _ _ (by rfl) elWin (by exact (own_drewN hown _).alloc _) (by rfl) (by rfl) (by exact heap_alloc_new _ _) (by rfl) (stepW_one _) h16 h63 (by simp; omega) ?_; intro A2 e2 w1 hown1 hgrow hbel1))
            have Hown1 := Lib.hid hown1; clear hown1 hgrow
            have Hbel1 := Lib.hid hbel1; clear hbel1
            go_roundw
            case rel => (repeat apply Exists.intro); refine ⟨?_, rfl⟩; exact ⟨x :: a1, b1, o' ++ [y], _, _, A2, _, _, e2, rfl, rfl, slice_eq (by simp), q1, q2, by simp at q3; omega, by omega, Lib.hid (by rw [hm.out]; rw [joinUp, if_neg (by omega), if_pos hgt]; simp), by simp at hsum ⊢; omega, oa, Lib.hid (okWs_tail ob.out), Lib.hid (by have h1 := hs.out; have h2 := (ob.out y (by simp)).1; rw [show sumN (y :: b1) = y.n + sumN b1 from rfl] at h1; omega),
              Has.below (Has.alloc (Has.drewN hA' _) (by simp; omega) _) Hbel1.out, Has.below (Has.alloc (Has.drewN hTB.out _) (by simp; omega) _) Hbel1.out, by rw [List.length_append]; rw [winCs_app1] ; exact Hown1.out, (below_drewN hbel _).trans (Below.trans (by exact ((Below.refl _ _).alloc (by simp; omega) _)) Hbel1.out)⟩
            case measure => first | (simp [sLen]; done) | (simp [sLen]; omega)
end Go.Proofs.Ytkcfhfplppdnnaa
