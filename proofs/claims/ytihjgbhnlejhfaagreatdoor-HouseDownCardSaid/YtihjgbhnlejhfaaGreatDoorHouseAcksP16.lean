/- Texts of the proof of HouseAcks, joined (by merge.py). Conditions: each theorem's own hypotheses. -/
import Derived.Test.YtihjgbhnlejhfaaGreatDoorHouseAcksP7
import Derived.Test.YtihjgbhnlejhfaaGreatDoorHouseAcksP15
namespace Go.Proofs.YtihjgbhnlejhfaaGreatDoor
open Go.RowKit

def mergeN (a b : List Smp) : List Smp × Int :=
  if chkS a ≠ 0 then ([], chkS a) else if chkS b ≠ 0 then ([], chkS b) else if 1000 < (mergeUp a b).length then ([], 2) else (mergeUp a b, 0)
def sLen : Value → Nat
  | .slice _ n _ => n
  | _ => 0
def RowsP (x : List Smp × Int) (w : World) (v : Value) (w' : World) : Prop :=
  ∃ A c, v = .tuple #[.slice A x.1.length c, .int .i64 x.2] ∧ w'.ownsRow w.heap.size 26 2 (.slice A x.1.length c) x.1.length (smpCs x.1) ∧ Below w.heap.size w w'

theorem smp_one (t v : Int) : ∀ u ∈ (#[Value.int .i64 t, .int .i64 v] : Array Value).toList, u.oneCell' = true := by
  intro u hu
  simp at hu
  rcases hu with rfl | rfl <;> rfl
theorem Has.tail {w : World} {B d : Nat} {ad : Addr} {y : Smp} {l : List Smp} (h : Has w B (some ad) (smpCs (y :: l))) (hd : l.length + 1 ≤ d) :
    Has w B (if d = 1 then some ad else some ⟨ad.block, ad.off + 2, none⟩) (smpCs l) := by
  have h1 := h.cut (k := 1) (n := l.length + 1) (size := 2) (cap := d) (by rw [smpCs_len]; rfl) hd
  have e : (smpCs (y :: l)).drop (1 * 2) = smpCs l := rfl
  rw [e] at h1
  have e2 : (if d = 1 then some ad else Option.map (fun x => x.add (1 * 2)) (some ad)) = (if d = 1 then some ad else some ⟨ad.block, ad.off + 2, none⟩) := by
    split
    · rfl
    · simp [Addr.add]
  rw [← e2]
  exact h1
theorem Has.head {w : World} {B : Nat} {A : Option Addr} {y : Smp} {l : List Smp} (h : Has w B A (smpCs (y :: l))) :
    ∃ ad : Addr, A = some ad ∧ ad.block < B ∧ w.cell? ad = some (.int .i64 y.t) ∧ w.cell? ⟨ad.block, ad.off + 1, none⟩ = some (.int .i64 y.v) := by
  obtain ⟨ad, rfl, h1, c1⟩ := h.at (smpCs_t (show 0 < (y :: l).length by simp))
  obtain ⟨ad', e, _, c2⟩ := h.at (smpCs_v (show 0 < (y :: l).length by simp))
  injection e with e
  subst e
  exact ⟨ad, rfl, h1, by simpa [Addr.add, at_] using c1, by simpa [Addr.add, at_] using c2⟩
theorem smpCs_app1 (l : List Smp) (x : Smp) : smpCs (l ++ [x]) = smpCs l ++ (#[Value.int .i64 x.t, .int .i64 x.v] : Array Value).toList := by simp [smpCs, smpC]
theorem mergeUp_nil (a : List Smp) : mergeUp a [] = a := by cases a <;> simp [mergeUp]
theorem slice_eq {A : Option Addr} {n m c : Nat} (h : n = m) : Value.slice A n c = .slice A m c := by rw [h]
set_option maxRecDepth 1000000 in
set_option maxHeartbeats 4000000 in
theorem merge_any (A : Option Addr) (c : Nat) (a : List Smp) (hac : a.length ≤ c) (hc : c ≤ maxLen) (B : Option Addr) (d : Nat) (b : List Smp) (hbd : b.length ≤ d) (hd : d ≤ maxLen) (w : World) (hA : Has w w.heap.size A (smpCs a)) (hB : Has w w.heap.size B (smpCs b)) :
    Calls Tryz.prog 53 #[.slice A a.length c, .slice B b.length d] w (RV (RowsP (mergeN a b) w)) := by
  have ha : a.length ≤ maxLen := by omega
  have hb : b.length ≤ maxLen := by omega
  have b0 : Below w.heap.size w (w.alloc (.cells #[.slice A a.length c, .slice B b.length d] 43)) := (Below.refl _ _).alloc (Nat.le_refl _) _
  have k0 : Blk (w.alloc (.cells #[.slice A a.length c, .slice B b.length d] 43)) w.heap.size 43 #[.slice A a.length c, .slice B b.length d] := Blk.new _ _ _
  go_enter Tryz.func53, Tryz.ntmps53
  go_wp2_with fail
  go_loopw [14] (fun i wr => ∃ k : Nat, k ≤ 2 ∧ i = .int .i64 (k : Nat) ∧ Hid (1 ≤ k → chkS a = 0) ∧ Hid (2 ≤ k → chkS b = 0) ∧ Drawn (w.alloc (.cells #[.slice A a.length c, .slice B b.length d] 43)) wr) (fun i _ => 5 - (intOf i).toNat)
  case atStart => exact ⟨0, by omega, rfl, Lib.hid (by omega), Lib.hid (by omega), Drawn.refl _⟩
  case round =>
    obtain ⟨k, hk, rfl, h1, h2, n, rfl⟩ := hrel
    rcases (show k = 0 ∨ k = 1 ∨ k = 2 by omega) with rfl | rfl | rfl
    · have hN : ∀ n, Below w.heap.size w ((w.alloc (.cells #[.slice A a.length c, .slice B b.length d] 43)).drewN n) := fun n => below_drewN b0 n
      by_cases hk0 : chkS a = 0
      · go_wp2_with fail
        refine (scheck_any A c a ha _ (by exact hA.next (hN _))).mono ?_
        rintro e w1 ⟨rfl, n1, rfl⟩
        rw [hk0]
        go_wp2_with fail
        go_roundw
        case rel => exact ⟨1, by omega, rfl, Lib.hid (fun _ => hk0), Lib.hid (by omega), ⟨_, rfl⟩⟩
        case measure => simp [intOf]
      · obtain ⟨q, hq⟩ : ∃ q, chkS a = q := ⟨_, rfl⟩
        have hM : mergeN a b = ([], q) := by unfold mergeN; rw [if_pos hk0, hq]
        rw [hq] at hk0
        have f1 : (q != 0) = true := by rw [bne_iff_ne]; exact hk0
        have HM := Lib.hid hM; clear hM
        have HQ := Lib.hid hq; clear hq
        go_wp2_with fail
        refine (scheck_any A c a ha _ (by exact hA.next (hN _))).mono ?_
        rintro e w1 ⟨rfl, n1, rfl⟩
        rw [HQ.out]
        go_wp2_with fail
        go_ret2
        rw [HM.out]
        exact RV.mk ⟨none, 0, rfl, ⟨rfl, .inl ⟨rfl, rfl⟩⟩, below_drewN b0 _⟩
    · have hN : ∀ n, Below w.heap.size w ((w.alloc (.cells #[.slice A a.length c, .slice B b.length d] 43)).drewN n) := fun n => below_drewN b0 n
      by_cases hk0 : chkS b = 0
      · go_wp2_with fail
        refine (scheck_any B d b hb _ (by exact hB.next (hN _))).mono ?_
        rintro e w1 ⟨rfl, n1, rfl⟩
        rw [hk0]
        go_wp2_with fail
        go_roundw
        case rel => exact ⟨2, by omega, rfl, Lib.hid (fun _ => h1.out (by omega)), Lib.hid (fun _ => hk0), ⟨_, rfl⟩⟩
        case measure => simp [intOf]
      · obtain ⟨q, hq⟩ : ∃ q, chkS b = q := ⟨_, rfl⟩
        have hM : mergeN a b = ([], q) := by unfold mergeN; rw [if_neg (by rw [h1.out (by omega)]; simp), if_pos hk0, hq]
        rw [hq] at hk0
        have f1 : (q != 0) = true := by rw [bne_iff_ne]; exact hk0
        have HM := Lib.hid hM; clear hM
        have HQ := Lib.hid hq; clear hq
        go_wp2_with fail
        refine (scheck_any B d b hb _ (by exact hB.next (hN _))).mono ?_
        rintro e w1 ⟨rfl, n1, rfl⟩
        rw [HQ.out]
        go_wp2_with fail
        go_ret2
        rw [HM.out]
        exact RV.mk ⟨none, 0, rfl, ⟨rfl, .inl ⟨rfl, rfl⟩⟩, below_drewN b0 _⟩
    · rw [show ((2 : Nat) : Int) = 2 from rfl]
      go_wp2_with fail
      go_loopw [0, 1, 9] (fun x y o wr => ∃ (a' b' o' : List Smp) (A' B' O : Option Addr) (c' d' e : Nat), x = .slice A' a'.length c' ∧ y = .slice B' b'.length d' ∧ o = .slice O o'.length e ∧ a'.length ≤ c' ∧ c' ≤ maxLen ∧ b'.length ≤ d' ∧ d' ≤ maxLen ∧ Hid (mergeUp a b = o' ++ mergeUp a' b') ∧ o'.length + a'.length + b'.length ≤ 2000 ∧
        Has wr w.heap.size A' (smpCs a') ∧ Has wr w.heap.size B' (smpCs b') ∧ wr.ownsRow w.heap.size 26 2 (.slice O o'.length e) o'.length (smpCs o') ∧ Below w.heap.size w wr) (fun x y _ _ => sLen x + sLen y)
      case atStart =>
        have l1 := (chkS_ok (h1.out (by omega))).1
        have l2 := (chkS_ok (h2.out (by omega))).1
        exact ⟨a, b, [], A, B, none, c, d, 0, rfl, rfl, rfl, hac, hc, hbd, hd, Lib.hid rfl, by simp; omega, hA.below (below_drewN b0 _), hB.below (below_drewN b0 _), ⟨rfl, .inl ⟨rfl, rfl⟩⟩, below_drewN b0 _⟩
      case round =>
        obtain ⟨a', b', o', A', B', O, c', d', e, rfl, rfl, rfl, q1, q2, q3, q4, hm, hsum, hA', hB', hown, hbel⟩ := hrel
        rcases a' with _ | ⟨x, a1⟩ <;> rcases b' with _ | ⟨y, b1⟩
        · have hM : Hid (mergeN a b = if 1000 < o'.length then ([], 2) else (o', 0)) := Lib.hid (by
            unfold mergeN
            rw [if_neg (by rw [h1.out (by omega)]; simp), if_neg (by rw [h2.out (by omega)]; simp), hm.out]
            simp [mergeUp])
          by_cases h1000 : (1000 : Int) < (o'.length : Int)
          · go_wp2_with fail
            go_ret2
            rw [hM.out, if_pos (by omega)]
            exact RV.mk ⟨none, 0, rfl, ⟨rfl, .inl ⟨rfl, rfl⟩⟩, hbel⟩
          · go_wp2_with fail
            go_ret2
            rw [hM.out, if_neg (by omega)]
            exact RV.mk ⟨O, e, rfl, hown, hbel⟩
        · -- b alone
          obtain ⟨bd, rfl, hb2, c3, c4⟩ := hB'.head
          have hTB := Lib.hid (hB'.tail q3)
          have p3 : (1 : Int) ≤ (b1.length : Int) + 1 := by omega
          have p4 : (b1.length : Int) + 1 ≤ (d' : Int) := by simp at q3; omega
          have p6 : ((b1.length : Int) + 1 == 0) = false := by rw [beq_eq_false_iff_ne]; omega
          have hbs := hbel.size
          have h16 : (o'.length + 1) * 16 ≤ 140737488355328 := by omega
          have h63 : o'.length + 1 ≤ maxLen := by unfold maxLen; omega
          go_wp2_with fail
          go_quiet (fail)
          go_wp2_with fail
          go_quiet (fail)
          go_wp2_with fail
          go_region_held3 (fun w' => w'.cell? bd = some (.int .i64 y.t) ∧ w'.cell? ⟨bd.block, bd.off + 1, none⟩ = some (.int .i64 y.v)) (first | exact ⟨c3, c4⟩ | go_keep | (go_split_ands; refine ⟨?_, ?_⟩ <;> (rw [hbel1.cell (by first | exact hb1 | exact hb2)]; assumption)))
            ((refine step_append1 rfl _ _ _ (by rfl) elSmp (by exact (own_drewN hown _).alloc _) (by rfl) (by rfl) (by exact heap_alloc_new _ _) (by rfl) (smp_one _ _) h16 h63 (by simp; omega) ?_; intro A2 e2 w1 hown1 hgrow hbel1))
          have Hown1 := Lib.hid hown1; clear hown1 hgrow
          have Hbel1 := Lib.hid hbel1; clear hbel1
          go_roundw
          case rel => (repeat apply Exists.intro); refine ⟨?_, rfl⟩; exact ⟨[], b1, o' ++ [y], _, _, A2, _, _, e2, rfl, rfl, slice_eq (by simp), q1, q2, by simp at q3; omega, by omega, Lib.hid (by rw [hm.out]; simp [mergeUp]), by simp at hsum ⊢; omega,
            Has.below (Has.alloc (Has.drewN hA' _) (by simp; omega) _) Hbel1.out, Has.below (Has.alloc (Has.drewN hTB.out _) (by simp; omega) _) Hbel1.out, by rw [List.length_append]; rw [smpCs_app1] ; exact Hown1.out, (below_drewN hbel _).trans (Below.trans (by exact ((Below.refl _ _).alloc (by simp; omega) _)) Hbel1.out)⟩
          case measure => first | (simp [sLen]; done) | (simp [sLen]; omega)
        · -- a alone
          obtain ⟨ad, rfl, hb1, c1, c2⟩ := hA'.head
          have hTA := Lib.hid (hA'.tail q1)
          have p1 : (1 : Int) ≤ (a1.length : Int) + 1 := by omega
          have p2 : (a1.length : Int) + 1 ≤ (c' : Int) := by simp at q1; omega
          have p5 : ((a1.length : Int) + 1 == 0) = false := by rw [beq_eq_false_iff_ne]; omega
          have hbs := hbel.size
          have h16 : (o'.length + 1) * 16 ≤ 140737488355328 := by omega
          have h63 : o'.length + 1 ≤ maxLen := by unfold maxLen; omega
          go_wp2_with fail
          go_quiet (fail)
          go_wp2_with fail
          go_region_held3 (fun w' => w'.cell? ad = some (.int .i64 x.t) ∧ w'.cell? ⟨ad.block, ad.off + 1, none⟩ = some (.int .i64 x.v)) (first | exact ⟨c1, c2⟩ | go_keep | (go_split_ands; refine ⟨?_, ?_⟩ <;> (rw [hbel1.cell (by first | exact hb1 | exact hb2)]; assumption)))
            ((refine step_append1 rfl _ _ _ (by rfl) elSmp (by exact (own_drewN hown _).alloc _) (by rfl) (by rfl) (by exact heap_alloc_new _ _) (by rfl) (smp_one _ _) h16 h63 (by simp; omega) ?_; intro A2 e2 w1 hown1 hgrow hbel1))
          have Hown1 := Lib.hid hown1; clear hown1 hgrow
          have Hbel1 := Lib.hid hbel1; clear hbel1
          go_roundw
          case rel => (repeat apply Exists.intro); refine ⟨?_, rfl⟩; exact ⟨a1, [], o' ++ [x], _, _, A2, _, _, e2, rfl, rfl, slice_eq (by simp), by simp at q1; omega, by omega, q3, q4, Lib.hid (by rw [hm.out]; simp [mergeUp_nil]), by simp at hsum ⊢; omega,
            Has.below (Has.alloc (Has.drewN hTA.out _) (by simp; omega) _) Hbel1.out, Has.below (Has.alloc (Has.drewN hB' _) (by simp; omega) _) Hbel1.out, by rw [List.length_append]; rw [smpCs_app1] ; exact Hown1.out, (below_drewN hbel _).trans (Below.trans (by exact ((Below.refl _ _).alloc (by simp; omega) _)) Hbel1.out)⟩
          case measure => first | (simp [sLen]; done) | (simp [sLen]; omega)
        · -- both
          obtain ⟨ad, rfl, hb1, c1, c2⟩ := hA'.head
          have hTA := Lib.hid (hA'.tail q1)
          have p1 : (1 : Int) ≤ (a1.length : Int) + 1 := by omega
          have p2 : (a1.length : Int) + 1 ≤ (c' : Int) := by simp at q1; omega
          have p5 : ((a1.length : Int) + 1 == 0) = false := by rw [beq_eq_false_iff_ne]; omega
          obtain ⟨bd, rfl, hb2, c3, c4⟩ := hB'.head
          have hTB := Lib.hid (hB'.tail q3)
          have p3 : (1 : Int) ≤ (b1.length : Int) + 1 := by omega
          have p4 : (b1.length : Int) + 1 ≤ (d' : Int) := by simp at q3; omega
          have p6 : ((b1.length : Int) + 1 == 0) = false := by rw [beq_eq_false_iff_ne]; omega
          have hbs := hbel.size
          have h16 : (o'.length + 1) * 16 ≤ 140737488355328 := by omega
          have h63 : o'.length + 1 ≤ maxLen := by unfold maxLen; omega
          rcases Int.lt_trichotomy x.t y.t with hlt | heq | hgt
          · have f1 : decide (x.t < y.t) = true := by simpa using hlt
            go_wp2_with fail
            go_quiet (fail)
            go_wp2_with fail
            go_region_held3 (fun w' => w'.cell? ad = some (.int .i64 x.t) ∧ w'.cell? ⟨ad.block, ad.off + 1, none⟩ = some (.int .i64 x.v)) (first | exact ⟨c1, c2⟩ | go_keep | (go_split_ands; refine ⟨?_, ?_⟩ <;> (rw [hbel1.cell (by first | exact hb1 | exact hb2)]; assumption)))
              ((refine step_append1 rfl _ _ _ (by rfl) elSmp (by exact (own_drewN hown _).alloc _) (by rfl) (by rfl) (by exact heap_alloc_new _ _) (by rfl) (smp_one _ _) h16 h63 (by simp; omega) ?_; intro A2 e2 w1 hown1 hgrow hbel1))
            have Hown1 := Lib.hid hown1; clear hown1 hgrow
            have Hbel1 := Lib.hid hbel1; clear hbel1
            go_roundw
            case rel => (repeat apply Exists.intro); refine ⟨?_, rfl⟩; exact ⟨a1, y :: b1, o' ++ [x], _, _, A2, _, _, e2, rfl, rfl, slice_eq (by simp), by simp at q1; omega, by omega, q3, q4, Lib.hid (by rw [hm.out]; rw [mergeUp, if_pos hlt]; simp), by simp at hsum ⊢; omega,
              Has.below (Has.alloc (Has.drewN hTA.out _) (by simp; omega) _) Hbel1.out, Has.below (Has.alloc (Has.drewN hB' _) (by simp; omega) _) Hbel1.out, by rw [List.length_append]; rw [smpCs_app1] ; exact Hown1.out, (below_drewN hbel _).trans (Below.trans (by exact ((Below.refl _ _).alloc (by simp; omega) _)) Hbel1.out)⟩
            case measure => first | (simp [sLen]; done) | (simp [sLen]; omega)
          · have f1 : decide (x.t < y.t) = false := by rw [decide_eq_false_iff_not]; omega
            have f2 : decide (y.t < x.t) = false := by rw [decide_eq_false_iff_not]; omega
            have HE := Lib.hid heq; clear heq
            rcases Int.lt_or_le x.v y.v with hv | hv
            · have HM := Lib.hid (show max x.v y.v = y.v by omega)
              go_wp2_with fail
              go_quiet (fail)
              go_wp2_with fail
              go_quiet (fail)
              go_wp2_with fail
              go_region_held3 (fun w' => w'.cell? ad = some (.int .i64 x.t) ∧ w'.cell? ⟨ad.block, ad.off + 1, none⟩ = some (.int .i64 x.v) ∧ w'.cell? bd = some (.int .i64 y.t) ∧ w'.cell? ⟨bd.block, bd.off + 1, none⟩ = some (.int .i64 y.v)) (first | exact ⟨c1, c2, c3, c4⟩ | go_keep | (go_split_ands; refine ⟨?_, ?_, ?_, ?_⟩ <;> (rw [hbel1.cell (by first | exact hb1 | exact hb2)]; assumption)))
                ((refine step_append1 rfl _ _ _ (by rfl) elSmp (by exact (own_drewN hown _).alloc _) (by rfl) (by rfl) (by exact heap_alloc_new _ _) (by rfl) (smp_one _ _) h16 h63 (by simp; omega) ?_; intro A2 e2 w1 hown1 hgrow hbel1))
              go_wp2_with fail
              go_quiet (fail)
              have Hown1 := Lib.hid hown1; clear hown1 hgrow
              have Hbel1 := Lib.hid hbel1; clear hbel1
              go_roundw
              case rel => (repeat apply Exists.intro); refine ⟨?_, rfl⟩; exact ⟨a1, b1, o' ++ [⟨x.t, y.v⟩], _, _, A2, _, _, e2, rfl, rfl, slice_eq (by simp), by simp at q1; omega, by omega, by simp at q3; omega, by omega, Lib.hid (by rw [hm.out]; rw [mergeUp, if_neg (by rw [HE.out]; omega), if_neg (by rw [HE.out]; omega), HM.out]; simp), by simp at hsum ⊢; omega,
                Has.drewN (Has.below (Has.alloc (Has.drewN hTA.out _) (by simp; omega) _) Hbel1.out) _, Has.drewN (Has.below (Has.alloc (Has.drewN hTB.out _) (by simp; omega) _) Hbel1.out) _, by rw [List.length_append]; rw [smpCs_app1] ; exact Hown1.out, below_drewN ((below_drewN hbel _).trans (Below.trans (by exact ((Below.refl _ _).alloc (by simp; omega) _)) Hbel1.out)) _⟩
              case measure => first | (simp [sLen]; done) | (simp [sLen]; omega)
            · have HM := Lib.hid (show max x.v y.v = x.v by omega)
              go_wp2_with fail
              go_quiet (fail)
              go_wp2_with fail
              go_quiet (fail)
              go_wp2_with fail
              go_region_held3 (fun w' => w'.cell? ad = some (.int .i64 x.t) ∧ w'.cell? ⟨ad.block, ad.off + 1, none⟩ = some (.int .i64 x.v) ∧ w'.cell? bd = some (.int .i64 y.t) ∧ w'.cell? ⟨bd.block, bd.off + 1, none⟩ = some (.int .i64 y.v)) (first | exact ⟨c1, c2, c3, c4⟩ | go_keep | (go_split_ands; refine ⟨?_, ?_, ?_, ?_⟩ <;> (rw [hbel1.cell (by first | exact hb1 | exact hb2)]; assumption)))
                ((refine step_append1 rfl _ _ _ (by rfl) elSmp (by exact (own_drewN hown _).alloc _) (by rfl) (by rfl) (by exact heap_alloc_new _ _) (by rfl) (smp_one _ _) h16 h63 (by simp; omega) ?_; intro A2 e2 w1 hown1 hgrow hbel1))
              go_wp2_with fail
              go_quiet (fail)
              have Hown1 := Lib.hid hown1; clear hown1 hgrow
              have Hbel1 := Lib.hid hbel1; clear hbel1
              go_roundw
              case rel => (repeat apply Exists.intro); refine ⟨?_, rfl⟩; exact ⟨a1, b1, o' ++ [⟨x.t, x.v⟩], _, _, A2, _, _, e2, rfl, rfl, slice_eq (by simp), by simp at q1; omega, by omega, by simp at q3; omega, by omega, Lib.hid (by rw [hm.out]; rw [mergeUp, if_neg (by rw [HE.out]; omega), if_neg (by rw [HE.out]; omega), HM.out]; simp), by simp at hsum ⊢; omega,
                Has.drewN (Has.below (Has.alloc (Has.drewN hTA.out _) (by simp; omega) _) Hbel1.out) _, Has.drewN (Has.below (Has.alloc (Has.drewN hTB.out _) (by simp; omega) _) Hbel1.out) _, by rw [List.length_append]; rw [smpCs_app1] ; have hh := Hown1.out; rw [if_neg (by omega)] at hh; exact hh, below_drewN ((below_drewN hbel _).trans (Below.trans (by exact ((Below.refl _ _).alloc (by simp; omega) _)) Hbel1.out)) _⟩
              case measure => first | (simp [sLen]; done) | (simp [sLen]; omega)
          · have f1 : decide (x.t < y.t) = false := by rw [decide_eq_false_iff_not]; omega
            have f2 : decide (y.t < x.t) = true := by simpa using hgt
            go_wp2_with fail
            go_quiet (fail)
            go_wp2_with fail
            go_quiet (fail)
            go_wp2_with fail
            go_region_held3 (fun w' => w'.cell? bd = some (.int .i64 y.t) ∧ w'.cell? ⟨bd.block, bd.off + 1, none⟩ = some (.int .i64 y.v)) (first | exact ⟨c3, c4⟩ | go_keep | (go_split_ands; refine ⟨?_, ?_⟩ <;> (rw [hbel1.cell (by first | exact hb1 | exact hb2)]; assumption)))
              ((refine step_append1 rfl _ _ _ (by rfl) elSmp (by exact (own_drewN hown _).alloc _) (by rfl) (by rfl) (by exact heap_alloc_new _ _) (by rfl) (smp_one _ _) h16 h63 (by simp; omega) ?_; intro A2 e2 w1 hown1 hgrow hbel1))
            have Hown1 := Lib.hid hown1; clear hown1 hgrow
            have Hbel1 := Lib.hid hbel1; clear hbel1
            go_roundw
            case rel => (repeat apply Exists.intro); refine ⟨?_, rfl⟩; exact ⟨x :: a1, b1, o' ++ [y], _, _, A2, _, _, e2, rfl, rfl, slice_eq (by simp), q1, q2, by simp at q3; omega, by omega, Lib.hid (by rw [hm.out]; rw [mergeUp, if_neg (by omega), if_pos hgt]; simp), by simp at hsum ⊢; omega,
              Has.below (Has.alloc (Has.drewN hA' _) (by simp; omega) _) Hbel1.out, Has.below (Has.alloc (Has.drewN hTB.out _) (by simp; omega) _) Hbel1.out, by rw [List.length_append]; rw [smpCs_app1] ; exact Hown1.out, (below_drewN hbel _).trans (Below.trans (by exact ((Below.refl _ _).alloc (by simp; omega) _)) Hbel1.out)⟩
            case measure => first | (simp [sLen]; done) | (simp [sLen]; omega)
end Go.Proofs.YtihjgbhnlejhfaaGreatDoor
