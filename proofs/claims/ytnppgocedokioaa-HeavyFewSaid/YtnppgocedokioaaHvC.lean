/- What less, Empty and Add of package heavy make. Conditions: rows lie in their cells; a tally is as the document wants it. -/
import Derived.Test.YtnppgocedokioaaHvB
import Derived.Deep.RegionHeld
namespace Go.Proofs.Ytnppgocedokioaa
open Go.RowKit

theorem Has.far {w : World} {B : Nat} {A : Option Addr} {xs : List Value} (h : Has w B A xs) (p : Addr) (u : Value) (hA : ∀ ad, A = some ad → ad.block ≠ p.block) : Has (w.setCell p u) B A xs := fun hx => by
  obtain ⟨ad, rfl, hb, hc⟩ := h hx
  exact ⟨ad, rfl, hb, fun j v hu => (World.cell?_setCell_far _ _ _ _ (by rw [add_block]; exact fun e => hA ad rfl e.symm)).trans (hc j v hu)⟩
theorem Blk.far {w : World} {g : Nat} {t : TypeId} {cs : Array Value} (h : Blk w g t cs) (p : Addr) (u : Value) (hne : p.block ≠ g) : Blk (w.setCell p u) g t cs := (Below.heap_setCell w p u g (fun e => hne e.symm)).trans h
/-- a tally's row as a call leaves it -/
def HvL (w : World) (A : Option Addr) (c : Nat) (L : List Cn) : Prop := L.length ≤ c ∧ c ≤ maxLen ∧ (A = none → c = 0) ∧ Has w w.heap.size A (cnCs L)
theorem HvL.next {w w' : World} {A : Option Addr} {c : Nat} {L : List Cn} (h : HvL w A c L) (hb : Below w.heap.size w w') : HvL w' A c L := ⟨h.1, h.2.1, h.2.2.1, h.2.2.2.next hb⟩
theorem HvL.nil (w : World) : HvL w none 0 [] := ⟨Nat.le_refl _, Nat.zero_le _, fun _ => rfl, Has.nil _ _ _⟩
theorem HvL.own {w : World} {base c : Nat} {A : Option Addr} {L : List Cn} (h : w.ownsRow base 72 2 (.slice A L.length c) L.length (cnCs L)) : HvL w A c L := by
  obtain ⟨A', c', e1, h2, h3, h4, h5⟩ := own_form h
  injection e1 with e1 _ e3
  subst e1 e3
  exact ⟨h2, h3, h5, Has.of_own h⟩
def tvH (s : Hv) (A : Option Addr) (c : Nat) : Value := .agg #[.int .i64 s.K, .slice A s.L.length c, .int .i64 s.N, .int .i64 s.Off]
def HvF (r : Hv × Int) (w : World) (v : Value) (w' : World) : Prop :=
  ∃ A c, v = .tuple #[tvH r.1 A c, .int .i64 r.2] ∧ HvL w' A c r.1.L ∧ Below w.heap.size w w' ∧ ∀ ad, A = some ad → w.heap.size ≤ ad.block

theorem lessH_step {l : List Cn} {k : Nat} (h : k < l.length) (n : Int) : lessH (l.take (k + 1)) n = lessH (l.take k) n ++ if n < (at_ l k).n then [⟨(at_ l k).k, (at_ l k).n - n⟩] else [] := by
  rw [take_at h]
  unfold lessH
  rw [List.filter_append, List.map_append]
  congr 1
  by_cases g : n < (at_ l k).n
  · rw [if_pos g]; simp [g]
  · rw [if_neg g]; simp [g]
def LessP (r : List Cn) (w : World) (v : Value) (w' : World) : Prop :=
  ∃ A c, v = .slice A r.length c ∧ w'.ownsRow w.heap.size 72 2 (.slice A r.length c) r.length (cnCs r) ∧ Below w.heap.size w w'

set_option maxRecDepth 1000000 in
set_option maxHeartbeats 4000000 in
theorem lessH_any (A : Option Addr) (n c : Nat) (L : List Cn) (hn : L.length = n) (hn2 : n ≤ 2000) (z : Int) (hz : 0 ≤ z ∧ z ≤ 4000000000) (hL : ∀ x ∈ L, 0 ≤ x.n ∧ x.n ≤ 4000000000) (w : World) (h : Has w w.heap.size A (cnCs L)) :
    Calls Try.prog 42 #[.slice A n c, .int .i64 z] w (RV (LessP (lessH L z) w)) := by
  have Hn := Lib.hid hn
  have HL := Lib.hid hL
  obtain ⟨hz1, hz2⟩ := hz
  clear hn hL
  go_enter Try.func42, Try.ntmps42
  go_wp2_with fail
  go_loopw [5, 10] (fun o i wr => ∃ (k q : Nat) (O : Option Addr) (e : Nat), k ≤ n ∧ i = .int .i64 (k : Nat) ∧ o = .slice O q e ∧ Hid ((lessH (L.take k) z).length = q) ∧ q ≤ k ∧ wr.ownsRow w.heap.size 72 2 (.slice O q e) q (cnCs (lessH (L.take k) z)) ∧ Below w.heap.size w wr) (fun _ i _ => n + 5 - (intOf i).toNat)
  case atStart => exact ⟨0, 0, none, 0, by omega, rfl, rfl, Lib.hid rfl, by omega, ⟨rfl, .inl ⟨rfl, rfl⟩⟩, Below.refl _ _⟩
  case round =>
    obtain ⟨k, q, O, e, hk, rfl, rfl, hq, hqk, hown, hbr⟩ := hrel
    have hbs := hbr.size
    by_cases hlt : (k : Int) < (n : Int)
    · have l1 := Lib.hid (show k < L.length by rw [Hn.out]; omega)
      obtain ⟨ad, rfl, had, c0, c1⟩ := (h.below hbr).cnAt l1.out
      have he := HL.out _ (at_mem l1.out)
      have hst := Lib.hid (lessH_step l1.out z)
      obtain ⟨r, hr⟩ : ∃ r, lessH (L.take k) z = r := ⟨_, rfl⟩
      rw [hr] at hst hq hown
      clear hr
      obtain ⟨y, hy⟩ : ∃ y, at_ L k = y := ⟨_, rfl⟩
      rw [hy] at c0 c1 he hst
      clear hy
      obtain ⟨yk, yn⟩ := y
      simp only [] at c0 c1 he hst
      have Hown := Lib.hid hown
      clear hown
      have kg : Blk (wr.alloc (.cells #[.string yk, .int .i64 yn] 72)) wr.heap.size 72 #[.string yk, .int .i64 yn] := Blk.new _ _ _
      have hbA := hbr.alloc hbs (.cells #[.string yk, .int .i64 yn] 72)
      by_cases hg : z < yn
      · have hownA := Hown.out.alloc (.cells #[.string yk, .int .i64 yn] 72)
        go_wp2_with (at_builtin; refine wpList_append1 rfl _ _ _ rfl insH2el rfl hownA rfl (by first | rfl | simp) rfl ?_ ?k1 ?k2 ?k3 ?k4; intro A5 e5 w5 hown5 hgrow5 hb5)
        case k1 => exact ⟨rfl, rfl⟩
        case k2 => omega
        case k3 => unfold maxLen; omega
        case k4 => simp; omega
        have hb05 := hbA.trans hb5
        go_roundw
        case rel =>
          refine ⟨k + 1, q + 1, A5, e5, by omega, by go_num, rfl, Lib.hid ?_, by omega, ?_, hb05⟩
          · rw [hst.out, if_pos hg, List.length_append, hq.out]; rfl
          · rw [hst.out, if_pos hg, cnCs_app]; exact hown5
        case measure => simp [intOf]; omega
      · go_wp2_with fail
        go_roundw
        case rel =>
          refine ⟨k + 1, q, O, e, by omega, by go_num, rfl, Lib.hid ?_, by omega, ?_, hbA⟩
          · rw [hst.out, if_neg hg, List.append_nil]; exact hq.out
          · rw [hst.out, if_neg hg, List.append_nil]; exact Hown.out.alloc _
        case measure => simp [intOf]; omega
    · have hkn : k = n := by omega
      have e1 := Lib.hid (show L.take k = L by rw [List.take_of_length_le (by rw [Hn.out]; omega)])
      have hfin := Lib.hid (show LessP (lessH L z) w (.slice O q e) wr by
        rw [e1.out] at hq hown
        exact ⟨O, e, by rw [hq.out], by rw [hq.out]; exact hown, hbr⟩)
      clear hown hq e1
      go_wp2_with fail
      go_ret
      exact RV.mk hfin.out
set_option maxRecDepth 1000000 in
set_option maxHeartbeats 400000 in
theorem cloneCn_any (A : Option Addr) (n c : Nat) (xs : List Value) (hl : xs.length = n * 2) (h1 : ∀ u ∈ xs, u.oneCell' = true) (hA : A = none → n = 0 ∧ c = 0) (hmax : n * 24 ≤ 140737488355328) (w : World) (h : Has w w.heap.size A xs) :
    Calls Try.prog 40 #[.slice A n c] w (RV fun v w' => ∃ A' c', v = .slice A' n c' ∧ w'.ownsRow w.heap.size 72 2 (.slice A' n c') n xs ∧ Below w.heap.size w w') := by
  have hq := fun (w : World) (a : Option Addr) (n c n' c' : Nat) => Lib.run_eql_slice_nil (P := Try.prog) w 24 72 a n c n' c' Try.underlying24
  cases A with
  | none =>
    obtain ⟨rfl, rfl⟩ := hA rfl
    go_enter Try.func40, Try.ntmps40
    go_wp2
    go_ret
    exact RV.mk ⟨none, 0, rfl, ⟨hl, .inl ⟨rfl, rfl⟩⟩, Below.refl _ _⟩
  | some ad =>
    go_enter Try.func40, Try.ntmps40
    go_wp2_with (at_builtin; refine wpList_spread rfl _ _ _ rfl insH2el rfl (World.ownsRow_made (base := w.heap.size) w #[] 0 (Nat.le_refl _) (Nat.zero_le _) rfl) rfl ((h.keep fun p hp => World.cell?_alloc_lt w _ p hp)) ?_ ?c1 ?c2 ?c3 ?c4 ?c5; intro A' c' w1 hown hgrow hbel)
    case c1 => exact hl
    case c2 => exact h1
    case c3 => omega
    case c4 => unfold maxLen; omega
    case c5 => simp
    go_ret
    rw [Nat.zero_add, List.nil_append] at hown
    exact RV.mk ⟨A', c', rfl, hown, ((Below.refl _ _).alloc (Nat.le_refl _) _).trans hbel⟩
set_option maxRecDepth 1000000 in
set_option maxHeartbeats 1000000 in
theorem emptyH_any (K : Int) (w : World) : Calls Try.prog 33 #[.int .i64 K] w (RV (HvF (emptyH K) w)) := by
  by_cases h : K < 1 ∨ 64 < K
  · have e := Lib.hid (show emptyH K = (zeroHv, 1) by unfold emptyH; rw [if_pos h])
    rw [e.out]
    rcases (show K < 1 ∨ (¬ K < 1 ∧ 64 < K) by omega) with h1 | ⟨h1, h2⟩
    all_goals
      clear h
      go_enter Try.func33, Try.ntmps33
      go_wp2_with fail
      refine bodyPost_ret (v := .tuple #[.agg #[.int .i64 0, .slice none 0 0, .int .i64 0, .int .i64 0], .int .i64 1]) (by simp [results, Try.results33, go_sem, *]) rfl (RV.mk ?_)
      exact ⟨none, 0, rfl, HvL.nil _, by first | exact one_alloc _ _ | exact ((((one_alloc w _).setCell (by simp) _).setCell (by simp) _).setCell (by simp) _).setCell (by simp) _, fun ad e => by cases e⟩
  · have e := Lib.hid (show emptyH K = (⟨K, [], 0, 0⟩, 0) by unfold emptyH; rw [if_neg h])
    rw [e.out]
    have h1 : ¬ K < 1 := by omega
    have h2 : ¬ 64 < K := by omega
    clear h
    go_enter Try.func33, Try.ntmps33
    go_wp2_with fail
    refine bodyPost_ret (v := .tuple #[.agg #[.int .i64 K, .slice none 0 0, .int .i64 0, .int .i64 0], .int .i64 0]) (by simp [results, Try.results33, go_sem, *]) rfl (RV.mk ?_)
    exact ⟨none, 0, rfl, HvL.nil _, by first | exact one_alloc _ _ | exact ((((one_alloc w _).setCell (by simp) _).setCell (by simp) _).setCell (by simp) _).setCell (by simp) _, fun ad e => by cases e⟩
set_option maxRecDepth 1000000 in
set_option maxHeartbeats 1000000 in
theorem tallies_true (w : World) : Calls Try.prog 9 #[] w (R1 (.bool true) (Below w.heap.size w)) := by
  have e0 : Hid (emptyH 4 = (⟨4, [], 0, 0⟩, 0)) := Lib.hid (by unfold emptyH; rw [if_neg (by omega)])
  go_enter Try.func9, Try.ntmps9
  go_wp2_with fail
  refine (emptyH_any 4 _).mono ?_
  rw [e0.out]
  rintro e w1 ⟨v, rfl, A, c, rfl, hI, hb1, hf⟩
  clear hI hf
  unfold tvH
  go_wp2_with fail
  go_ret
  exact R1.mk rfl (bnext hb1 (one_alloc _ _))
end Go.Proofs.Ytnppgocedokioaa
