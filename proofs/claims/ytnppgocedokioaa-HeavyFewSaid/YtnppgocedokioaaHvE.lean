/- What Count of package heavy tells, and the tally of keys that come one by one. Conditions: rows lie in their cells. -/
import Derived.Test.YtnppgocedokioaaHvD
namespace Go.Proofs.Ytnppgocedokioaa
open Go.RowKit

theorem HvL.none {w : World} {A : Option Addr} {c n : Nat} {L : List Cn} (h : HvL w A c L) (hn : L.length = n) : A = none → n = 0 ∧ c = 0 := fun e => by
  have h1 := h.2.2.1 e
  have h2 := h.1
  omega
theorem add_any (K N Off : Int) (A : Option Addr) (n c : Nat) (L : List Cn) (hn : L.length = n) (hok : OkHv ⟨K, L, N, Off⟩) (key : ByteArray) (w : World) (h : HvL w A c L) :
    Calls Try.prog 34 #[.agg #[.int .i64 K, .slice A n c, .int .i64 N, .int .i64 Off], .string key] w (RV (HvF (addH ⟨K, L, N, Off⟩ key) w)) := by
  unfold addH
  by_cases hb : 40 < key.size ∨ N = 1000000000
  · rw [if_pos hb]
    exact addBad_any K N Off A n c L hn hok key hb w h.2.2.2
  · rw [if_neg hb]
    exact addGood_any K N Off A n c L hn hok key hb w (h.none hn) h.2.2.2

set_option maxRecDepth 1000000 in
set_option maxHeartbeats 4000000 in
theorem count_any (K N Off : Int) (A : Option Addr) (n c : Nat) (L : List Cn) (hn : L.length = n) (hok : OkHv ⟨K, L, N, Off⟩) (key : ByteArray) (w : World) (h : HvL w A c L) :
    Calls Try.prog 12 #[.agg #[.int .i64 K, .slice A n c, .int .i64 N, .int .i64 Off], .string key] w
      (R1 (.tuple #[.int .i64 (countH ⟨K, L, N, Off⟩ key).1, .int .i64 (countH ⟨K, L, N, Off⟩ key).2]) (Below w.heap.size w)) := by
  have H1 := Lib.hid (fun (w : World) (h : Has w w.heap.size A (cnCs L)) => hcheck_any K N Off A n c L hn hok w h)
  have HR := Lib.hid hok.rise
  have hK : (n : Int) ≤ 64 := by have := hok.len; have := hok.k2; simp only [] at *; omega
  have Hn := Lib.hid hn
  obtain ⟨z, hz⟩ : ∃ z, countH ⟨K, L, N, Off⟩ key = z := ⟨_, rfl⟩
  rw [hz]
  obtain ⟨z1, z2⟩ := z
  simp only []
  unfold countH at hz
  simp only [] at hz
  have h := h.2.2.2
  clear hok hn
  have hb0 := one_alloc w (.cells #[.int .i64 K, .slice A n c, .int .i64 N, .int .i64 Off] 26)
  have kS0 : Blk (w.alloc (.cells #[.int .i64 K, .slice A n c, .int .i64 N, .int .i64 Off] 26)) w.heap.size 26 #[.int .i64 K, .slice A n c, .int .i64 N, .int .i64 Off] := Blk.new w _ _
  by_cases hk : 40 < key.size
  · rw [if_pos hk] at hz
    injection hz with e1 e2
    subst e1 e2
    have hk' : (40 : Int) < (key.size : Int) := by omega
    go_enter Try.func12, Try.ntmps12
    go_wp2_with fail
    refine (H1.out _ (by exact h.next hb0)).mono ?_
    rintro e w1 ⟨rfl, hb1⟩
    go_wp2_with fail
    go_ret2
    exact R1.mk rfl (bnext hb0 hb1)
  · rw [if_neg hk] at hz
    injection hz with e1 e2
    subst e2
    have E1 := Lib.hid e1
    clear e1
    have hk' : ¬ ((40 : Int) < (key.size : Int)) := by omega
    go_enter Try.func12, Try.ntmps12
    go_wp2_with fail
    refine (H1.out _ (by exact h.next hb0)).mono ?_
    rintro e w1 ⟨rfl, hb1⟩
    have kS1 := kS0.next hb1
    have hb01 := bnext hb0 hb1
    have y1 : w1.cell? ⟨w.heap.size, 1, none⟩ = some (.slice A n c) := kS1.cell 1
    go_wp2_with fail
    refine (findH_any A n c L Hn.out (by omega) HR.out key _ (by exact h.next hb01)).mono ?_
    rintro e w2 ⟨v, rfl, ⟨i, rfl, hp⟩, hb2⟩
    have kS2 := kS1.next hb2
    have hb02 := bnext hb01 hb2
    have Hp := Lib.hid hp
    clear hp y1
    by_cases hh : hasH L key
    · rw [decide_eq_true hh]
      obtain ⟨hi, hik⟩ := (Hp.out.mem HR.out).1 hh
      obtain ⟨ad, rfl, had, c0, c1⟩ := (h.next hb02).cnAt hi
      have e3 := lookH_some HR.out (at_mem hi)
      rw [hik, E1.out] at e3
      rw [← e3] at c1
      rw [Hn.out] at hi
      have y1 : w2.cell? ⟨w.heap.size, 1, none⟩ = some (.slice (some ad) n c) := kS2.cell 1
      clear e3 hik hh c0
      go_wp2_with fail
      go_ret2
      exact R1.mk rfl hb02
    · rw [decide_eq_false hh]
      rw [lookH_none hh] at E1
      have e4 := E1.out
      subst e4
      clear hh
      go_wp2_with fail
      go_ret2
      exact R1.mk rfl hb02
/-- a row that is not empty lies in another block -/
def HvN (b : Nat) (A : Option Addr) (L : List Cn) : Prop := L ≠ [] → ∀ ad, A = some ad → ad.block ≠ b
theorem HvL.far {w : World} {A : Option Addr} {c : Nat} {L : List Cn} (h : HvL w A c L) (p : Addr) (u : Value) (hA : HvN p.block A L) : HvL (w.setCell p u) A c L := by
  refine ⟨h.1, h.2.1, h.2.2.1, ?_⟩
  rw [World.size_setCell]
  by_cases e : L = []
  · subst e; exact Has.nil _ _ _
  · exact h.2.2.2.far p u (hA e)
theorem HvN.fresh {b B : Nat} {A : Option Addr} {L : List Cn} (h : ∀ ad, A = some ad → B ≤ ad.block) (hb : b < B) : HvN b A L := fun _ ad e => by have := h ad e; omega
/-- a tally and whether it went well -/
def TaP (r : Hv × Int) (w : World) (v : Value) (w' : World) : Prop :=
  ∃ A c, v = .tuple #[tvH r.1 A c, .bool (decide (r.2 = 0))] ∧ HvL w' A c r.1.L ∧ Below w.heap.size w w'
theorem strCs_at' {l : List ByteArray} {k : Nat} (h : k < l.length) : (strCs l)[k]? = some (.string (at_ l k)) := by
  have := flat_at (f := strC) (C := 1) (fun _ => rfl) h (r := 0) (by decide)
  rw [Nat.mul_one, Nat.add_zero] at this
  exact this
theorem tal_step0 {K : Int} {l : List ByteArray} {k : Nat} {s : Hv} (h : talH K l k = (s, 0)) : talH K l (k + 1) = addH s (at_ l k) := by
  rw [talH, h, if_pos rfl]
theorem tal_step1 {K : Int} {l : List ByteArray} {k : Nat} {s : Hv} {e : Int} (h : talH K l k = (s, e)) (he : e ≠ 0) : talH K l (k + 1) = (s, e) := by
  rw [talH, h, if_neg he]

set_option maxRecDepth 1000000 in
set_option maxHeartbeats 8000000 in
theorem tallied_any (K : Int) (B : Option Addr) (n c : Nat) (l : List ByteArray) (hn : l.length = n) (hl : n ≤ 17592186044416) (w : World) (h : Has w w.heap.size B (strCs l)) :
    Calls Try.prog 10 #[.int .i64 K, .slice B n c] w (RV (TaP (talH K l n) w)) := by
  have Hn := Lib.hid hn; clear hn
  have hb1 := one_alloc w (.cells #[.int .i64 0, .slice none 0 0, .int .i64 0, .int .i64 0] 26)
  have kR : Blk (w.alloc (.cells #[.int .i64 0, .slice none 0 0, .int .i64 0, .int .i64 0] 26)) w.heap.size 26 #[.int .i64 0, .slice none 0 0, .int .i64 0, .int .i64 0] := Blk.new _ _ _
  have hs1 : (w.alloc (.cells #[.int .i64 0, .slice none 0 0, .int .i64 0, .int .i64 0] 26)).heap.size = w.heap.size + 1 := World.size_alloc _ _
  obtain ⟨r0, hr0⟩ : ∃ r, talH K l 0 = r := ⟨_, rfl⟩
  have hr0' : emptyH K = r0 := hr0
  have HE := Lib.hid (fun w => emptyH_any K w)
  rw [hr0'] at HE
  obtain ⟨⟨K0, L0, N0, O0⟩, e0⟩ := r0
  have Hr0 := Lib.hid hr0
  clear hr0 hr0'
  go_enter Try.func10, Try.ntmps10
  go_wp2_with fail
  refine (HE.out _).mono ?_
  rintro e w2 ⟨v, rfl, A2, c2, rfl, hI, hb2', hfr⟩
  unfold tvH
  simp only [] at hI ⊢
  obtain ⟨m0, hm0⟩ : ∃ m, L0.length = m := ⟨_, rfl⟩
  rw [hm0]
  have hb2 := bnext hb1 hb2'
  have hs2 := hb2'.size
  have hlt0 := kR.lt
  have kR2 := kR.next hb2'
  have kR3 := kR2.next (one_alloc w2 (.cells #[.int .i64 K0, .slice A2 m0 c2, .int .i64 N0, .int .i64 O0] 26))
  have kB3 : Blk (w2.alloc (.cells #[.int .i64 K0, .slice A2 m0 c2, .int .i64 N0, .int .i64 O0] 26)) w2.heap.size 26 #[.int .i64 K0, .slice A2 m0 c2, .int .i64 N0, .int .i64 O0] := Blk.new _ _ _
  have hb3 := bnext hb2 (one_alloc w2 (.cells #[.int .i64 K0, .slice A2 m0 c2, .int .i64 N0, .int .i64 O0] 26))
  have hI3 := hI.next (one_alloc w2 (.cells #[.int .i64 K0, .slice A2 m0 c2, .int .i64 N0, .int .i64 O0] 26))
  have hz : L0 = [] := by
    have h1 := Hr0.out
    unfold talH emptyH at h1
    split at h1 <;> (injection h1 with h1 _; injection h1 with _ h1 _ _; exact h1.symm)
  have hN : ∀ b, HvN b A2 L0 := fun b h => absurd hz h
  have Hm0 := Lib.hid hm0
  clear hz hm0
  go_wp2_with fail
  obtain ⟨w3, hw3⟩ : ∃ w3, w2.alloc (.cells #[.int .i64 K0, .slice A2 m0 c2, .int .i64 N0, .int .i64 O0] 26) = w3 := ⟨_, rfl⟩
  rw [hw3] at kR3 kB3 hb3 hI3 ⊢
  clear hw3
  obtain ⟨b6, hb6⟩ : ∃ b6, w2.heap.size = b6 := ⟨_, rfl⟩
  rw [hb6] at kB3 hs2 ⊢
  have hb60 : ¬ (b6 = w.heap.size) := by omega
  have hb61 : ¬ (w.heap.size = b6) := by omega
  have hbw : w.heap.size < b6 := by omega
  clear hb6 kR kR2 hb1 hb2 hb2' hI hs2 hs1 hlt0
  go_loopw [7, 17] (fun f i wr => ∃ (k : Nat) (K1 N1 O1 : Int) (L1 : List Cn) (A' : Option Addr) (c' m : Nat) (e1 : Int), k ≤ n ∧ i = .int .i64 (k : Nat) ∧ f = .int .i64 e1 ∧ Hid (talH K l k = (⟨K1, L1, N1, O1⟩, e1)) ∧ Hid (L1.length = m) ∧ Blk wr w.heap.size 26 #[.int .i64 0, .slice none 0 0, .int .i64 0, .int .i64 0] ∧ Blk wr b6 26 #[.int .i64 K1, .slice A' m c', .int .i64 N1, .int .i64 O1] ∧ HvL wr A' c' L1 ∧ HvN b6 A' L1 ∧ HvN w.heap.size A' L1 ∧ Below w.heap.size w wr) (fun _ i _ => n - (intOf i).toNat)
  case atStart => exact ⟨0, K0, N0, O0, L0, A2, c2, m0, e0, by omega, rfl, rfl, Hr0, Hm0, kR3, kB3, hI3, hN _, hN _, hb3⟩
  case round =>
    clear kR3 kB3 hb3 hI3 hN hfr
    obtain ⟨k, K1, N1, O1, L1, A', c', m, e1, hkn, rfl, rfl, htal, hm, kRr, kBr, hIr, hNb, hNr, hbr⟩ := hrel
    have q0 : wr.cell? ⟨b6, 0, none⟩ = some (.int .i64 K1) := kBr.cell 0
    have q1 : wr.cell? ⟨b6, 1, none⟩ = some (.slice A' m c') := kBr.cell 1
    have q2 : wr.cell? ⟨b6, 2, none⟩ = some (.int .i64 N1) := kBr.cell 2
    have q3 : wr.cell? ⟨b6, 3, none⟩ = some (.int .i64 O1) := kBr.cell 3
    by_cases hlt : (k : Int) < (n : Int)
    · have hkl : k < l.length := by rw [Hn.out]; omega
      obtain ⟨ad, rfl, _, c1⟩ := (h.next hbr).at (strCs_at' hkl)
      by_cases hz : e1 = 0
      · subst hz
        have hstep := tal_step0 htal.out
        have hok : OkHv ⟨K1, L1, N1, O1⟩ := by
          have := (tal_ok (k := k) (K := K) (l := l) (by rw [htal.out])).1
          rw [htal.out] at this
          exact this
        obtain ⟨x, hx⟩ : ∃ x, at_ l k = x := ⟨_, rfl⟩
        rw [hx] at hstep c1
        have hadd := add_any K1 N1 O1 A' m c' L1 hm.out hok x wr hIr
        rw [← hstep] at hadd
        obtain ⟨r2, hr2⟩ : ∃ r, talH K l (k + 1) = r := ⟨_, rfl⟩
        rw [hr2] at hadd
        obtain ⟨⟨K2, L2, N2, O2⟩, e2⟩ := r2
        have HA := Lib.hid hadd
        have Hr2 := Lib.hid hr2
        have hltb := kBr.lt
        have hltr := kRr.lt
        clear hadd hx hstep hok hr2
        go_wp2_with fail
        refine HA.out.mono ?_
        rintro e w8 ⟨v, rfl, A6, c6, rfl, hI6, hb8, hfr8⟩
        unfold tvH
        simp only [] at hI6 ⊢
        obtain ⟨m2, hm2⟩ : ∃ m2, L2.length = m2 := ⟨_, rfl⟩
        rw [hm2]
        have Hm2 := Lib.hid hm2
        have kB8 := kBr.next hb8
        have kR8 := kRr.next hb8
        have hN6 : HvN b6 A6 L2 := HvN.fresh hfr8 hltb
        have hNr6 : HvN w.heap.size A6 L2 := HvN.fresh hfr8 hltr
        have hb08 := bnext hbr hb8
        clear q0 q1 q2 q3 hm2
        have q0 : w8.cell? ⟨b6, 0, none⟩ = some (.int .i64 K1) := kB8.cell 0
        have q1 : w8.cell? ⟨b6, 1, none⟩ = some (.slice A' m c') := kB8.cell 1
        have q2 : w8.cell? ⟨b6, 2, none⟩ = some (.int .i64 N1) := kB8.cell 2
        have q3 : w8.cell? ⟨b6, 3, none⟩ = some (.int .i64 O1) := kB8.cell 3
        have f0 := kB8.frozen 0
        have f1 := kB8.frozen 1
        have f2 := kB8.frozen 2
        have f3 := kB8.frozen 3
        go_wp2_with fail
        go_roundw
        case rel =>
          refine ⟨k + 1, K2, N2, O2, L2, A6, c6, m2, e2, by omega, by go_num, rfl, Hr2, Hm2, (((kR8.far ⟨b6, 0, none⟩ _ hb60).far ⟨b6, 1, none⟩ _ hb60).far ⟨b6, 2, none⟩ _ hb60).far ⟨b6, 3, none⟩ _ hb60, ?_, (((hI6.far ⟨b6, 0, none⟩ _ hN6).far ⟨b6, 1, none⟩ _ hN6).far ⟨b6, 2, none⟩ _ hN6).far ⟨b6, 3, none⟩ _ hN6, hN6, hNr6, (((hb08.setCell (by show w.heap.size ≤ b6; omega) _).setCell (by show w.heap.size ≤ b6; omega) _).setCell (by show w.heap.size ≤ b6; omega) _).setCell (by show w.heap.size ≤ b6; omega) _⟩
          exact (((kB8.set 0 (.int .i64 K2)).set 1 (.slice A6 m2 c6)).set 2 (.int .i64 N2)).set 3 (.int .i64 O2)
        case measure => simp [intOf]; omega
      · have hne : (e1 == 0) = false := by rw [beq_eq_false_iff_ne]; exact hz
        have hstep := Lib.hid (tal_step1 htal.out hz)
        clear hz
        go_wp2_with fail
        go_roundw
        case rel => exact ⟨k + 1, K1, N1, O1, L1, A', c', m, e1, by omega, by go_num, rfl, hstep, hm, kRr, kBr, hIr, hNb, hNr, hbr⟩
        case measure => simp [intOf]; omega
    · have hkl : k = n := by omega
      subst hkl
      have p0 : wr.cell? ⟨w.heap.size, 0, none⟩ = some (.int .i64 0) := kRr.cell 0
      have p1 : wr.cell? ⟨w.heap.size, 1, none⟩ = some (.slice none 0 0) := kRr.cell 1
      have p2 : wr.cell? ⟨w.heap.size, 2, none⟩ = some (.int .i64 0) := kRr.cell 2
      have p3 : wr.cell? ⟨w.heap.size, 3, none⟩ = some (.int .i64 0) := kRr.cell 3
      have f0 := kRr.frozen 0
      have f1 := kRr.frozen 1
      have f2 := kRr.frozen 2
      have f3 := kRr.frozen 3
      have hd : (e1 == 0) = decide (e1 = 0) := rfl
      obtain ⟨b, hb⟩ : ∃ b, (e1 == 0) = b := ⟨_, rfl⟩
      have Hb := Lib.hid (hd.symm.trans hb)
      clear hd
      go_wp2_with fail
      refine bodyPost_ret (v := .tuple #[.agg #[.int .i64 K1, .slice A' m c', .int .i64 N1, .int .i64 O1], .bool b]) (by simp [results, Try.results10, go_sem, *]) rfl (RV.mk ?_)
      rw [htal.out]
      exact ⟨A', c', by rw [← Hb.out]; unfold tvH; rw [← hm.out], (((hIr.far ⟨w.heap.size, 0, none⟩ _ hNr).far ⟨w.heap.size, 1, none⟩ _ hNr).far ⟨w.heap.size, 2, none⟩ _ hNr).far ⟨w.heap.size, 3, none⟩ _ hNr, (((hbr.setCell (by simp) _).setCell (by simp) _).setCell (by simp) _).setCell (by simp) _⟩
end Go.Proofs.Ytnppgocedokioaa
