/- IndexFilter: those that are found are just those that fit. Conditions: what comes in lies in its cells. -/
import Derived.Test.YtmfndpkhcejffaaIxFind
import Derived.Test.YtmfndpkhcejffaaIdxN
import Derived.Test.YtmfndpkhcejffaaSortedN
import Derived.Deep.RegionHeldLaw
namespace Go.Proofs.Ytmfndpkhcejffaa
open Go.RowKit

theorem up_sorted {l : List Int} (h : UpI l) : srt l = true := by
  rw [srt_true]
  intro q hq
  rw [at_eq (by omega), at_eq hq]
  have := List.pairwise_iff_getElem.1 h q (q + 1) (by omega) hq (by omega)
  omega
set_option maxRecDepth 1000000 in
set_option maxHeartbeats 8000000 in
theorem indexFilter_any (w : World) (A : Option Addr) (c : Nat) (l : List LbsE) (ho : ∀ e ∈ l, e.ok w) (_hlc : l.length ≤ c) (hcm : c ≤ maxLen) (_hA : A = none → c = 0) (h : Has w w.heap.size A (lbsCs l)) (_hr : l.length * 24 ≤ 140737488351232)
    (B : Option Addr) (d : Nat) (M : List Mt) (hM : ∀ e ∈ M, MtOk e) (hmd : M.length ≤ d) (hdm : d ≤ maxLen) (_hB : B = none → d = 0) (h' : Has w w.heap.size B (mtCs M)) (_hr' : M.length * 40 ≤ 140737488351232) (hlen : LenAt w) :
    Calls Try.prog 5 #[.slice A l.length c, .slice B M.length d] w (R1 (.bool true) (Below w.heap.size w)) := by
  obtain ⟨m, hm⟩ : ∃ m, M.length = m := ⟨_, rfl⟩
  have hml : m ≤ maxLen := by omega
  have HX := Lib.hid (fun w => indexes_true w)
  have HNew := Lib.hid (fun (w' : World) (hb : Below w.heap.size w w') => inew_any A c l w' (by omega) (fun e he => (ho e he).next hb) (h.next hb))
  obtain ⟨n, hn⟩ : ∃ n, l.length = n := ⟨_, rfl⟩
  obtain ⟨L, hL⟩ : ∃ L, l.map (·.l) = L := ⟨_, rfl⟩
  have hLn : L.length = n := by rw [← hL, List.length_map, hn]
  have hLat : ∀ k, k < n → at_ L k = (at_ l k).l := fun k hk => by
    subst hL; rw [at_eq (by rw [List.length_map]; omega), List.getElem_map, at_eq (by omega)]
  rw [hn, hL] at HNew
  rw [hn, hm]
  have Hm := Lib.hid hm
  have Hn := Lib.hid hn
  have HLn := Lib.hid hLn
  have HLat := Lib.hid hLat
  have Hh := Lib.hid h
  have Hh' := Lib.hid h'
  have Ho := Lib.hid ho
  have HM := Lib.hid hM
  have Hlen := Lib.hid hlen
  have hnl : n ≤ maxLen := by omega
  clear hn hL hLn hLat h h' ho hM hlen hm
  unfold maxLen at hnl
  go_enter Try.func5, Try.ntmps5
  go_wp2_with fail
  refine (HX.out w).mono ?_
  rintro e w1 ⟨rfl, hb1⟩
  go_wp2_with fail
  refine (HNew.out w1 hb1).mono ?_
  rintro e w2 ⟨v, rfl, hN⟩
  rcases hN with ⟨hne, rfl, hb2⟩ | ⟨h0, g, b, A5, c5, vs, es, clock, kvs, rfl, hI⟩
  · have f1 : (newN L != 0) = true := bne_iff_ne.2 hne
    have hb02 := bnext hb1 hb2
    obtain ⟨r, hr⟩ : ∃ r, newN L = r := ⟨_, rfl⟩
    rw [hr] at f1 ⊢
    clear hne hr
    go_wp2_with fail
    go_ret
    exact R1.mk rfl hb02
  · obtain ⟨h200, hchk⟩ := newN_ok h0
    have hb02 := hb1.trans (hI.bel.mono hb1.size)
    rw [HLn.out] at h200
    have HF := Lib.hid (ifind_any w1 w2 w1.heap.size g b L A5 c5 vs es clock kvs hI hchk (by rw [HLn.out]; exact h200) (Hlen.out.next hb02) B m d M Hm.out hml HM.out (Hh'.out.next hb02))
    have Hchk := Lib.hid hchk
    clear hI h0 hchk
    go_wp2_with fail
    refine HF.out.mono ?_
    rintro e w3 ⟨v, rfl, A3, n3, c3, rfl, hown3, hb3⟩
    have hb03 := bnext hb02 hb3
    by_cases hcM : chkM M = 0
    · have E := Lib.hid (show findN L M = (fndI L M, 0) by unfold findN; rw [if_neg (by simpa using hcM)])
      rw [E.out] at hown3 ⊢
      have hR3 := Has.of_own hown3
      have hn3 : (fndI L M).length = n3 := by have h1 := hown3.1; rw [i64s_len, Nat.mul_one] at h1; exact h1
      have hn3' : n3 ≤ n := by rw [← hn3, ← HLn.out]; exact fndI_len L M
      have hmem : ∀ k, k < n → hasN (k : Int) (fndI L M) = fitsL (at_ L k) M := fun k hk => by
        have h0 := Hchk.out _ (at_mem (l := L) (k := k) (by rw [HLn.out]; exact hk))
        rw [Bool.eq_iff_iff, hasN_iff, fndI_mem, Int.toNat_natCast]
        unfold fitsL
        simp only [Bool.and_eq_true, decide_eq_true_eq, h0, hcM, true_and, and_true, List.all_eq_true]
        constructor
        · exact fun h => h.2
        · exact fun h => ⟨⟨by omega, by rw [HLn.out]; omega⟩, h⟩
      have hfe : ∀ k, k < n → fitsE (at_ L k) M = 0 := fun k hk => by
        have h0 := Hchk.out _ (at_mem (l := L) (k := k) (by rw [HLn.out]; exact hk))
        unfold fitsE
        rw [h0, hcM]; rfl
      have hup := up_sorted (fndI_up L M)
      obtain ⟨X, hX⟩ : ∃ X, fndI L M = X := ⟨_, rfl⟩
      rw [hX] at hR3 hn3 hmem hup
      have Hmem := Lib.hid hmem
      have Hfe := Lib.hid hfe
      have Hup := Lib.hid hup
      have Hn3 := Lib.hid hn3
      have HR3 := Lib.hid hR3
      clear hown3 hmem hfe hup hX hcM E hn3 hR3
      go_wp2_with fail
      go_loopw [45] (fun u W => ∃ k : Nat, k ≤ n ∧ u = .int .i64 (k : Nat) ∧ Below w3.heap.size w3 W) (fun u _ => n - (intOf u).toNat)
      case atStart => exact ⟨0, Nat.zero_le _, rfl, Below.refl _ _⟩
      case round =>
        obtain ⟨k, hk, rfl, hbr⟩ := hrel
        have hb0r := bnext hb03 hbr
        by_cases hlt : (k : Int) < (n : Int)
        · have hkn : k < n := by omega
          obtain ⟨ad, rfl, _, hc0⟩ := (Hh.out.next hb0r).at (lbsCs_at (k := k) (by rw [Hn.out]; omega))
          have hxk := Ho.out (at_ l k) (at_mem (by rw [Hn.out]; omega))
          have hm1 := Hmem.out k hkn
          have hf1 := Hfe.out k hkn
          rw [HLat.out k hkn] at hm1 hf1
          obtain ⟨x, hxe⟩ : ∃ x, at_ l k = x := ⟨_, rfl⟩
          rw [hxe] at hxk hc0 hm1 hf1
          obtain ⟨xA, xc, xl⟩ := x
          simp only [] at hc0 hm1 hf1
          obtain ⟨p, hp⟩ : ∃ p, xl.length = p := ⟨_, rfl⟩
          rw [hp] at hc0
          obtain ⟨x1, x2, x3, x4, x5⟩ := hxk
          simp only [] at x1 x2 x3 x4 x5
          have hFt := lfits_any xA B p m xc d xl M hp Hm.out (by omega) hml wr (Hlen.out.next hb0r) (x5.next hb0r) (Hh'.out.next hb0r) x1 HM.out
          rw [hf1] at hFt
          obtain ⟨t, ht⟩ : ∃ t, fitsL xl M = t := ⟨_, rfl⟩
          rw [ht] at hFt hm1
          have HFt := Lib.hid hFt
          have HCo := Lib.hid (fun (W : World) (hb : Below w3.heap.size w3 W) => containsN_any A3 n3 c3 X Hn3.out (by omega) (k : Int) W (HR3.out.next hb))
          rw [hm1] at HCo
          clear hxe hm1 hf1 hp x1 x2 x3 x4 x5 hFt ht
          go_wp2_with fail
          refine HFt.out.mono ?_
          rintro e w5 ⟨rfl, hb5⟩
          have hb35 := bnext hbr hb5
          go_wp2_with fail
          refine (HCo.out w5 hb35).mono ?_
          rintro e w6 ⟨rfl, hw⟩
          rw [hw]
          cases t
          all_goals
            go_wp2_with fail
            go_roundw
            case rel => exact ⟨k + 1, by omega, by go_num, hb35⟩
            case measure => simp [intOf]; omega
        · have HS := Lib.hid (isSortedN_any A3 n3 c3 X Hn3.out (by unfold maxLen; omega) wr (HR3.out.next hbr))
          rw [Hup.out] at HS
          have hle : (n3 : Int) ≤ (n : Int) := by omega
          go_wp2_with fail
          refine HS.out.mono ?_
          rintro e w5 ⟨rfl, hd5⟩
          have hb05 := bnext hb0r (drawn_below hd5)
          clear hd5
          go_wp2_with fail
          go_ret
          exact R1.mk rfl hb05
    · have E := Lib.hid (show findN L M = ([], chkM M) by unfold findN; rw [if_pos hcM])
      rw [E.out] at hown3 ⊢
      have hn3 : n3 = 0 := by have h1 := hown3.1; rw [i64s_len, Nat.mul_one] at h1; exact h1.symm
      obtain ⟨r, hr⟩ : ∃ r, chkM M = r := ⟨_, rfl⟩
      rw [hr] at hcM ⊢
      have f1 : (r != 0) = true := bne_iff_ne.2 hcM
      subst hn3
      clear hcM hr hown3 E
      go_wp2_with fail
      go_ret
      exact R1.mk rfl hb03
end Go.Proofs.Ytmfndpkhcejffaa
