/- IndexValues: each value of a name is found, and stands once, rising. Conditions: what comes in lies in its cells. -/
import Derived.Test.YtmfndpkhcejffaaIxValL
namespace Go.Proofs.Ytmfndpkhcejffaa
open Go.RowKit Go.Sort

theorem strCs_get {l : List ByteArray} {k : Nat} (h : k < l.length) : (strCs l)[k]? = some (.string (at_ l k)) := by
  have := flat_at (f := strC) (C := 1) (fun _ => rfl) h (r := 0) (by decide)
  rw [Nat.mul_one, Nat.add_zero] at this
  exact this
set_option maxRecDepth 1000000 in
set_option maxHeartbeats 8000000 in
theorem indexValues_any (w : World) (A : Option Addr) (c : Nat) (l : List LbsE) (ho : ∀ e ∈ l, e.ok w) (_hlc : l.length ≤ c) (hcm : c ≤ maxLen) (_hA : A = none → c = 0) (h : Has w w.heap.size A (lbsCs l)) (_hr : l.length * 24 ≤ 140737488351232)
    (name : ByteArray) (hname : name.size ≤ maxLen) (hlen : LenAt w) :
    Calls Try.prog 4 #[.slice A l.length c, .string name] w (R1 (.bool true) (Below w.heap.size w)) := by
  have HX := Lib.hid (fun w => indexes_true w)
  have HNew := Lib.hid (fun (w' : World) (hb : Below w.heap.size w w') => inew_any A c l w' (by omega) (fun e he => (ho e he).next hb) (h.next hb))
  obtain ⟨n, hn⟩ : ∃ n, l.length = n := ⟨_, rfl⟩
  obtain ⟨L, hL⟩ : ∃ L, l.map (·.l) = L := ⟨_, rfl⟩
  rw [hn, hL] at HNew
  rw [hn]
  have Hlen := Lib.hid hlen
  have Hname := Lib.hid hname
  clear hn hL h ho hlen hname
  go_enter Try.func4, Try.ntmps4
  go_wp2_with fail
  refine (HX.out w).mono ?_
  rintro e w1 ⟨rfl, hb1⟩
  go_wp2_with fail
  refine (HNew.out w1 hb1).mono ?_
  rintro e w2 ⟨v, rfl, hN⟩
  rcases hN with ⟨hne, rfl, hb2⟩ | ⟨h0, g, b, A5, c5, vs, es, clock, kvs, rfl, hI⟩
  · have f1 : (newN L != 0) = true := bne_iff_ne.2 hne
    have hb02 := bnext hb1 hb2
    obtain ⟨r, hr⟩ : ∃ r, newN L = r := ⟨_, rfl⟩
    rw [hr] at f1 ⊢
    clear hne hr
    go_wp2_with fail
    go_ret
    exact R1.mk rfl hb02
  · obtain ⟨h200, hchk⟩ := newN_ok h0
    have hb02 := hb1.trans (hI.bel.mono hb1.size)
    have hDl : (ixD L 0 []).length ≤ 3000 := by
      have := ixD_len L 0 [] hchk
      simp only [List.length_nil] at this
      omega
    have HV := Lib.hid (ivalues_any w1 w2 w1.heap.size g b L (ixD L 0 []) A5 c5 vs es clock kvs hI hDl name)
    have HF := Lib.hid (fun (w' : World) (hb : Below w2.heap.size w2 w') (q : Nat) (x : ByteArray) (hx : x.size ≤ 40) (hq : Has w' w'.heap.size (some ⟨q, 0, none⟩) (mtCs [⟨1, name, x⟩])) => ifind_any w1 w' w1.heap.size g b L A5 c5 vs es clock kvs (hI.next hb) hchk h200 (Hlen.out.next (bnext hb02 hb)) (some ⟨q, 0, none⟩) 1 1 [⟨1, name, x⟩] rfl (by unfold maxLen; omega) (fun e he => by rw [List.mem_singleton.1 he]; exact ⟨show in64 1 from ⟨by omega, by omega⟩, Hname.out, show x.size ≤ maxLen by unfold maxLen; omega⟩) hq)
    have Hchk := Lib.hid hchk
    clear hI h0 hchk hDl
    go_wp2_with fail
    refine HV.out.mono ?_
    rintro e w3 ⟨v, rfl, A3, n3, c3, ys, rfl, hys, hn3, hown3, hb3⟩
    have hb03 := bnext hb02 hb3
    rw [srtV_cells] at hown3
    have hnd : ys.Nodup := hys.nodup_iff.2 (ixD_nodup L 0 (by simp))
    have hup := srtV_up (name := name) hnd
    have hlV := srtV_len name ys
    rw [hn3] at hlV
    have hmem : ∀ x ∈ srtV name ys, chkM [⟨1, name, x⟩] = 0 ∧ fndI L [⟨1, name, x⟩] ≠ [] ∧ x.size ≤ 40 := fun x hx => val_found Hchk.out (hys.mem_iff.1 (srtV_mem hx))
    obtain ⟨V, hVe⟩ : ∃ V, srtV name ys = V := ⟨_, rfl⟩
    rw [hVe] at hown3 hup hlV hmem
    have hn9 : n3 ≤ 3000 := by
      have h2 := hys.length_eq
      have h3 : (valsOf name ys).length ≤ ys.length := by unfold valsOf; rw [List.length_map]; exact List.length_filter_le _ _
      have h4 := ixD_len L 0 [] Hchk.out
      rw [List.length_map] at h2
      simp only [List.length_nil] at h4
      have h5 := h200
      omega
    have HR3 := Lib.hid (Has.of_own hown3)
    have Hup := Lib.hid hup
    have HlV := Lib.hid hlV
    have Hmem := Lib.hid hmem
    have HB3 := Lib.hid hb3
    clear hown3 hup hlV hmem hVe hnd hys hn3 HV
    go_wp2_with fail
    go_loopw [36] (fun u W => ∃ k : Nat, k ≤ n3 ∧ u = .int .i64 (k : Nat) ∧ Below w3.heap.size w3 W) (fun u _ => n3 - (intOf u).toNat)
    case atStart => exact ⟨0, Nat.zero_le _, rfl, Below.refl _ _⟩
    case round =>
      obtain ⟨k, hk, rfl, hbr⟩ := hrel
      have hb0r := bnext hb03 hbr
      by_cases hlt : (k : Int) < (n3 : Int)
      · have hkV : k < V.length := by rw [HlV.out]; omega
        obtain ⟨ad, rfl, _, c0⟩ := (HR3.out.next hbr).at (strCs_get hkV)
        obtain ⟨m1, m2, m3⟩ := Hmem.out _ (at_mem hkV)
        have hprev : ∀ j : Nat, j + 1 = k → ∀ W, Below w3.heap.size w3 W → W.cell? (ad.add j) = some (.string (at_ V j)) ∧ nlt (at_ V j) (at_ V k) := fun j hj W hb => by
          obtain ⟨ad', e1, _, c1⟩ := (HR3.out.next hb).at (strCs_get (show j < V.length by omega))
          injection e1 with e1
          subst e1
          refine ⟨c1, ?_⟩
          rw [at_eq hkV, at_eq (by omega)]
          exact List.pairwise_iff_getElem.1 Hup.out j k (by omega) hkV (by omega)
        obtain ⟨x, hx⟩ : ∃ x, at_ V k = x := ⟨_, rfl⟩
        rw [hx] at c0 m1 m2 m3 hprev
        obtain ⟨W4, hW4⟩ : ∃ W4, wr.alloc (.cells #[.int .i64 1, .string name, .string x] 25) = W4 := ⟨_, rfl⟩
        have hb4 : Below w3.heap.size w3 W4 := by rw [← hW4]; exact bnext hbr (one_allocX _ _)
        have hq : Has W4 W4.heap.size (some ⟨wr.heap.size, 0, none⟩) (mtCs [⟨1, name, x⟩]) := by rw [← hW4]; exact Has.fresh wr #[.int .i64 1, .string name, .string x] _
        have HFx := Lib.hid (HF.out W4 (bnext HB3.out hb4) wr.heap.size x m3 hq)
        have hE : findN L [⟨1, name, x⟩] = (fndI L [⟨1, name, x⟩], 0) := by unfold findN; rw [if_neg (by rw [m1]; simp)]
        rw [hE] at HFx
        have HW4 := Lib.hid hW4
        have HP := Lib.hid hprev
        have M2 := Lib.hid m2
        clear hx m1 m2 m3 hW4 hq hE hprev hkV
        go_wp2_with fail
        rw [HW4.out]
        refine HFx.out.mono ?_
        rintro e w5 ⟨v, rfl, A6, n6, c6, rfl, hown6, hb5⟩
        have hn6 : ((n6 : Int) == 0) = false := by
          have h1 := hown6.1
          simp only [] at h1
          rw [i64s_len, Nat.mul_one] at h1
          rw [beq_eq_false_iff_ne]
          intro e
          exact M2.out (List.eq_nil_of_length_eq_zero (h1.trans (by omega)))
        have hb35 := bnext hb4 hb5
        clear hown6 HFx
        by_cases hk0 : (0 : Int) < (k : Int)
        · obtain ⟨j, hj⟩ : ∃ j : Nat, j + 1 = k := ⟨k - 1, by omega⟩
          obtain ⟨c1, hl1⟩ := HP.out j hj w5 hb35
          obtain ⟨y, hy⟩ : ∃ y, at_ V j = y := ⟨_, rfl⟩
          rw [hy] at c1 hl1
          have f1 := nlt_bytes y x
          have f2 := nlt_bytes x y
          rw [decide_eq_true hl1] at f1
          rw [decide_eq_false (nlt_asymm hl1)] at f2
          have f3 : (y.toList == x.toList) = false := by rw [beq_eq_false_iff_ne]; exact fun e => nlt_ne hl1 (bytes_ext e)
          have f4 : (x.toList == y.toList) = false := by rw [beq_eq_false_iff_ne]; exact fun e => nlt_ne hl1 (bytes_ext e.symm)
          have ez : IntKind.i64.wrap ((k : Int) - 1) = (j : Int) := (IntWalk.i64_in _ (by omega)).trans (by omega)
          have q0 : (0 : Int) ≤ (j : Int) := by omega
          have q1 : (j : Int) < (n3 : Int) := by omega
          have q2 : (1 : Int) ≤ (k : Int) := by omega
          have Hj := Lib.hid hj
          clear hy hl1 hj
          go_wp2_with fail
          go_roundw
          case rel => exact ⟨k + 1, by omega, by go_num, hb35⟩
          case measure => simp [intOf]; omega
        · have hk0' : decide ((0 : Int) < (k : Int)) = false := decide_eq_false hk0
          go_wp2_with fail
          go_roundw
          case rel => exact ⟨k + 1, by omega, by go_num, hb35⟩
          case measure => simp [intOf]; omega
      · go_wp2_with fail
        go_ret
        exact R1.mk rfl hb0r
end Go.Proofs.Ytmfndpkhcejffaa
