/- IndexMore: who asks for more finds what is found for each of both; of two that exclude each other nothing. Conditions: what comes in lies in its cells. -/
import Derived.Test.YtmfndpkhcejffaaIxFind
import Derived.Test.YtmfndpkhcejffaaConcM
import Derived.Test.YtmfndpkhcejffaaGood
import Derived.Deep.RegionHeldLaw
namespace Go.Proofs.Ytmfndpkhcejffaa
open Go.RowKit

theorem IxRows.blocks {W : World} {B : Nat} {kvs : List (Value × Value)} {D : List (Lab × List Int)} (h : IxRows W B kvs D) : ∀ p ∈ kvs, ∀ q, p.2.ownBlock = some q → B ≤ q := by
  induction kvs generalizing D with
  | nil => intro p hp; cases hp
  | cons a kvs ih =>
    cases D with
    | nil => exact h.elim
    | cons d D =>
      obtain ⟨⟨h1, h2, h3⟩, h4, h5⟩ := h
      intro p hp q hq
      rcases List.mem_cons.1 hp with e | e
      · subst e; exact (h2.lt q hq).1
      · exact ih h5 p e q hq
/-- what lies below the index may turn -/
theorem IxSt.rebase {w0 W W' : World} {B g b : Nat} {L : List (List Lab)} {D : List (Lab × List Int)} {A : Option Addr} {c : Nat} {vs : List Value} {es : Array MapEntry} {clock : Nat} {kvs : List (Value × Value)} (h : IxSt w0 W B g b L D A c vs es clock kvs) (hk : ∀ q, B ≤ q → W'.heap[q]? = W.heap[q]?) :
    IxSt W' W' B g b L D A c vs es clock kvs where
  obj := (hk g h.og).trans h.obj
  og := h.og
  all := own_keepB h.all (fun q hq => hk q (h.all.lt q hq).1)
  rows := ⟨h.rows.1, fun j v l h1 h2 => own_keepB (h.rows.2 j v l h1 h2) (fun q hq => hk q ((h.rows.2 j v l h1 h2).lt q hq).1)⟩
  mp := (hk b h.ob).trans h.mp
  ob := h.ob
  shape := h.shape
  have_ := h.have_.keep (fun p hp q hq => hk q (h.have_.blocks p hp q hq))
  bel := Below.refl _ _
theorem fnd_app (M N : List Mt) (L : List (List Lab)) : fndI L (M ++ N) = andI (fndI L M) (fndI L N) := by
  refine up_ext (fndI_up _ _) (andI_up _ _) fun x => ?_
  rw [andI_mem, fndI_mem, fndI_mem, fndI_mem]
  constructor
  · exact fun ⟨h1, h2⟩ => ⟨⟨h1, fun y hy => h2 y (List.mem_append_left _ hy)⟩, ⟨h1, fun y hy => h2 y (List.mem_append_right _ hy)⟩⟩
  · exact fun ⟨⟨h1, h2⟩, ⟨_, h3⟩⟩ => ⟨h1, fun y hy => (List.mem_append.1 hy).elim (h2 y) (h3 y)⟩
theorem fit_not (l : List Lab) (nm v : ByteArray) : fitL l ⟨2, nm, v⟩ = !fitL l ⟨1, nm, v⟩ := by
  unfold fitL
  simp
theorem fnd_not (L : List (List Lab)) (nm v : ByteArray) : fndI L [⟨2, nm, v⟩] = noneI L.length (setI (fndI L [⟨1, nm, v⟩])) := by
  refine up_ext (fndI_up _ _) (noneI_up _ _) fun x => ?_
  rw [noneI_mem, setI_mem, fndI_mem, fndI_mem]
  simp only [List.mem_singleton, forall_eq, fit_not, Bool.not_eq_true']
  constructor
  · exact fun ⟨h1, h2⟩ => ⟨h1, fun h => by rw [h.2] at h2; cases h2⟩
  · exact fun ⟨h1, h2⟩ => ⟨h1, Bool.eq_false_iff.2 fun h => h2 ⟨h1, h⟩⟩
theorem fnd_none (L : List (List Lab)) (nm v : ByteArray) : andI (fndI L [⟨1, nm, v⟩]) (fndI L [⟨2, nm, v⟩]) = [] := by
  refine up_ext (andI_up _ _) List.Pairwise.nil fun x => ?_
  rw [andI_mem, fndI_mem, fndI_mem]
  simp only [List.mem_singleton, forall_eq, fit_not, Bool.not_eq_true', List.not_mem_nil, iff_false]
  rintro ⟨⟨_, h1⟩, ⟨_, h2⟩⟩
  rw [h1] at h2; cases h2
theorem chkM_kind (nm v : ByteArray) : chkM [⟨2, nm, v⟩] = chkM [⟨1, nm, v⟩] := by
  unfold chkM chkMGo mtErr
  simp
theorem findN_two (L : List (List Lab)) (nm v : ByteArray) : (findN L [⟨1, nm, v⟩]).2 = (findN L [⟨2, nm, v⟩]).2 ∧ ((findN L [⟨1, nm, v⟩]).2 = 0 → (findN L [⟨2, nm, v⟩]).1 = noneI L.length (setI (findN L [⟨1, nm, v⟩]).1)) ∧
    ((findN L [⟨1, nm, v⟩]).2 = 0 → andI (findN L [⟨1, nm, v⟩]).1 (findN L [⟨2, nm, v⟩]).1 = []) := by
  unfold findN
  rw [chkM_kind]
  by_cases h : chkM [⟨1, nm, v⟩] = 0
  · rw [if_neg (by simpa using h), if_neg (by simpa using h)]
    exact ⟨rfl, fun _ => fnd_not L nm v, fun _ => fnd_none L nm v⟩
  · rw [if_pos h, if_pos h]
    exact ⟨rfl, fun h2 => absurd h2 h, fun h2 => absurd h2 h⟩
theorem findN_len (L : List (List Lab)) (M : List Mt) : (findN L M).1.length ≤ L.length := by
  unfold findN
  split
  · exact Nat.zero_le _
  · exact fndI_len L M
theorem findN_more {L : List (List Lab)} (_hL : ∀ l ∈ L, chkL l = 0) (M N : List Mt) : (findN L M).2 = 0 → (findN L N).2 = 0 → (findN L (M ++ N)).2 = 0 → (findN L (M ++ N)).1 = andI (findN L M).1 (findN L N).1 := by
  have h0 : ∀ M, (findN L M).2 = 0 → chkM M = 0 ∧ findN L M = (fndI L M, 0) := fun M h => by
    unfold findN at h ⊢
    by_cases hc : chkM M = 0
    · exact ⟨hc, by rw [if_neg (by simpa using hc)]⟩
    · rw [if_pos hc] at h; exact absurd h hc
  intro h1 h2 h3
  rw [(h0 M h1).2, (h0 N h2).2, (h0 _ h3).2]
  exact fnd_app M N L
set_option maxRecDepth 1000000 in
set_option maxHeartbeats 8000000 in
theorem indexMore_any (w : World) (A : Option Addr) (c : Nat) (l : List LbsE) (ho : ∀ e ∈ l, e.ok w) (_hlc : l.length ≤ c) (hcm : c ≤ maxLen) (_hA : A = none → c = 0) (h : Has w w.heap.size A (lbsCs l)) (_hr : l.length * 24 ≤ 140737488351232)
    (B : Option Addr) (d : Nat) (M : List Mt) (hM : ∀ e ∈ M, MtOk e) (hmd : M.length ≤ d) (hdm : d ≤ maxLen) (hB : B = none → d = 0) (h' : Has w w.heap.size B (mtCs M)) (hr' : M.length * 40 ≤ 140737488351232)
    (B2 : Option Addr) (d2 : Nat) (M2 : List Mt) (hM2 : ∀ e ∈ M2, MtOk e) (hmd2 : M2.length ≤ d2) (hdm2 : d2 ≤ maxLen) (hB2 : B2 = none → d2 = 0) (h2 : Has w w.heap.size B2 (mtCs M2)) (hr2 : M2.length * 40 ≤ 140737488351232) (x : Mt) (hx : MtOk x) (hlen : LenAt w) :
    Calls Try.prog 3 #[.slice A l.length c, .slice B M.length d, .slice B2 M2.length d2, .agg #[.int .i64 x.k, .string x.nm, .string x.v]] w (R1 (.bool true) (Below w.heap.size w)) := by
  obtain ⟨m, hm⟩ : ∃ m, M.length = m := ⟨_, rfl⟩
  obtain ⟨m2, hm2⟩ : ∃ m2, M2.length = m2 := ⟨_, rfl⟩
  have hml : m ≤ maxLen := by omega
  have hml2 : m2 ≤ maxLen := by omega
  rw [hm] at hr' hmd
  rw [hm2] at hr2 hmd2
  obtain ⟨qk, nm, v⟩ := x
  simp only []
  have HX := Lib.hid (fun w => indexes_true w)
  have HNew := Lib.hid (fun (w' : World) (hb : Below w.heap.size w w') => inew_any A c l w' (by omega) (fun e he => (ho e he).next hb) (h.next hb))
  have HC := Lib.hid (fun (w' : World) (hb : Below w.heap.size w w') (ad : Addr) (h1 : ad.block < w'.heap.size) (h2' : w'.cell? ad = some (.slice B m d)) (h3 : w'.cell? (ad.add 1) = some (.slice B2 m2 d2)) => concatM_any B m d M B2 m2 d2 M2 hm hm2 (by omega) (by omega) hB hmd hB2 hmd2 w' (h'.next hb) (h2.next hb) ad h1 h2' h3)
  obtain ⟨n, hn⟩ : ∃ n, l.length = n := ⟨_, rfl⟩
  obtain ⟨L, hL⟩ : ∃ L, l.map (·.l) = L := ⟨_, rfl⟩
  have hLn : L.length = n := by rw [← hL, List.length_map, hn]
  rw [hn, hL] at HNew
  rw [hn, hm, hm2]
  obtain ⟨W0, hW0⟩ : ∃ W0, w.alloc (.cells #[.int .i64 qk, .string nm, .string v] 25) = W0 := ⟨_, rfl⟩
  obtain ⟨s, hs⟩ : ∃ s, w.heap.size = s := ⟨_, rfl⟩
  have hb0 : Below w.heap.size w W0 := by rw [← hW0]; exact one_allocX _ _
  have kX0 : Blk W0 s 25 #[.int .i64 qk, .string nm, .string v] := by rw [← hW0, ← hs]; exact Blk.new _ _ _
  have HW0 := Lib.hid hW0
  have Hs := Lib.hid hs
  have Hm := Lib.hid hm
  have Hm2 := Lib.hid hm2
  have HLn := Lib.hid hLn
  have Hh' := Lib.hid h'
  have Hh2 := Lib.hid h2
  have HM := Lib.hid hM
  have HM2 := Lib.hid hM2
  have Hlen := Lib.hid hlen
  have Hx := Lib.hid hx
  have Hgd := Lib.hid (fun (w : World) (e f g : Int) => good_any _ 3 3 [e, f, g] rfl (by simp) _ (Has.fresh w #[.int .i64 e, .int .i64 f, .int .i64 g] 28))
  clear hn hL hLn h h' h2 ho hM hM2 hlen hm hm2 hx hW0 hs
  go_enter Try.func3, Try.ntmps3
  go_wp2_with fail
  rw [HW0.out, Hs.out]
  refine (HX.out W0).mono ?_
  rintro e w1 ⟨rfl, hb1⟩
  have hb01 := bnext hb0 hb1
  have kX1 := kX0.next hb1
  have hsw1 := kX1.lt
  go_wp2_with fail
  refine (HNew.out w1 hb01).mono ?_
  rintro e w2 ⟨v', rfl, hN⟩
  rcases hN with ⟨hne, rfl, hb2⟩ | ⟨h0, g, b, A5, c5, vs, es, clock, kvs, rfl, hI⟩
  · have f1 : (newN L != 0) = true := bne_iff_ne.2 hne
    have hb02 := bnext hb01 hb2
    obtain ⟨r, hr⟩ : ∃ r, newN L = r := ⟨_, rfl⟩
    rw [hr] at f1 ⊢
    clear hne hr
    go_wp2_with fail
    go_ret
    exact R1.mk rfl hb02
  · obtain ⟨h200, hchk⟩ := newN_ok h0
    rw [HLn.out] at h200
    have hb02 := hb01.trans (hI.bel.mono hb01.size)
    have kX2 := (kX1.below hI.bel hsw1)
    have HF := Lib.hid (fun (w' : World) (hb : Below w2.heap.size w2 w') (Q : Option Addr) (m d : Nat) (M : List Mt) (hm : M.length = m) (hml : m ≤ maxLen) (hM : ∀ e ∈ M, MtOk e) (hh : Has w' w'.heap.size Q (mtCs M)) => ifind_any w1 w' w1.heap.size g b L A5 c5 vs es clock kvs (hI.next hb) hchk (by rw [HLn.out]; exact h200) (Hlen.out.next (bnext hb02 hb)) Q m d M hm hml hM hh)
    have HI := Lib.hid hI
    have Hchk := Lib.hid hchk
    clear hI h0 hchk
    have HF2 := Lib.hid (HF.out w2 (Below.refl _ _) B m d M Hm.out hml HM.out (Hh'.out.next hb02))
    go_wp2_with fail
    refine HF2.out.mono ?_
    rintro e w3 ⟨v', rfl, A3, n3, c3, rfl, hown3, hb3⟩
    have hb03 := bnext hb02 hb3
    have HF3 := Lib.hid (HF.out w3 hb3 B2 m2 d2 M2 Hm2.out hml2 HM2.out (Hh2.out.next hb03))
    clear HF2
    go_wp2_with fail
    refine HF3.out.mono ?_
    rintro e w4 ⟨v', rfl, A4, n4, c4, rfl, hown4, hb4⟩
    have hb24 := bnext hb3 hb4
    have hb04 := bnext hb02 hb24
    obtain ⟨W5, hW5⟩ : ∃ W5, w4.alloc (.cells #[.slice B m d, .slice B2 m2 d2] 23) = W5 := ⟨_, rfl⟩
    have hb45 : Below w4.heap.size w4 W5 := by rw [← hW5]; exact one_allocX _ _
    have kS : Blk W5 w4.heap.size 23 #[.slice B m d, .slice B2 m2 d2] := by rw [← hW5]; exact Blk.new _ _ _
    have HC5 := Lib.hid (HC.out W5 (bnext hb04 hb45) ⟨w4.heap.size, 0, none⟩ kS.lt (kS.cell 0) (by
      rw [show (⟨w4.heap.size, 0, none⟩ : Addr).add 1 = ⟨w4.heap.size, 1, none⟩ from rfl]; exact kS.cell 1))
    have HW5 := Lib.hid hW5
    clear HF3 hW5
    go_wp2_with fail
    rw [HW5.out]
    refine HC5.out.mono ?_
    rintro e w6 ⟨v', rfl, A6, c6, rfl, hH6, hb6⟩
    have hb46 := bnext hb45 hb6
    have hb26 := bnext hb24 hb46
    have hb06 := bnext hb02 hb26
    have HF6 := Lib.hid (HF.out w6 hb26 A6 (m + m2) c6 (M ++ M2) (by rw [List.length_append, Hm.out, Hm2.out]) (by unfold maxLen; omega) (fun e he => (List.mem_append.1 he).elim (HM.out e) (HM2.out e)) hH6)
    clear HC5 hH6 kS hb45 hb6
    go_wp2_with fail
    refine HF6.out.mono ?_
    rintro e w7 ⟨v', rfl, A7, n7, c7, rfl, hown7, hb7⟩
    have hb27 := bnext hb26 hb7
    have hb07 := bnext hb02 hb27
    have hb47 : Below w4.heap.size w4 w7 := bnext hb46 hb7
    have hb37 := bnext hb4 hb47
    have hl3 := findN_len L M
    have hl4 := findN_len L M2
    have hg := findN_more Hchk.out M M2
    obtain ⟨X3, e3, hX3⟩ : ∃ X e, findN L M = (X, e) := ⟨_, _, rfl⟩
    obtain ⟨X4, e4, hX4⟩ : ∃ X e, findN L M2 = (X, e) := ⟨_, _, rfl⟩
    obtain ⟨X7, e7, hX7⟩ : ∃ X e, findN L (M ++ M2) = (X, e) := ⟨_, _, rfl⟩
    rw [hX3] at hown3 hl3 hg ⊢
    rw [hX4] at hown4 hl4 hg ⊢
    rw [hX7] at hown7 hg ⊢
    simp only [] at hown3 hown4 hown7 hl3 hl4 hg ⊢
    rw [HLn.out] at hl3 hl4
    have R3 := Lib.hid ((RowN.own hown3).next hb37)
    have R4 := Lib.hid ((RowN.own hown4).next hb47)
    have R7 := Lib.hid (RowN.own hown7)
    have hn3 : n3 ≤ 200 := by have := R3.out.1; omega
    have hn4 : n4 ≤ 200 := by have := R4.out.1; omega
    have hn7 : n7 ≤ maxLen := by have := R7.out.2.1; have := R7.out.2.2.1; omega
    have kX7 := Lib.hid (kX2.next hb27)
    have HG := Lib.hid hg
    have HGd := Lib.hid (Hgd.out w7 e3 e4 e7)
    have hlt7 : s < w7.heap.size := kX7.out.lt
    clear hown3 hown4 hown7 hX3 hX4 hX7 hl3 hl4 hg hb7 hb4 HF6 kX2 kX1 kX0 hb46
    by_cases hgood : e3 = 0 ∧ e4 = 0 ∧ e7 = 0
    · obtain ⟨rfl, rfl, rfl⟩ := hgood
      have hXe := HG.out rfl rfl rfl
      have HA := Lib.hid (fun (w' : World) (hb : Below w7.heap.size w7 w') => and_any A3 n3 c3 X3 A4 n4 c4 X4 (by omega) (by omega) w' (R3.out.next hb) (R4.out.next hb))
      go_wp2_with fail
      refine HGd.out.mono ?_
      rintro e w8 ⟨rfl, hd8⟩
      have hb78 := bnext (one_allocX w7 (.cells #[.int .i64 0, .int .i64 0, .int .i64 0] 28)) (drawn_below hd8)
      clear hd8
      go_wp2_with fail
      refine (HA.out w8 hb78).mono ?_
      rintro e w9 ⟨v', rfl, A9, n9, c9, rfl, R9, hb9⟩
      have hb79 := bnext hb78 hb9
      have HQ := equalN_any A7 A9 n7 n9 c7 c9 X7 (andI X3 X4) R7.out.1 R9.1 hn7 (by have := R9.2.1; have := R9.2.2.1; omega) w9 (R7.out.next hb79).2.2.2.2 R9.2.2.2.2
      rw [decide_eq_true hXe] at HQ
      have HQ := Lib.hid HQ
      clear hXe R9 hb9
      go_wp2_with fail
      refine HQ.out.mono ?_
      rintro e w10 ⟨rfl, hd10⟩
      have hb710 := bnext hb79 (drawn_below hd10)
      clear hd10 hb79 HQ hb78
      have kX10 := kX7.out.next hb710
      have x0 : w10.cell? ⟨s, 0, none⟩ = some (.int .i64 qk) := kX10.cell 0
      have xf : w10.frozen? ⟨s, 0, none⟩ = false := kX10.frozen 0
      have xf1 : w10.frozen? ⟨s, 1, none⟩ = false := kX10.frozen 1
      have x1 : w10.cell? ⟨s, 1, none⟩ = some (.string nm) := kX10.cell 1
      have x2 : w10.cell? ⟨s, 2, none⟩ = some (.string v) := kX10.cell 2
      have hs10 : s < w10.heap.size := kX10.lt
      have hb210 := bnext hb27 hb710
      have hb010 := bnext hb02 hb210
      obtain ⟨W11, hW11⟩ : ∃ W11, w10.setCell ⟨s, 0, none⟩ (.int .i64 1) = W11 := ⟨_, rfl⟩
      have kX11 : Blk W11 s 25 #[.int .i64 1, .string nm, .string v] := by rw [← hW11]; exact kX10.set 0 (.int .i64 1)
      have hI11 : IxSt W11 W11 w1.heap.size g b L (ixD L 0 []) A5 c5 vs es clock kvs := (HI.out.next hb210).rebase (fun q hq => by rw [← hW11]; exact Below.heap_setCell w10 ⟨s, 0, none⟩ _ q (by show q ≠ s; omega))
      have hb011 : Below w.heap.size w W11 := by rw [← hW11]; exact hb010.setCell (p := ⟨s, 0, none⟩) (by show w.heap.size ≤ s; rw [Hs.out]; exact Nat.le_refl _) _
      obtain ⟨z, hz⟩ : ∃ z, w10.heap.size = z := ⟨_, rfl⟩
      have hz11 : W11.heap.size = z := by rw [← hW11, ← hz]; simp [World.setCell]
      obtain ⟨W12, hW12⟩ : ∃ W12, W11.alloc (.cells #[.int .i64 2, .string nm, .string v] 25) = W12 := ⟨_, rfl⟩
      have hb12 : Below W11.heap.size W11 W12 := by rw [← hW12]; exact one_allocX _ _
      have kY12 : Blk W12 z 25 #[.int .i64 2, .string nm, .string v] := by rw [← hW12, ← hz11]; exact Blk.new _ _ _
      have hz12 : W12.heap.size = z + 1 := by rw [← hW12, World.size_alloc, hz11]
      obtain ⟨W13, hW13⟩ : ∃ W13, W12.alloc (.cells #[.int .i64 1, .string nm, .string v] 25) = W13 := ⟨_, rfl⟩
      have hb13 : Below W12.heap.size W12 W13 := by rw [← hW13]; exact one_allocX _ _
      have hb1113 := bnext hb12 hb13
      have hq13 : Has W13 W13.heap.size (some ⟨z + 1, 0, none⟩) (mtCs [⟨1, nm, v⟩]) := by
        rw [← hW13, ← hz12]
        exact Has.fresh W12 #[.int .i64 1, .string nm, .string v] _
      have hokp : ∀ k : Int, k = 1 ∨ k = 2 → ∀ e ∈ [(⟨k, nm, v⟩ : Mt)], MtOk e := fun k hk e he => by
        rw [List.mem_singleton.1 he]
        exact ⟨show in64 k from ⟨by omega, by omega⟩, Hx.out.2.1, Hx.out.2.2⟩
      have HF13 := Lib.hid (ifind_any W11 W13 w1.heap.size g b L A5 c5 vs es clock kvs (hI11.next hb1113) Hchk.out (by rw [HLn.out]; exact h200) (Hlen.out.next (bnext hb011 hb1113)) (some ⟨z + 1, 0, none⟩) 1 1 [⟨1, nm, v⟩] rfl (by unfold maxLen; omega) (hokp 1 (.inl rfl)) hq13)
      have HW11 := Lib.hid hW11
      have HW12 := Lib.hid hW12
      have HW13 := Lib.hid hW13
      have Hz := Lib.hid hz
      have Hz11 := Lib.hid hz11
      have Hz12 := Lib.hid hz12
      have HI11 := Lib.hid hI11
      have Hok := Lib.hid hokp
      have KX11 := Lib.hid kX11
      clear hq13 hW11 hW12 hW13 hz hz11 hz12 hI11 hokp kX11 kX10 hb010 hb210 hlt7
      go_wp2_with fail
      rw [HW11.out, HW12.out, HW13.out, Hz.out]
      refine HF13.out.mono ?_
      rintro e w14 ⟨v', rfl, A14, n14, c14, rfl, hown14, hb14⟩
      have hb1114 := bnext hb1113 hb14
      have kY14 := kY12.next (bnext hb13 hb14)
      have y0 : w14.cell? ⟨z, 0, none⟩ = some (.int .i64 2) := kY14.cell 0
      have y1 : w14.cell? ⟨z, 1, none⟩ = some (.string nm) := kY14.cell 1
      have y2 : w14.cell? ⟨z, 2, none⟩ = some (.string v) := kY14.cell 2
      obtain ⟨W15, hW15⟩ : ∃ W15, w14.alloc (.cells #[.int .i64 2, .string nm, .string v] 25) = W15 := ⟨_, rfl⟩
      have hb15 : Below w14.heap.size w14 W15 := by rw [← hW15]; exact one_allocX _ _
      have hb1115 := bnext hb1114 hb15
      have hq15 : Has W15 W15.heap.size (some ⟨w14.heap.size, 0, none⟩) (mtCs [⟨2, nm, v⟩]) := by
        rw [← hW15]
        exact Has.fresh w14 #[.int .i64 2, .string nm, .string v] _
      have HF15 := Lib.hid (ifind_any W11 W15 w1.heap.size g b L A5 c5 vs es clock kvs (HI11.out.next hb1115) Hchk.out (by rw [HLn.out]; exact h200) (Hlen.out.next (bnext hb011 hb1115)) (some ⟨w14.heap.size, 0, none⟩) 1 1 [⟨2, nm, v⟩] rfl (by unfold maxLen; omega) (Hok.out 2 (.inr rfl)) hq15)
      have HW15 := Lib.hid hW15
      clear HF13 hq15 hW15 kY14 kY12 x0 x1 x2 xf xf1
      go_wp2_with fail
      rw [HW15.out]
      refine HF15.out.mono ?_
      rintro e w16 ⟨v', rfl, A16, n16, c16, rfl, hown16, hb16⟩
      have hb1116 := bnext hb1115 hb16
      have hl14 := findN_len L [⟨1, nm, v⟩]
      have hl16 := findN_len L [⟨2, nm, v⟩]
      have hkk := findN_two L nm v
      obtain ⟨X14, e14, hX14⟩ : ∃ X e, findN L [⟨1, nm, v⟩] = (X, e) := ⟨_, _, rfl⟩
      obtain ⟨X16, e16, hX16⟩ : ∃ X e, findN L [⟨2, nm, v⟩] = (X, e) := ⟨_, _, rfl⟩
      rw [hX14] at hown14 hl14 hkk ⊢
      rw [hX16] at hown16 hl16 hkk ⊢
      simp only [] at hown14 hown16 hl14 hl16 hkk ⊢
      obtain ⟨rfl, hk2, hk3⟩ := hkk
      rw [HLn.out] at hl14 hl16 hk2
      have R14 := Lib.hid ((RowN.own hown14).next (bnext hb15 hb16))
      have R16 := Lib.hid (RowN.own hown16)
      have hn14 : n14 ≤ 200 := by have := R14.out.1; omega
      have hn16 : n16 ≤ 200 := by have := R16.out.1; omega
      have HNo := Lib.hid (not_any (n : Int) A14 n14 c14 X14 (by omega) w16 R14.out)
      have hno : notI (n : Int) X14 = (noneI n (setI X14), 0) := by unfold notI; rw [if_neg (by omega), Int.toNat_natCast]
      rw [hno] at HNo
      have HK2 := Lib.hid hk2
      have HK3 := Lib.hid hk3
      clear hown14 hown16 hX14 hX16 hl14 hl16 hk2 hk3 hno HF15 hb16 hb15
      go_wp2_with fail
      refine HNo.out.mono ?_
      rintro e w17 ⟨v', rfl, A17, n17, c17, rfl, R17, hb17⟩
      have hb1117 := bnext hb1116 hb17
      have hb017 := bnext hb011 hb1117
      have hn17 : n17 ≤ 200 := by
        have h1 := R17.1
        have h2 := noneI_len n (setI X14)
        simp only [] at h1
        omega
      by_cases he : e14 = 0
      · subst he
        have HQ := equalN_any A16 A17 n16 n17 c16 c17 X16 (noneI n (setI X14)) R16.out.1 R17.1 (by unfold maxLen; omega) (by unfold maxLen; omega) w17 (R16.out.next hb17).2.2.2.2 R17.2.2.2.2
        rw [decide_eq_true (HK2.out (by trivial))] at HQ
        have HQ := Lib.hid HQ
        have HA := Lib.hid (fun (w' : World) (hb : Below w17.heap.size w17 w') => and_any A14 n14 c14 X14 A16 n16 c16 X16 (by omega) (by omega) w' (R14.out.next (bnext hb17 hb)) (R16.out.next (bnext hb17 hb)))
        clear R17 HNo
        go_wp2_with fail
        refine HQ.out.mono ?_
        rintro e w18 ⟨rfl, hd18⟩
        have hb18 := drawn_below hd18
        clear hd18
        go_wp2_with fail
        refine (HA.out w18 hb18).mono ?_
        rintro e w19 ⟨v', rfl, A19, n19, c19, rfl, R19, hb19⟩
        have hn19 : n19 = 0 := by
          have h1 := R19.1
          rw [HK3.out (by trivial)] at h1
          exact h1.symm
        subst hn19
        have hb019 := bnext (bnext hb017 hb18) hb19
        clear R19
        go_wp2_with fail
        go_ret
        exact R1.mk rfl hb019
      · have f1 : (e14 == e14) = true := by simp
        have f2 : (e14 != 0) = true := bne_iff_ne.2 he
        clear R17 HNo he
        go_wp2_with fail
        go_ret
        exact R1.mk rfl hb017
    · have hall : ([e3, e4, e7].all (· == 0)) = false := by
        rw [Bool.eq_false_iff]
        intro h
        simp at h
        exact hgood ⟨h.1, h.2.1, h.2.2⟩
      rw [hall] at HGd
      clear hall hgood
      go_wp2_with fail
      refine HGd.out.mono ?_
      rintro e w10 ⟨rfl, hd10⟩
      have hb710 := bnext (one_allocX w7 (.cells #[.int .i64 e3, .int .i64 e4, .int .i64 e7] 28)) (drawn_below hd10)
      clear hd10
      have kX10 := kX7.out.next hb710
      have x0 : w10.cell? ⟨s, 0, none⟩ = some (.int .i64 qk) := kX10.cell 0
      have xf : w10.frozen? ⟨s, 0, none⟩ = false := kX10.frozen 0
      have xf1 : w10.frozen? ⟨s, 1, none⟩ = false := kX10.frozen 1
      have x1 : w10.cell? ⟨s, 1, none⟩ = some (.string nm) := kX10.cell 1
      have x2 : w10.cell? ⟨s, 2, none⟩ = some (.string v) := kX10.cell 2
      have hs10 : s < w10.heap.size := kX10.lt
      have hb210 := bnext hb27 hb710
      have hb010 := bnext hb02 hb210
      obtain ⟨W11, hW11⟩ : ∃ W11, w10.setCell ⟨s, 0, none⟩ (.int .i64 1) = W11 := ⟨_, rfl⟩
      have kX11 : Blk W11 s 25 #[.int .i64 1, .string nm, .string v] := by rw [← hW11]; exact kX10.set 0 (.int .i64 1)
      have hI11 : IxSt W11 W11 w1.heap.size g b L (ixD L 0 []) A5 c5 vs es clock kvs := (HI.out.next hb210).rebase (fun q hq => by rw [← hW11]; exact Below.heap_setCell w10 ⟨s, 0, none⟩ _ q (by show q ≠ s; omega))
      have hb011 : Below w.heap.size w W11 := by rw [← hW11]; exact hb010.setCell (p := ⟨s, 0, none⟩) (by show w.heap.size ≤ s; rw [Hs.out]; exact Nat.le_refl _) _
      obtain ⟨z, hz⟩ : ∃ z, w10.heap.size = z := ⟨_, rfl⟩
      have hz11 : W11.heap.size = z := by rw [← hW11, ← hz]; simp [World.setCell]
      obtain ⟨W12, hW12⟩ : ∃ W12, W11.alloc (.cells #[.int .i64 2, .string nm, .string v] 25) = W12 := ⟨_, rfl⟩
      have hb12 : Below W11.heap.size W11 W12 := by rw [← hW12]; exact one_allocX _ _
      have kY12 : Blk W12 z 25 #[.int .i64 2, .string nm, .string v] := by rw [← hW12, ← hz11]; exact Blk.new _ _ _
      have hz12 : W12.heap.size = z + 1 := by rw [← hW12, World.size_alloc, hz11]
      obtain ⟨W13, hW13⟩ : ∃ W13, W12.alloc (.cells #[.int .i64 1, .string nm, .string v] 25) = W13 := ⟨_, rfl⟩
      have hb13 : Below W12.heap.size W12 W13 := by rw [← hW13]; exact one_allocX _ _
      have hb1113 := bnext hb12 hb13
      have hq13 : Has W13 W13.heap.size (some ⟨z + 1, 0, none⟩) (mtCs [⟨1, nm, v⟩]) := by
        rw [← hW13, ← hz12]
        exact Has.fresh W12 #[.int .i64 1, .string nm, .string v] _
      have hokp : ∀ k : Int, k = 1 ∨ k = 2 → ∀ e ∈ [(⟨k, nm, v⟩ : Mt)], MtOk e := fun k hk e he => by
        rw [List.mem_singleton.1 he]
        exact ⟨show in64 k from ⟨by omega, by omega⟩, Hx.out.2.1, Hx.out.2.2⟩
      have HF13 := Lib.hid (ifind_any W11 W13 w1.heap.size g b L A5 c5 vs es clock kvs (hI11.next hb1113) Hchk.out (by rw [HLn.out]; exact h200) (Hlen.out.next (bnext hb011 hb1113)) (some ⟨z + 1, 0, none⟩) 1 1 [⟨1, nm, v⟩] rfl (by unfold maxLen; omega) (hokp 1 (.inl rfl)) hq13)
      have HW11 := Lib.hid hW11
      have HW12 := Lib.hid hW12
      have HW13 := Lib.hid hW13
      have Hz := Lib.hid hz
      have Hz11 := Lib.hid hz11
      have Hz12 := Lib.hid hz12
      have HI11 := Lib.hid hI11
      have Hok := Lib.hid hokp
      have KX11 := Lib.hid kX11
      clear hq13 hW11 hW12 hW13 hz hz11 hz12 hI11 hokp kX11 kX10 hb010 hb210 hlt7
      go_wp2_with fail
      rw [HW11.out, HW12.out, HW13.out, Hz.out]
      refine HF13.out.mono ?_
      rintro e w14 ⟨v', rfl, A14, n14, c14, rfl, hown14, hb14⟩
      have hb1114 := bnext hb1113 hb14
      have kY14 := kY12.next (bnext hb13 hb14)
      have y0 : w14.cell? ⟨z, 0, none⟩ = some (.int .i64 2) := kY14.cell 0
      have y1 : w14.cell? ⟨z, 1, none⟩ = some (.string nm) := kY14.cell 1
      have y2 : w14.cell? ⟨z, 2, none⟩ = some (.string v) := kY14.cell 2
      obtain ⟨W15, hW15⟩ : ∃ W15, w14.alloc (.cells #[.int .i64 2, .string nm, .string v] 25) = W15 := ⟨_, rfl⟩
      have hb15 : Below w14.heap.size w14 W15 := by rw [← hW15]; exact one_allocX _ _
      have hb1115 := bnext hb1114 hb15
      have hq15 : Has W15 W15.heap.size (some ⟨w14.heap.size, 0, none⟩) (mtCs [⟨2, nm, v⟩]) := by
        rw [← hW15]
        exact Has.fresh w14 #[.int .i64 2, .string nm, .string v] _
      have HF15 := Lib.hid (ifind_any W11 W15 w1.heap.size g b L A5 c5 vs es clock kvs (HI11.out.next hb1115) Hchk.out (by rw [HLn.out]; exact h200) (Hlen.out.next (bnext hb011 hb1115)) (some ⟨w14.heap.size, 0, none⟩) 1 1 [⟨2, nm, v⟩] rfl (by unfold maxLen; omega) (Hok.out 2 (.inr rfl)) hq15)
      have HW15 := Lib.hid hW15
      clear HF13 hq15 hW15 kY14 kY12 x0 x1 x2 xf xf1
      go_wp2_with fail
      rw [HW15.out]
      refine HF15.out.mono ?_
      rintro e w16 ⟨v', rfl, A16, n16, c16, rfl, hown16, hb16⟩
      have hb1116 := bnext hb1115 hb16
      have hl14 := findN_len L [⟨1, nm, v⟩]
      have hl16 := findN_len L [⟨2, nm, v⟩]
      have hkk := findN_two L nm v
      obtain ⟨X14, e14, hX14⟩ : ∃ X e, findN L [⟨1, nm, v⟩] = (X, e) := ⟨_, _, rfl⟩
      obtain ⟨X16, e16, hX16⟩ : ∃ X e, findN L [⟨2, nm, v⟩] = (X, e) := ⟨_, _, rfl⟩
      rw [hX14] at hown14 hl14 hkk ⊢
      rw [hX16] at hown16 hl16 hkk ⊢
      simp only [] at hown14 hown16 hl14 hl16 hkk ⊢
      obtain ⟨rfl, hk2, hk3⟩ := hkk
      rw [HLn.out] at hl14 hl16 hk2
      have R14 := Lib.hid ((RowN.own hown14).next (bnext hb15 hb16))
      have R16 := Lib.hid (RowN.own hown16)
      have hn14 : n14 ≤ 200 := by have := R14.out.1; omega
      have hn16 : n16 ≤ 200 := by have := R16.out.1; omega
      have HNo := Lib.hid (not_any (n : Int) A14 n14 c14 X14 (by omega) w16 R14.out)
      have hno : notI (n : Int) X14 = (noneI n (setI X14), 0) := by unfold notI; rw [if_neg (by omega), Int.toNat_natCast]
      rw [hno] at HNo
      have HK2 := Lib.hid hk2
      have HK3 := Lib.hid hk3
      clear hown14 hown16 hX14 hX16 hl14 hl16 hk2 hk3 hno HF15 hb16 hb15
      go_wp2_with fail
      refine HNo.out.mono ?_
      rintro e w17 ⟨v', rfl, A17, n17, c17, rfl, R17, hb17⟩
      have hb1117 := bnext hb1116 hb17
      have hb017 := bnext hb011 hb1117
      have hn17 : n17 ≤ 200 := by
        have h1 := R17.1
        have h2 := noneI_len n (setI X14)
        simp only [] at h1
        omega
      by_cases he : e14 = 0
      · subst he
        have HQ := equalN_any A16 A17 n16 n17 c16 c17 X16 (noneI n (setI X14)) R16.out.1 R17.1 (by unfold maxLen; omega) (by unfold maxLen; omega) w17 (R16.out.next hb17).2.2.2.2 R17.2.2.2.2
        rw [decide_eq_true (HK2.out (by trivial))] at HQ
        have HQ := Lib.hid HQ
        have HA := Lib.hid (fun (w' : World) (hb : Below w17.heap.size w17 w') => and_any A14 n14 c14 X14 A16 n16 c16 X16 (by omega) (by omega) w' (R14.out.next (bnext hb17 hb)) (R16.out.next (bnext hb17 hb)))
        clear R17 HNo
        go_wp2_with fail
        refine HQ.out.mono ?_
        rintro e w18 ⟨rfl, hd18⟩
        have hb18 := drawn_below hd18
        clear hd18
        go_wp2_with fail
        refine (HA.out w18 hb18).mono ?_
        rintro e w19 ⟨v', rfl, A19, n19, c19, rfl, R19, hb19⟩
        have hn19 : n19 = 0 := by
          have h1 := R19.1
          rw [HK3.out (by trivial)] at h1
          exact h1.symm
        subst hn19
        have hb019 := bnext (bnext hb017 hb18) hb19
        clear R19
        go_wp2_with fail
        go_ret
        exact R1.mk rfl hb019
      · have f1 : (e14 == e14) = true := by simp
        have f2 : (e14 != 0) = true := bne_iff_ne.2 he
        clear R17 HNo he
        go_wp2_with fail
        go_ret
        exact R1.mk rfl hb017
end Go.Proofs.Ytmfndpkhcejffaa
