/- The walk of the law GossipLess: it returns true. Conditions: the arguments fit their kinds. -/
import Derived.Test.YtkkadfjcnocopaaLawGossB
namespace Go.Proofs.Ytkkadfjcnocopaa
open Go.RowKit

theorem lookS_at {S : List Sn} (h : RiseS S) {s : Sn} (hs : s ∈ S) : lookS S s.nm = some s.v := by
  induction S with
  | nil => cases hs
  | cons x S ih =>
    rw [lookS]
    rcases List.mem_cons.1 hs with rfl | hs
    · rw [if_pos rfl]
    · rw [if_neg (nlt_ne ((List.pairwise_cons.1 h).1 s hs)), ih (List.pairwise_cons.1 h).2 hs]
/-- nothing is told that is older than what was seen -/
theorem keep_young {S : List Sn} (h : RiseS S) {c : Clm} (hc : keepS S c = true) {s : Sn} (hs : s ∈ S) (hn : s.nm = c.nm) : ¬ c.v < s.v := by
  unfold keepS at hc
  rw [← hn, lookS_at h hs] at hc
  simp at hc
  omega

set_option maxRecDepth 1000000 in
set_option maxHeartbeats 4000000 in
theorem idxS_any (F : FuncId) (hcf : ∀ (args : Array Value) (w : World), (callFunc F args).run Try.prog w = .ok (.enter F args) w) (pa : Value) (A : Option Addr) (n c : Nat) (S : List Sn) (hn : S.length = n) (hl : n ≤ 1000) (w : World) (h : Has w w.heap.size A (snCs S))
    (hF : ∀ j, j < n → ∀ w', Below w.heap.size w w' → Calls Try.prog F #[.agg #[.string (at_ S j).nm, .int .i64 (at_ S j).v], pa] w' (R1 (.bool false) (Below w'.heap.size w'))) :
    Calls Try.prog 92 #[.slice A n c, .func (.func F) #[] #[pa]] w (R1 (.int .i64 (-1)) (Below w.heap.size w)) := by
  have HF := Lib.hid hF; clear hF
  have Hn := Lib.hid hn; clear hn
  go_enter Try.func92, Try.ntmps92
  go_wp2_with fail
  go_loopw [8] (fun i wr => ∃ j : Nat, j ≤ n ∧ i = .int .i64 (j : Nat) ∧ Below w.heap.size w wr) (fun i _ => n - (intOf i).toNat)
  case atStart => exact ⟨0, by omega, rfl, Below.refl _ _⟩
  case round =>
    obtain ⟨j, hj, rfl, hbr⟩ := hrel
    by_cases hlt : (j : Int) < (n : Int)
    · have l1 := Lib.hid (show j < S.length by rw [Hn.out]; omega)
      obtain ⟨ad, rfl, had, c0, c1⟩ := (h.below hbr).snAt l1.out
      have HC := Lib.hid (HF.out j (by omega) wr hbr)
      obtain ⟨p, hp⟩ : ∃ p, at_ S j = p := ⟨_, rfl⟩
      rw [hp] at c0 c1 HC
      clear hp
      go_wp2_with fail
      refine (HC.out).mono ?_
      rintro e w1 ⟨rfl, hb1⟩
      go_wp2_with fail
      go_roundw
      case rel => exact ⟨j + 1, by omega, by go_num, bnext hbr hb1⟩
      case measure => simp [intOf]; omega
    · go_wp2_with fail
      go_ret
      exact R1.mk rfl hbr

set_option maxRecDepth 1000000 in
set_option maxHeartbeats 4000000 in
/-- is it the same name, and newer? -/
theorem less1_any (s : Sn) (g : Nat) (x : ClE) (w : World) (hg : g < w.heap.size) (kg : Blk w g 54 (clA4 x)) (hno : s.nm = x.nm → ¬ x.v < s.v) :
    Calls Try.prog 44 #[.agg #[.string s.nm, .int .i64 s.v], .pointer (some ⟨g, 0, none⟩)] w (R1 (.bool false) (Below w.heap.size w)) := by
  have hbx : Below w.heap.size w (w.alloc (.cells #[.string s.nm, .int .i64 s.v] 72)) := one_alloc _ _
  have kc : Blk (w.alloc (.cells #[.string s.nm, .int .i64 s.v] 72)) w.heap.size 72 #[.string s.nm, .int .i64 s.v] := Blk.new _ _ _
  have y0 : (w.alloc (.cells #[.string s.nm, .int .i64 s.v] 72)).cell? ⟨w.heap.size, 0, none⟩ = some (.string s.nm) := kc.cell 0
  have y1 : (w.alloc (.cells #[.string s.nm, .int .i64 s.v] 72)).cell? ⟨w.heap.size, 1, none⟩ = some (.int .i64 s.v) := kc.cell 1
  have z2 : (w.alloc (.cells #[.string s.nm, .int .i64 s.v] 72)).cell? ⟨g, 2, none⟩ = some (.string x.nm) := (kg.alloc _).cell 2
  have z0 : (w.alloc (.cells #[.string s.nm, .int .i64 s.v] 72)).cell? ⟨g, 0, none⟩ = some (.int .i64 x.v) := (kg.alloc _).cell 0
  by_cases hq : s.nm = x.nm
  · have hv := hno hq
    obtain ⟨nm, hnm⟩ : ∃ nm, x.nm = nm := ⟨_, rfl⟩
    rw [hnm] at hq z2
    rw [hq] at y0 z0 z2 y1 hbx ⊢
    clear hq hnm hno kc
    go_enter Try.func44, Try.ntmps44
    go_wp2_with fail
    go_ret
    exact R1.mk (bool_eq (by simp)) hbx
  · have o1 : ¬ s.nm.toList = x.nm.toList := fun h => hq (toList_eq h)
    have o2 : (s.nm.toList == x.nm.toList) = false := by rw [beq_eq_false_iff_ne]; exact o1
    clear hq hno
    go_enter Try.func44, Try.ntmps44
    go_wp2_with fail
    go_ret
    exact R1.mk (bool_eq (by simp)) hbx

set_option maxRecDepth 1000000 in
set_option maxHeartbeats 4000000 in
theorem gless_any (w : World) (A B : Option Addr) (n c m d : Nat) (L M : List ClE) (hL : LsAt w A n c L) (hM : LsAt w B m d M) (hvL : ∀ e ∈ L, In64 e.v) :
    Calls Try.prog 11 #[.slice A n c, .slice B m d] w (R1 (.bool true) (Below w.heap.size w)) := by
  obtain ⟨a, ha⟩ : ∃ a, L.map ClE.x = a := ⟨_, rfl⟩
  obtain ⟨b, hb⟩ : ∃ b, M.map ClE.x = b := ⟨_, rfl⟩
  have hva := VOk.of hvL ha
  obtain ⟨⟨S, z1⟩, hS⟩ : ∃ r, digN a = r := ⟨_, rfl⟩
  obtain ⟨r1, r2, r3⟩ := dig_rise a
  have r4 := hva.dig
  rw [hS] at r1 r2 r3 r4
  simp only [] at r1 r2 r3 r4
  obtain ⟨⟨D, z2⟩, hD⟩ : ∃ r, deltaN b S = r := ⟨_, rfl⟩
  obtain ⟨⟨P, z3⟩, hP⟩ : ∃ r, mergeN a b = r := ⟨_, rfl⟩
  obtain ⟨⟨X, z4⟩, hX⟩ : ∃ r, mergeN a D = r := ⟨_, rfl⟩
  have hfin : z1 = 0 → z2 = 0 → z3 = 0 → X = P ∧ z4 = 0 ∧ D.length ≤ b.length ∧ ∀ c ∈ D, keepS S c = true := by
    intro _ h2 h3
    have e := told_ok (a := a) (b := b) (by rw [hP]; exact h3)
    rw [hS] at e
    simp only [] at e
    rw [hD] at e
    simp only [] at e
    rw [hX, hP] at e
    injection e with e1 e2
    have hDe : D = b.filter (keepS S) := by
      have h5 := hD
      unfold deltaN at h5
      split at h5
      · injection h5 with _ h6; omega
      · injection h5 with h6 _; exact h6.symm
    refine ⟨e1, by omega, by rw [hDe]; exact List.length_filter_le _ _, fun c hc => ?_⟩
    rw [hDe] at hc
    exact (List.mem_filter.1 hc).2
  have Ha := Lib.hid ha
  have Hb := Lib.hid hb
  have HL := Lib.hid hL
  have HM := Lib.hid hM
  have HS := Lib.hid hS
  have HD := Lib.hid hD
  have HP := Lib.hid hP
  have HX := Lib.hid hX
  have H1 := Lib.hid r1
  have H3 := Lib.hid r3
  have H4 := Lib.hid r4
  have HF := Lib.hid hfin
  clear ha hb hL hM hS hD hP hX r1 r3 r4 hfin hvL hva
  go_enter Try.func11, Try.ntmps11
  go_wp2_with fail
  refine (gossips_true _).mono ?_
  rintro e0 w1 ⟨rfl, hb1⟩
  go_wp2_with fail
  refine (digest_any _ Ha.out HS.out (HL.out.next hb1)).mono ?_
  rintro e0 w2 ⟨v, rfl, A2, c2, rfl, ho2, hb2'⟩
  have hb2 := bnext hb1 hb2'
  have hS2 := Lib.hid (Has.of_own ho2)
  clear ho2
  go_wp2_with fail
  refine (delta_any _ Hb.out HD.out (HM.out.next hb2) rfl (by exact hS2.out) H1.out r2 H3.out H4.out).mono ?_
  rintro e0 w3 ⟨v, rfl, O3, A3, c3, rfl, s3, ho3, hr3, hb3'⟩
  have hb3 := bnext hb2 hb3'
  have L3 := Lib.hid (LsAt.of ho3 hr3)
  have S3 := Lib.hid s3
  have hS3 := Lib.hid (hS2.out.next hb3')
  clear ho3 hr3 s3 hS2
  go_wp2_with fail
  refine (cmergeQ _ Ha.out Hb.out HP.out (HL.out.next hb3) (HM.out.next hb3)).mono ?_
  rintro e0 w4 ⟨v, rfl, O4, A4, c4, rfl, s4, l4, hb4'⟩
  have hb4 := bnext hb3 hb4'
  have L4 := Lib.hid l4; clear l4
  have S4 := Lib.hid s4; clear s4
  have L3 := Lib.hid (L3.out.next hb4')
  have hS4 := Lib.hid (hS3.out.next hb4')
  clear hS3
  go_wp2_with fail
  obtain ⟨g, hg⟩ : ∃ g, ([z1, z2, z3] : List Int).all (· == 0) = g := ⟨_, rfl⟩
  have Hg := Lib.hid hg
  refine (good_any _ 3 _ [z1, z2, z3] rfl (by simp) _ (Has.fresh w4 #[.int .i64 z1, .int .i64 z2, .int .i64 z3] _)).mono ?_
  rw [hg]
  clear hg
  rintro e0 w5 ⟨rfl, n5, rfl⟩
  have hbG : Below w4.heap.size w4 ((w4.alloc (.cells #[.int .i64 z1, .int .i64 z2, .int .i64 z3] 27)).drewN n5) := below_drewN (one_alloc _ _) _
  have hb5 := bnext hb4 hbG
  cases g
  · go_wp2_with fail
    go_ret
    exact R1.mk rfl hb5
  · obtain ⟨f1, f2, f3, f4⟩ : X = P ∧ z4 = 0 ∧ D.length ≤ b.length ∧ ∀ c ∈ D, keepS S c = true := by
      have := Hg.out
      simp at this
      exact HF.out this.1 this.2.1 this.2.2
    subst f1 f2
    have F4 := Lib.hid f4
    have hDm : (O3.length : Int) ≤ (m : Int) := by
      have h1 : O3.length = D.length := by rw [← S3.out, List.length_map]
      have h2 : b.length = m := by rw [← Hb.out, List.length_map]; exact HM.out.1
      omega
    clear f3 f4
    have L3 := Lib.hid (L3.out.next hbG)
    have L4 := Lib.hid (L4.out.next hbG)
    have hS5 := Lib.hid (hS4.out.next hbG)
    clear hS4
    go_wp2_with fail
    refine (cmergeQ _ Ha.out S3.out HX.out (HL.out.next hb5) L3.out).mono ?_
    rintro e0 w6 ⟨v, rfl, O6, A6, c6, rfl, s6, l6, hb6'⟩
    have hb6 := bnext hb5 hb6'
    have L6 := Lib.hid l6; clear l6
    have S6 := Lib.hid s6; clear s6
    have L3 := Lib.hid (L3.out.next hb6')
    have L4 := Lib.hid (L4.out.next hb6')
    have hS6 := Lib.hid (hS5.out.next hb6')
    clear hS5
    obtain ⟨t, ht⟩ : ∃ t, O3.length = t := ⟨_, rfl⟩
    have HT := Lib.hid ht
    rw [ht] at hDm L3 ⊢
    clear ht
    obtain ⟨u, hu⟩ : ∃ u, S.length = u := ⟨_, rfl⟩
    have HU := Lib.hid hu
    rw [hu] at r2 ⊢
    clear hu
    have ht20 : t ≤ maxLen := Nat.le_trans L3.out.2.1 L3.out.2.2.1
    unfold maxLen at ht20
    go_wp2_with fail
    go_loopw [48] (fun i wr => ∃ k : Nat, k ≤ t ∧ i = .int .i64 (k : Nat) ∧ Below w6.heap.size w6 wr) (fun i _ => t - (intOf i).toNat)
    case atStart => exact ⟨0, by omega, rfl, Below.refl _ _⟩
    case round =>
      obtain ⟨k, hk, rfl, hbr⟩ := hrel
      have hbr0 := bnext hb6 hbr
      by_cases hlt : (k : Int) < (t : Int)
      · have l1 := Lib.hid (show k < O3.length by rw [HT.out]; omega)
        obtain ⟨ad, rfl, had, c0, c1', c2', c3'⟩ := (L3.out.next hbr).2.2.2.1.clAt l1.out
        have hkp := Lib.hid (show keepS S (at_ O3 k).x = true from F4.out _ (by rw [← S3.out]; exact List.mem_map_of_mem (at_mem l1.out)))
        obtain ⟨x, hx⟩ : ∃ x, at_ O3 k = x := ⟨_, rfl⟩
        rw [hx] at c0 c1' c2' c3' hkp
        clear hx
        have kc : Blk (wr.alloc (.cells (clA4 x) 54)) wr.heap.size 54 (clA4 x) := Blk.new _ _ _
        have hbc := one_alloc wr (.cells (clA4 x) 54)
        go_wp2_with fail
        obtain ⟨wc, hwc⟩ : ∃ wc, wr.alloc (.cells (clA4 x) 54) = wc := ⟨_, rfl⟩
        rw [hwc] at kc hbc
        rw [hwc]
        clear hwc c0 c1' c2' c3'
        obtain ⟨g, hg⟩ : ∃ g, wr.heap.size = g := ⟨_, rfl⟩
        rw [hg] at kc ⊢
        have hbrc := bnext hbr hbc
        clear hg hbc
        have step : Calls Try.prog 43 #[.slice A2 u c2, .func (.func 44) #[] #[.pointer (some ⟨g, 0, none⟩)]] wc (R1 (.bool false) (Below wc.heap.size wc)) := by
          have hi := idxS_any 44 (fun _ _ => by kernel_rfl) (.pointer (some ⟨g, 0, none⟩)) A2 u c2 S HU.out (by omega) wc (hS6.out.next hbrc) (fun j hj w' hw' => less1_any (at_ S j) g x w' (Nat.lt_of_lt_of_le kc.lt hw'.size) (kc.next hw') (fun hn => keep_young H1.out hkp.out (at_mem (by rw [HU.out]; exact hj)) hn))
          have HI := Lib.hid hi; clear hi
          go_enter Try.func43, Try.ntmps43
          go_wp2_with fail
          refine (HI.out).mono ?_
          rintro e9 w9 ⟨rfl, hb9⟩
          go_wp2_with fail
          go_ret
          exact R1.mk rfl hb9
        refine step.mono ?_
        rintro e0 w7 ⟨rfl, hb7⟩
        have hbr7 := bnext hbrc hb7
        clear step
        go_wp2_with fail
        go_roundw
        case rel => exact ⟨k + 1, by omega, by go_num, hbr7⟩
        case measure => simp [intOf]; omega
      · have hlen : (m : Int) ≤ 9223372036854775807 := by have := HM.out.2.1; have := HM.out.2.2.1; unfold maxLen at this; omega
        go_wp2_with fail
        refine (sameQ _ (decide_eq_true (by rw [S6.out, S4.out])) (L6.out.next hbr) (L4.out.next hbr)).mono ?_
        rintro e0 w7 ⟨rfl, hb7⟩
        go_wp2_with fail
        go_ret
        exact R1.mk (by simp) (bnext hbr0 hb7)
theorem gossipLess_true (w : World) (A : Option Addr) (c : Nat) (L : List ClE) (hL : ∀ e ∈ L, e.good w) (h1 : L.length ≤ c) (h2 : c ≤ maxLen) (_ : A = none → c = 0) (h3 : Has w w.heap.size A (clCs L)) (_ : L.length * 56 ≤ 140737488351232)
    (B : Option Addr) (d : Nat) (M : List ClE) (hM : ∀ e ∈ M, e.good w) (m1 : M.length ≤ d) (m2 : d ≤ maxLen) (_ : B = none → d = 0) (m3 : Has w w.heap.size B (clCs M)) (_ : M.length * 56 ≤ 140737488351232) :
    Calls Try.prog 11 #[.slice A L.length c, .slice B M.length d] w (R1 (.bool true) (Below w.heap.size w)) :=
  gless_any w A B _ c _ d L M ⟨rfl, h1, h2, h3, fun e he => (hL e he).1⟩ ⟨rfl, m1, m2, m3, fun e he => (hM e he).1⟩ (fun e he => (hL e he).2.1)
end Go.Proofs.Ytkkadfjcnocopaa
