/- The walk of the law LogCrash: it returns true. Conditions: the arguments fit their kinds. -/
import Derived.Test.YtkcfhfplppdnnaaLawLogS
import Derived.Test.YtkcfhfplppdnnaaLogLaw2
import Derived.Test.YtkcfhfplppdnnaaSameBytes
namespace Go.Proofs.Ytkcfhfplppdnnaa
open Go.RowKit

theorem RecsAt.take {w : World} {vs : List Value} {rs : List (List Nat)} (h : RecsAt w vs rs) : ∀ k, RecsAt w (vs.take k) (rs.take k) := by
  induction h with
  | nil => intro k; simp; exact .nil
  | cons h1 _ ih =>
    intro k
    cases k with
    | zero => exact .nil
    | succ k => rw [List.take_succ_cons, List.take_succ_cons]; exact .cons h1 (ih k)
theorem RecsOwn.mod2 {w w' : World} {base g : Nat} {row : Option Nat} {vs : List Value} {rs : List (List Nat)} (h : RecsOwn w base vs rs) (hm : Mod2 g row w w') (hg : g < base) (hr : ∀ k, row = some k → k < base) : RecsOwn w' base vs rs := by
  induction h with
  | nil => exact .nil
  | cons h1 _ ih => exact .cons (own_mod2 h1 hm (fun q hq => ⟨by have := (own_block h1 q hq).1; omega, fun e => by have := (own_block h1 q hq).1; have := hr q e.symm; omega⟩)) ih

set_option maxRecDepth 1000000 in
set_option maxHeartbeats 400000 in
theorem drecs_any (base g : Nat) (A : Option Addr) (c : Nat) (b : List Nat) (s : Int) (hb : b.length ≤ 1000000) (hbb : Bytes b) (ts : List (List Nat)) (n : Nat) (hcut : cutN b = (ts, n)) (w : World) (hD : DiskAt w base g A c b s) :
    Calls Try.prog 43 #[.pointer (some ⟨g, 0, none⟩)] w (RV fun v w' => ∃ A' c' vs, v = .slice A' ts.length c' ∧ w'.ownsRow w.heap.size 36 1 (.slice A' ts.length c') ts.length vs ∧ RecsOwn w' w.heap.size vs ts ∧ Below w.heap.size w w') := by
  have k0 : w.cell? ⟨g, 0, none⟩ = some (.slice A b.length c) := hD.1.cell 0
  obtain ⟨q1, q2⟩ := own_len hD.2
  have hnil : A = none → c = 0 := by
    obtain ⟨A', c', e, _, _, _, h2⟩ := own_form hD.2
    injection e with e1 _ e2
    subst e1 e2
    exact h2
  have hnil := Lib.hid hnil
  have Hcut := Lib.hid hcut; clear hcut
  have hH := Lib.hid (Has.of_own hD.2)
  go_enter Try.func43, Try.ntmps43
  go_wp2_with fail
  refine (cut_any A b.length c b (ts, n) Hcut.out rfl q1 q2 (by omega) hbb hnil.out _ (by exact hH.out)).mono ?_
  rintro e w1 ⟨v, rfl, A1, c1, vs, rfl, ho1, hrec1, hb1⟩
  have ho1 := Lib.hid ho1
  go_wp2_with fail
  go_ret
  exact RV.mk ⟨A1, c1, vs, rfl, ho1.out, hrec1, hb1⟩

set_option maxRecDepth 1000000 in
set_option maxHeartbeats 4000000 in
theorem logCrash_true (w : World) (A : Option Addr) (c : Nat) (rs : List (List Nat)) (vs : List Value) (hrb : ∀ r ∈ rs, Bytes r) (_ : rs.length ≤ c) (_ : c ≤ maxLen) (_ : A = none → c = 0) (h : Has w w.heap.size A vs) (hrec : RecsAt w vs rs) (hr : rs.length ≤ 5864062014634)
    (sy : Int) (hsy : -9223372036854775808 ≤ sy ∧ sy ≤ 9223372036854775807) (keep : Int) (hkeep : -9223372036854775808 ≤ keep ∧ keep ≤ 9223372036854775807)
    (X : Option Addr) (xc : Nat) (nx : List Nat) (hnb : Bytes nx) (hnxc : nx.length ≤ xc) (hxc : xc ≤ maxLen) (hxnil : X = none → xc = 0) (hX : Has w w.heap.size X (u8s nx)) (_ : nx.length ≤ 140737488351232) :
    Calls Try.prog 14 #[.slice A rs.length c, .int .i64 sy, .int .i64 keep, .slice X nx.length xc] w (R1 (.bool true) (Below w.heap.size w)) := by
  rcases (show (12 : Int) < (rs.length : Int) ∨ ((rs.length : Int) ≤ 12) by omega) with h1 | h1
  · go_enter Try.func14, Try.ntmps14
    go_wp2_with fail
    refine (logs_true _).mono ?_
    rintro e w1 ⟨rfl, hb1⟩
    go_wp2_with fail
    go_ret
    exact R1.mk rfl hb1
  have hrb := Lib.hid hrb
  have hrec := Lib.hid hrec
  have hxnil := Lib.hid hxnil
  go_enter Try.func14, Try.ntmps14
  go_wp2_with fail
  refine (logs_true _).mono ?_
  rintro e w1 ⟨rfl, hb1⟩
  go_wp2_with fail
  refine (dnew_any _).mono ?_
  rintro e w2 ⟨rfl, rfl⟩
  have hD0 := Lib.hid (disk_new w1)
  have hb2 : Below w.heap.size w (w1.alloc (.cells #[.slice none 0 0, .int .i64 0] 78)) := hb1.alloc hb1.size _
  have hgb : w.heap.size ≤ w1.heap.size := hb1.size
  obtain ⟨g, hg⟩ : ∃ g, w1.heap.size = g := ⟨_, rfl⟩
  rw [hg] at hD0 hgb
  rw [hg]
  generalize w1.alloc (.cells #[.slice none 0 0, .int .i64 0] 78) = w2 at hD0 hb2 ⊢
  clear hg hb1
  go_wp2_with fail
  go_loopw [10, 11, 26] (fun v x i wr => ∃ (k : Nat) (D : Option Addr) (dc : Nat) (ts : List (List Nat)) (us : List Value) (O : Option Addr) (e : Nat) (sf : Nat), k ≤ rs.length ∧ ts.length ≤ k ∧ sf ≤ ts.length ∧ (flatF ts).length ≤ 30000 ∧ Hid (∀ r ∈ ts, Bytes r ∧ r.length ≤ 2000) ∧ i = .int .i64 (k : Nat) ∧ v = .slice O ts.length e ∧ x = .int .i64 (sf : Nat) ∧
      Hid (DiskAt wr g g D dc (flatF ts) ((flatF (ts.take sf)).length : Nat)) ∧ Hid (wr.ownsRow g 36 1 (.slice O ts.length e) ts.length us) ∧ Hid (RecsAt w us ts) ∧ Below w.heap.size w wr) (fun _ _ i _ => rs.length + 5 - (intOf i).toNat)
  case atStart => exact ⟨0, none, 0, [], [], none, 0, 0, by omega, by simp, by simp, by simp [flatF], Lib.hid (by simp), rfl, rfl, rfl, hD0, Lib.hid ⟨rfl, .inl ⟨rfl, rfl⟩⟩, Lib.hid .nil, hb2⟩
  case round =>
    obtain ⟨k, D, dc, ts, us, O, e, sf, hk, htk, hsf, hM, hts, rfl, rfl, rfl, hD, hown, hus, hbr⟩ := hrel
    have hbs := hbr.size
    have hgl : g < wr.heap.size := hD.out.1.lt
    by_cases hlt : (k : Int) < (rs.length : Int)
    · obtain ⟨u, hu, A3, c3, rfl, h31, h32, h33, h34⟩ := hrec.out.get (show k < rs.length by omega)
      obtain ⟨ad, rfl, _, c0⟩ := (h.below hbr).at hu
      obtain ⟨R, hR⟩ : ∃ R, at_ rs k = R := ⟨_, rfl⟩
      have hRm : R ∈ rs := by rw [← hR]; exact at_mem (by omega)
      have hRb := hrb.out R hRm
      rw [hR] at c0 h31 h34
      have hRl : R.length ≤ maxLen := Nat.le_trans h31 h32
      have hRec : RecAt w (.slice A3 R.length c3) R := ⟨A3, c3, rfl, h31, h32, h33, h34⟩
      have hRec := Lib.hid hRec
      have h34 := Lib.hid (h34.next hbr)
      clear hR hu hRm h33
      rcases appN_or (flatF ts) R with ⟨hz, hR2, hsum⟩ | hz
      · have hz := Lib.hid hz
        have hRb2 := Lib.hid hRb
        go_wp2_with fail
        refine (dapp_yes g g D dc (flatF ts) _ A3 _ c3 R rfl hRl hRb hz.out _ (by omega) (by exact hD.out) (by exact h34.out)).mono ?_
        rintro e' w4 ⟨rfl, D', dc', hD4, hnew, hmod⟩
        have hDb := own_block hD.out.2
        have hbel4 : Below w.heap.size w w4 := hbr.trans (hmod.below hbs hgb (fun q hq => by have := (hDb q (map_ob hq)).1; omega))
        have hown4 := own_mod2 hown.out hmod (fun q hq => ⟨fun hqg => own_row_ne2 hD.out.1 hown.out (by decide) (by rw [hq, hqg]), fun hqd => own_apart hD.out.2 hown.out (by decide) q (map_ob hqd.symm) hq.symm⟩)
        have e5 : flatF (ts ++ [R]) = flatF ts ++ frameL R := by simp [flatF]
        have E5 := Lib.hid e5; clear e5
        have hD4 := Lib.hid hD4
        have hw4 := hmod.size
        clear hnew hmod
        go_wp2_with (at_builtin; refine wpList_append1 rfl _ _ _ rfl elSl rfl hown4 rfl rfl rfl ?_ ?k1 ?k2 ?k3 ?k4; intro A5 c5 w5 hown5 hgrow hb5)
        case k1 => first | rfl | (intro u hu; simp at hu; subst hu; rfl)
        case k2 => omega
        case k3 => unfold maxLen; omega
        case k4 => omega
        all_goals
          have hgrow : w4.grownBy w5 (Value.slice O ts.length e).ownBlock := hgrow
          have hD5 : DiskAt w5 g g D' dc' (flatF ts ++ frameL R) ((flatF (ts.take sf)).length : Nat) := ⟨hD4.out.1.grown hgrow (own_row_ne2 hD4.out.1 hown4 (by decide)), own_keep hD4.out.2 hgrow (own_apart hD4.out.2 hown4 (by decide))⟩
          have ht5 : (ts ++ [R]).take sf = ts.take sf := List.take_append_of_le_length hsf
          rw [← ht5] at hD5
          have hts5 := Lib.hid (show ∀ r ∈ ts ++ [R], Bytes r ∧ r.length ≤ 2000 by intro r hr; rcases List.mem_append.1 hr with hr | hr; exact hts.out r hr; simp at hr; subst hr; exact ⟨hRb2.out, hR2⟩)
          have hus5 := Lib.hid (hus.out.snoc hRec.out)
          have hbel5 := hbel4.trans (hb5.mono hgb)
          have htl5 : (ts ++ [R]).length = ts.length + 1 := by simp
          have Ht5 := Lib.hid ht5; clear ht5
          have Htl := Lib.hid htl5; clear htl5
          have hD5 := Lib.hid hD5
          have hown5 := Lib.hid hown5
        · refine (dsync_any g g D' dc' (flatF ts ++ frameL R) _ _ (by exact hD5.out)).mono ?_
          rintro e' w6 ⟨rfl, rfl⟩
          have hD6 := disk_sync hD5.out
          have hown6 := own_set2 hown5.out (own_row_ne2 hD5.out.1 hown5.out (by decide)) 1 (.int .i64 (flatF ts ++ frameL R).length)
          have hbel6 := Below.setCell (p := ⟨g, 1, none⟩) hbel5 hgb (.int .i64 (flatF ts ++ frameL R).length)
          rw [← E5.out] at hD6 hown6 hbel6 ⊢
          have e6 : (ts ++ [R]).take (ts.length + 1) = ts ++ [R] := List.take_of_length_le (by rw [Htl.out]; exact Nat.le_refl _)
          have hD6' : DiskAt (w5.setCell ⟨g, 1, none⟩ (.int .i64 (flatF (ts ++ [R])).length)) g g D' dc' (flatF (ts ++ [R])) ((flatF ((ts ++ [R]).take (ts.length + 1))).length : Nat) := by rw [e6]; exact hD6
          have hD6 := Lib.hid hD6'; clear hD6' e6
          have hown6 := Lib.hid hown6
          generalize w5.setCell ⟨g, 1, none⟩ (.int .i64 (flatF (ts ++ [R])).length) = w6 at hD6 hown6 hbel6 ⊢
          go_wp2_with fail
          go_roundw
          case rel => exact ⟨k + 1, D', dc', ts ++ [R], us ++ [.slice A3 R.length c3], A5, c5, ts.length + 1, by omega, by rw [Htl.out]; omega, by rw [Htl.out]; omega, by rw [E5.out, List.length_append]; omega, hts5, by go_num, by rw [Htl.out], rfl, hD6, Lib.hid (by rw [Htl.out]; exact hown6.out), hus5, hbel6⟩
          case measure => simp [intOf]; omega
        · exact ⟨⟨k + 1, D', dc', ts ++ [R], us ++ [.slice A3 R.length c3], A5, c5, sf, by omega, by rw [Htl.out]; omega, by rw [Htl.out]; omega, by rw [E5.out, List.length_append]; omega, hts5, by go_num, by rw [Htl.out], rfl, Lib.hid (by rw [E5.out]; exact hD5.out), Lib.hid (by rw [Htl.out]; exact hown5.out), hus5, hbel5⟩, by simp [intOf]; omega⟩
      · obtain ⟨z, hzz⟩ : ∃ z, appN (flatF ts) R = z := ⟨_, rfl⟩
        rw [hzz] at hz
        have hzz := Lib.hid hzz
        have fz : (z == 0) = false := by rw [beq_eq_false_iff_ne]; exact hz
        have hz := Lib.hid hz
        go_wp2_with fail
        refine (dapp_no g g D dc (flatF ts) _ hM A3 _ c3 R rfl hRl hRb z hzz.out hz.out _ (by exact hD.out) (by exact h34.out)).mono ?_
        rintro e' w4 ⟨rfl, hb4⟩
        have hD4 : DiskAt w4 g g D dc (flatF ts) ((flatF (ts.take sf)).length : Nat) := ⟨hD.out.1.next hb4, own_next hD.out.2 hb4⟩
        have hown4 := Lib.hid (own_next hown.out hb4)
        have hD4 := Lib.hid hD4
        have hbel4 := bnext hbr hb4
        go_wp2_with fail
        · refine (dsync_any g g D dc (flatF ts) _ _ (by exact hD4.out)).mono ?_
          rintro e' w6 ⟨rfl, rfl⟩
          have hD6 := disk_sync hD4.out
          have hown6 := own_set2 hown4.out (own_row_ne2 hD4.out.1 hown4.out (by decide)) 1 (.int .i64 (flatF ts).length)
          have hbel6 := Below.setCell (p := ⟨g, 1, none⟩) hbel4 hgb (.int .i64 (flatF ts).length)
          have hD6' : DiskAt (w4.setCell ⟨g, 1, none⟩ (.int .i64 (flatF ts).length)) g g D dc (flatF ts) ((flatF (ts.take ts.length)).length : Nat) := by rw [List.take_length]; exact hD6
          have hD6 := Lib.hid hD6'; clear hD6'
          have hown6 := Lib.hid hown6
          generalize w4.setCell ⟨g, 1, none⟩ (.int .i64 (flatF ts).length) = w6 at hD6 hown6 hbel6 ⊢
          go_wp2_with fail
          go_roundw
          case rel => exact ⟨k + 1, D, dc, ts, us, O, e, ts.length, by omega, by omega, Nat.le_refl _, hM, hts, by go_num, rfl, rfl, hD6, hown6, hus, hbel6⟩
          case measure => simp [intOf]; omega
        · exact ⟨⟨k + 1, D, dc, ts, us, O, e, sf, by omega, by omega, hsf, hM, hts, by go_num, rfl, rfl, hD4, hown4, hus, hbel4⟩, by simp [intOf]; omega⟩
    · have hbb := Lib.hid (flat_bytes (fun r hr => (hts.out r hr).1))
      have hle := flatF_mono ts hsf
      rw [List.take_length] at hle
      obtain ⟨s, hs⟩ : ∃ s, (flatF (ts.take sf)).length = s := ⟨_, rfl⟩
      rw [hs] at hle hD
      have Hs := Lib.hid hs; clear hs
      have htl : ts.length ≤ 12 := by omega
      have htsb := Lib.hid (show ∀ r ∈ ts, Bytes r from fun r hr => (hts.out r hr).1)
      by_cases hkk : keep < 0 ∨ ((flatF ts).length : Int) - (s : Int) < keep
      · have hcut := Lib.hid (cut_flat (fun r hr => (hts.out r hr).2))
        go_wp2_with fail
        refine (dcrash_no g g D dc (flatF ts) s hle (by omega) keep hkeep hkk _ (by exact hD.out)).mono ?_
        rintro e' w3 ⟨rfl, n3, rfl⟩
        have hD3 : DiskAt (wr.drewN n3) g g D dc (flatF ts) s := ⟨hD.out.1.drewN _, own_drewN hD.out.2 _⟩
        have hb3 := below_drewN hbr n3
        have hown3 := own_drewN hown.out n3
        generalize wr.drewN n3 = w3 at hD3 hb3 hown3 ⊢
        have hD3 := Lib.hid hD3
        go_wp2_with fail
        refine (drecs_any g g D dc (flatF ts) _ (by omega) hbb.out ts _ hcut.out _ (by exact hD3.out)).mono ?_
        rintro e' w4 ⟨v, rfl, A4, c4, ws, rfl, ho4, hrec4, hb4⟩
        have hm4 := Lib.hid (Has.of_own (own_next hown3 hb4))
        have h4 := Lib.hid (Has.of_own ho4)
        have hr4 := Lib.hid hrec4.at
        have hu4 := Lib.hid (hus.out.next (bnext hb3 hb4))
        go_wp2_with fail
        refine (sameBytes_any A4 O _ _ c4 e ts ts ws us rfl rfl (by unfold maxLen; omega) (by unfold maxLen; omega) htsb.out htsb.out _ (by exact h4.out) (by exact hr4.out) (by exact hm4.out) (by exact hu4.out)).mono ?_
        rintro e' w5 ⟨rfl, n5, rfl⟩
        rw [decide_eq_true (rfl : ts = ts)]
        go_wp2_with fail
        go_ret
        exact R1.mk rfl (below_drewN (bnext hb3 hb4) _)
      · obtain ⟨kp, rfl⟩ := Int.eq_ofNat_of_zero_le (show 0 ≤ keep by omega)
        obtain ⟨m, hm1, hm2, hm3, hm4, hm5⟩ := cut_torn (fun r hr => (hts.out r hr).2) (show s + kp ≤ (flatF ts).length by omega)
        have hsm : sf ≤ m := hm3 sf hsf (by rw [Hs.out]; omega)
        have hcut2 := Lib.hid (cut_flat (rs := ts.take m) (fun r hr => (hts.out r (List.mem_of_mem_take hr)).2))
        have hmle := flatF_mono ts hm1
        rw [List.take_length] at hmle
        have Hm4 := Lib.hid hm4
        have Hm5 := Lib.hid hm5
        have htm := Lib.hid (show (ts.take m).length = m by rw [List.length_take]; omega)
        have hbm := Lib.hid (flat_bytes (ts := ts.take m) (fun r hr => (hts.out r (List.mem_of_mem_take hr)).1))
        have HTL0 := (show ∀ r ∈ ts.take m, r.length ≤ 2000 from fun r hr => (hts.out r (List.mem_of_mem_take hr)).2)
        have htmb := Lib.hid (show ∀ r ∈ ts.take m, Bytes r from fun r hr => (hts.out r (List.mem_of_mem_take hr)).1)
        have hskp : s + kp ≤ (flatF ts).length := by omega
        clear hm3 hm4 hm5 hm2 hkk
        go_wp2_with fail
        refine (dcrash_yes g g D dc (flatF ts) s hle hbb.out (by omega) kp hskp _ (ts.take m) Hm4.out hmle _ (by exact hD.out)).mono ?_
        rintro e' w3 ⟨rfl, hD3, hmod⟩
        have hown3 := own_mod2 hown.out hmod (fun q hq => ⟨fun hqg => own_row_ne2 hD.out.1 hown.out (by decide) (by rw [hq, hqg]), fun e => by cases e⟩)
        have hb3 : Below w.heap.size w w3 := hbr.trans (hmod.below hbs hgb (fun q hq => by cases hq))
        rw [Hm5.out] at hD3
        have hu3 := hus.out.next hb3
        have hu3m := hu3.take m
        have hgl3 : g < w3.heap.size := hD3.1.lt
        have hDb3 := own_block hD3.2
        obtain ⟨n, hn⟩ : ∃ n, (flatF (ts.take m)).length = n := ⟨_, rfl⟩
        rw [hn] at hD3 hmle
        have hcut3 := hcut2.out
        rw [hn] at hcut3
        have hbm3 := hbm.out
        obtain ⟨TM, hTM⟩ : ∃ TM, ts.take m = TM := ⟨_, rfl⟩
        have htm3 := htm.out
        have htmb3 := htmb.out
        rw [hTM] at hD3 hu3m hcut3 hbm3 htm3 htmb3 hn HTL0
        have HTL := Lib.hid HTL0; clear HTL0
        have hl3 : (flatF TM).length ≤ 30000 := by omega
        clear hmod hTM Hm4 Hm5 hcut2 hbm htm htmb hD
        have hD3 := Lib.hid hD3
        have hcut3 := Lib.hid hcut3
        have htm3' := Lib.hid htm3
        have q1 : (sf : Int) ≤ (TM.length : Int) := by omega
        have q2 : (TM.length : Int) ≤ (ts.length : Int) := by omega
        obtain ⟨hoe, hoe2⟩ := own_len hown3
        have q3 : (TM.length : Int) ≤ (e : Int) := by omega
        have q4 : TM.length ≤ 12 := by omega
        clear htm3 hn
        go_wp2_with fail
        refine (drecs_any g g D dc (flatF TM) _ (by omega) hbm3 TM n hcut3.out _ (by exact hD3.out)).mono ?_
        rintro e' w4 ⟨v, rfl, A4, c4, ws, rfl, ho4, hrec4, hb4⟩
        have hb4' := bnext hb3 hb4
        have hm4 := Lib.hid ((Has.of_own (own_next hown3 hb4)).take m)
        have h4 := Lib.hid (Has.of_own ho4)
        have hr4 := Lib.hid hrec4.at
        have hu4 := Lib.hid (hu3m.next hb4)
        have hD4 : DiskAt w4 g g D dc (flatF TM) n := ⟨hD3.out.1.next hb4, own_next hD3.out.2 hb4⟩
        have ho4 := Lib.hid ho4
        have hrec4 := Lib.hid hrec4
        go_wp2_with fail
        refine (sameBytes_any A4 O _ _ c4 e TM TM ws (us.take m) rfl rfl (by unfold maxLen; omega) (by unfold maxLen; omega) htmb3 htmb3 _ (by exact h4.out) (by exact hr4.out) (by exact hm4.out) (by exact hu4.out)).mono ?_
        rintro e' w5 ⟨rfl, n5, rfl⟩
        rw [decide_eq_true (rfl : TM = TM)]
        have hb5 := below_drewN hb4' n5
        have hD5 : DiskAt (w4.drewN n5) g g D dc (flatF TM) n := ⟨hD4.1.drewN _, own_drewN hD4.2 _⟩
        have ho5 := own_drewN ho4.out n5
        have hrec5 := hrec4.out.next (below_drewN (Below.refl w4.heap.size w4) n5)
        have hb45 : w3.heap.size ≤ (w4.drewN n5).heap.size := hb4.size
        generalize w4.drewN n5 = w5 at hb5 hD5 ho5 hrec5 hb45 ⊢
        clear hD4 h4 hr4 hm4 hu4 hrec4 ho4 hb4'
        have hX5 := Lib.hid (hX.next hb5)
        have hD5 := Lib.hid hD5
        rcases appN_or (flatF TM) nx with ⟨hz, hn2, hsum⟩ | hz
        · have hz := Lib.hid hz
          go_wp2_with fail
          refine (dapp_yes g g D dc (flatF TM) n X _ xc nx rfl (Nat.le_trans hnxc hxc) hnb hz.out _ (by omega) (by exact hD5.out) (by exact hX5.out)).mono ?_
          rintro e' w6 ⟨rfl, D', dc', hD6, hnew, hmod⟩
          have ho6 := own_mod2 ho5 hmod (fun q hq => by
            have h1 := (own_block ho5 q hq).1
            exact ⟨by omega, fun e => by have := (hDb3 q (map_ob e.symm)).2; omega⟩)
          have hrec6 := hrec5.mod2 hmod hgl3 (fun q hq => (hDb3 q (map_ob hq)).2)
          have hs56 := hmod.size
          have hs5 := hb5.size
          have hb6 : Below w.heap.size w w6 := hb5.trans (hmod.below hs5 hgb (fun q hq => by have := (hDb3 q (map_ob hq)).1; omega))
          have e6 : flatF TM ++ frameL nx = flatF (TM ++ [nx]) := by simp [flatF]
          rw [e6] at hD6
          have hl6 : (flatF (TM ++ [nx])).length ≤ 30000 := by rw [← e6, List.length_append]; exact hsum
          have htb6 : ∀ r ∈ TM ++ [nx], Bytes r := by intro r hr; rcases List.mem_append.1 hr with hr | hr; exact htmb3 r hr; simp at hr; subst hr; exact hnb
          have hbm6 := Lib.hid (flat_bytes htb6)
          have hcut6 := Lib.hid (cut_flat (rs := TM ++ [nx]) (by intro r hr; rcases List.mem_append.1 hr with hr | hr; exact HTL.out r hr; simp at hr; subst hr; exact hn2))
          have htl6 := Lib.hid (show (TM ++ [nx]).length = TM.length + 1 by simp)
          have hob6 := own_block ho6
          have htb6 := Lib.hid htb6
          have hD6 := Lib.hid hD6
          have ho6 := Lib.hid ho6
          have hrec6 := Lib.hid hrec6
          clear hmod hnew e6
          go_wp2_with fail
          refine (drecs_any g g D' dc' (flatF (TM ++ [nx])) _ (by omega) hbm6.out (TM ++ [nx]) _ hcut6.out _ (by exact hD6.out)).mono ?_
          rw [htl6.out]
          rintro e' w7 ⟨v, rfl, A7, c7, ws7, rfl, ho7, hrec7, hb7⟩
          have hb7' := bnext hb6 hb7
          have hown7 := own_next ho6.out hb7
          have hrec7n := hrec6.out.next hb7
          have hob7 := own_block ho7
          have ho7 := Lib.hid ho7
          have hs7 := hb7.size
          go_wp2_with (at_builtin; refine wpList_append1 rfl _ _ _ rfl elSl rfl hown7 rfl rfl rfl ?_ ?k1 ?k2 ?k3 ?k4; intro A8 c8 w8 hown8 hgrow hb8)
          case k1 => first | rfl | (intro u hu; simp at hu; subst hu; rfl)
          case k2 => omega
          case k3 => unfold maxLen; omega
          case k4 => omega
          have hgrow : w7.grownBy w8 (Value.slice A4 TM.length c4).ownBlock := hgrow
          have hafter := own_keep ho7.out hgrow (fun q hq e => by have h1 := (hob7 q hq).1; have h2 := (hob6 q e.symm).2; omega)
          have hra := hrec7.grown hown7 hgrow
          have hrn := hrec7n.grown hown7 hgrow
          have hb8' : Below w.heap.size w w8 := hb7'.trans (hb8.mono (by omega))
          have hx8 := hrn.at.snoc (show RecAt w8 (.slice X nx.length xc) nx from ⟨X, xc, rfl, hnxc, hxc, hxnil.out, hX.next hb8'⟩)
          have h81 := Lib.hid (Has.of_own hafter)
          have h82 := Lib.hid (Has.of_own hown8)
          have hra := Lib.hid hra.at
          have hx8 := Lib.hid hx8
          go_wp2_with fail
          refine (sameBytes_any A7 A8 (TM.length + 1) (TM.length + 1) c7 c8 (TM ++ [nx]) (TM ++ [nx]) ws7 _ htl6.out htl6.out (by unfold maxLen; omega) (by unfold maxLen; omega) htb6.out htb6.out _ (by exact h81.out) (by exact hra.out) (by exact h82.out) (by exact hx8.out)).mono ?_
          rintro e' w9 ⟨rfl, n9, rfl⟩
          rw [decide_eq_true (rfl : TM ++ [nx] = TM ++ [nx])]
          go_wp2_with fail
          go_ret
          exact R1.mk rfl (below_drewN hb8' _)
        · obtain ⟨z, hzz⟩ : ∃ z, appN (flatF TM) nx = z := ⟨_, rfl⟩
          rw [hzz] at hz
          have hzz := Lib.hid hzz
          have fz : (z != 0) = true := by rw [bne_iff_ne]; exact hz
          have hz := Lib.hid hz
          go_wp2_with fail
          refine (dapp_no g g D dc (flatF TM) n hl3 X _ xc nx rfl (Nat.le_trans hnxc hxc) hnb z hzz.out hz.out _ (by exact hD5.out) (by exact hX5.out)).mono ?_
          rintro e' w6 ⟨rfl, hb6⟩
          have hD6 : DiskAt w6 g g D dc (flatF TM) n := ⟨hD5.out.1.next hb6, own_next hD5.out.2 hb6⟩
          have hD6 := Lib.hid hD6
          have ho6 := own_next ho5 hb6
          have hrec6 := hrec5.next hb6
          have hb6' := bnext hb5 hb6
          go_wp2_with fail
          refine (drecs_any g g D dc (flatF TM) _ (by omega) hbm3 TM n hcut3.out _ (by exact hD6.out)).mono ?_
          rintro e' w7 ⟨v, rfl, A7, c7, ws7, rfl, ho7, hrec7, hb7⟩
          have hb7' := bnext hb6' hb7
          have h71 := Lib.hid (Has.of_own ho7)
          have h72 := Lib.hid (Has.of_own (own_next ho6 hb7))
          have hr71 := Lib.hid hrec7.at
          have hr72 := Lib.hid (hrec6.next hb7).at
          clear ho7 hrec7
          go_wp2_with fail
          refine (sameBytes_any A7 A4 _ _ c7 c4 TM TM ws7 ws rfl rfl (by unfold maxLen; omega) (by unfold maxLen; omega) htmb3 htmb3 _ (by exact h71.out) (by exact hr71.out) (by exact h72.out) (by exact hr72.out)).mono ?_
          rintro e' w9 ⟨rfl, n9, rfl⟩
          rw [decide_eq_true (rfl : TM = TM)]
          go_wp2_with fail
          go_ret
          exact R1.mk rfl (below_drewN hb7' _)
end Go.Proofs.Ytkcfhfplppdnnaa
