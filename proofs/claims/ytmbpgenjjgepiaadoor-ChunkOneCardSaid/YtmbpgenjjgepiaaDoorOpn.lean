/- What Open of package chunk makes of bytes. Conditions: the bytes are bytes; the tables lie in their cells. -/
import Derived.Test.YtmbpgenjjgepiaaDoorSeal
import Derived.Test.YtmbpgenjjgepiaaDoorPart
import Derived.Test.YtmbpgenjjgepiaaDoorUnpackD
import Derived.Test.YtmbpgenjjgepiaaDoorUnpackX
import Derived.Test.YtmbpgenjjgepiaaDoorBytes
import Derived.Test.YtmbpgenjjgepiaaDoorRange
import Derived.Deep.CutRange
namespace Go.Proofs.YtmbpgenjjgepiaaDoor
open Go.RowKit

theorem upD_cases (l : List Nat) (N : Nat) : upD l N = ([], 4) ∨ ∃ ls, upD l N = (ls, 0) ∧ ls.length ≤ 1000 ∧ I64s ls := by
  unfold upD
  split
  · exact .inl rfl
  · unfold unpN
    split
    · exact .inl rfl
    · rename_i h
      simp only [not_or, Decidable.not_not] at h
      obtain ⟨_, h2, _⟩ := h
      refine .inr ⟨_, rfl, ?_, unpR_in _ _ _ _ _ _⟩
      unfold packN at h2
      split at h2
      · simp at h2
      · rename_i h4; omega
theorem upX_cases (l : List Nat) (N : Nat) : upX l N = ([], 4) ∨ ∃ ls, upX l N = (ls, 0) ∧ ls.length ≤ 1000 ∧ ∀ x ∈ ls, x < 18446744073709551616 := by
  unfold upX
  split
  · exact .inl rfl
  · unfold unxN
    split
    · exact .inl rfl
    · rename_i h
      simp only [not_or, Decidable.not_not] at h
      obtain ⟨_, h2, _⟩ := h
      refine .inr ⟨_, rfl, ?_, unxR_lt _ _ _ _ _ _ (by decide)⟩
      unfold packXN at h2
      split at h2
      · simp at h2
      · rename_i h4; omega
theorem updN_any (A : Option Addr) (c : Nat) (l : List Nat) (N : Nat) (hb : Bytes l) (hl : l.length ≤ 140737488355328) (hN : N ≤ 1125899906842624) (w : World) (h : Has w w.heap.size A (u8s l)) (ht : TabAt w) (hw0 : 0 < w.heap.size) :
    Calls Tryd.prog 17 #[.agg #[.slice A l.length c, .int .i64 (N : Nat)]] w (RV (I64P (upD l N) w)) := by
  unfold upD
  by_cases hz : chkB l N = 0
  · rw [if_neg (by rw [hz]; decide)]
    have hB : 0 ≤ (N : Int) ∧ BOk l (N : Int).toNat := by
      unfold chkB at hz
      split at hz
      · assumption
      · simp at hz
    have hB : BOk l N := by simpa using hB.2
    have ep := packB_unB hb hB
    have em : (unB l N).length = N := unB_len l N
    have := unpack_any A c (unB l N) _ rfl (by omega) w (by rw [ep]; exact h) ht hw0
    rw [ep, em] at this
    exact this
  · rw [if_pos hz]
    exact unpack_bad A c l N (by omega) hl hz w h
theorem upxN_any (A : Option Addr) (c : Nat) (l : List Nat) (N : Nat) (hb : Bytes l) (hl : l.length ≤ 140737488355328) (hN : N ≤ 1125899906842624) (w : World) (h : Has w w.heap.size A (u8s l)) (ht : DebAt w) (hw0 : 1 < w.heap.size) :
    Calls Tryd.prog 18 #[.agg #[.slice A l.length c, .int .i64 (N : Nat)]] w (RV (U64P (upX l N) w)) := by
  unfold upX
  by_cases hz : chkB l N = 0
  · rw [if_neg (by rw [hz]; decide)]
    have hB : 0 ≤ (N : Int) ∧ BOk l (N : Int).toNat := by
      unfold chkB at hz
      split at hz
      · assumption
      · simp at hz
    have hB : BOk l N := by simpa using hB.2
    have ep := packB_unB hb hB
    have em : (unB l N).length = N := unB_len l N
    have := xunpack_any A c (unB l N) _ rfl (by omega) w (by rw [ep]; exact h) ht hw0
    rw [ep, em] at this
    exact this
  · rw [if_pos hz]
    exact xunpack_bad A c l N (by omega) hl hz w h
theorem zipS_len : ∀ {ts : List Int} {vs : List Nat}, ts.length = vs.length → (zipS ts vs).length = ts.length
  | [], [], _ => rfl
  | t :: ts, v :: vs, h => by
    rw [zipS, List.length_cons, List.length_cons, zipS_len (by simpa using h)]
theorem zipS_step : ∀ {ts : List Int} {vs : List Nat} {k : Nat}, ts.length = vs.length → k < ts.length → zipS (ts.take (k + 1)) (vs.take (k + 1)) = zipS (ts.take k) (vs.take k) ++ [⟨at_ ts k, i64N (at_ vs k)⟩]
  | t :: ts, v :: vs, 0, _, _ => by simp [zipS, at_, List.getD]
  | t :: ts, v :: vs, k + 1, h, hk => by
    rw [List.take_succ_cons, List.take_succ_cons, List.take_succ_cons, List.take_succ_cons, zipS, zipS, zipS_step (by simpa using h) (by simpa using hk)]
    simp [at_, List.getD]
theorem i64N_in (v : Nat) : in64 (i64N v) := by unfold i64N in64 wrap64; omega
theorem zipS_in : ∀ {ts : List Int} {vs : List Nat}, I64s ts → Smps (zipS ts vs)
  | [], _, _ => fun s h => by simp [zipS] at h
  | t :: ts, [], _ => fun s h => by simp [zipS] at h
  | t :: ts, v :: vs, h => fun s hs => by
    rw [zipS] at hs
    rcases List.mem_cons.1 hs with rfl | hs
    · exact ⟨h t (by simp), i64N_in v⟩
    · exact zipS_in (fun x hx => h x (by simp [hx])) s hs
theorem smpCs_appO (l : List Smp) (x : Smp) : smpCs (l ++ [x]) = smpCs l ++ (#[Value.int .i64 x.t, .int .i64 x.v] : Array Value).toList := by simp [smpCs, smpC]
theorem partB_bytes (bs : List Bool) : Bytes (partB bs) := fun y hy => by
  unfold partB at hy
  rcases List.mem_append.1 hy with hy | hy
  · exact putL_bytes _ y hy
  · exact packB_bytes _ y hy
theorem sealN_bytes {l : List Smp} {R : List Nat} {e : Int} (h : sealN l = (R, e)) : Bytes R := by
  unfold sealN at h
  split at h
  · injection h with h _; subst h; exact fun y hy => by cases hy
  · injection h with h _
    subst h
    intro y hy
    unfold sealB at hy
    rcases List.mem_append.1 hy with hy | hy
    · exact partB_bytes _ y hy
    · exact partB_bytes _ y hy
theorem partN_nil : partN [] = none := rfl
def OpenP (r : List Smp × Int) (w : World) (v : Value) (w' : World) : Prop :=
  ∃ A c, v = .tuple #[.slice A r.1.length c, .int .i64 r.2] ∧ w'.ownsRow w.heap.size 40 2 (.slice A r.1.length c) r.1.length (smpCs r.1) ∧ Below w.heap.size w w'
theorem OpenP.bad {w w' : World} (h : Below w.heap.size w w') : OpenP ([], 4) w (.tuple #[.slice none 0 0, .int .i64 4]) w' := ⟨none, 0, rfl, ⟨rfl, .inl ⟨rfl, rfl⟩⟩, h⟩

set_option maxRecDepth 1000000 in
set_option maxHeartbeats 8000000 in
theorem open_any (A : Option Addr) (n c : Nat) (b : List Nat) (hn : b.length = n) (hnc : n ≤ c) (hcm : c ≤ maxLen) (hl : n ≤ 140737488351232) (hb : Bytes b) (w : World) (h : Has w w.heap.size A (u8s b)) (ht : TabAt w) (hd : DebAt w) (hw0 : 1 < w.heap.size) :
    Calls Tryd.prog 7 #[.slice A n c] w (RV (OpenP (openN b) w)) := by
  have Hn := Lib.hid hn
  have HP1 := Lib.hid (part_any A n c b hn hnc hcm (by omega) hb w h)
  have HPn := Lib.hid (fun (w' : World) => part_any none 0 0 [] rfl (Nat.le_refl _) (Nat.zero_le _) (by simp) (fun y hy => by cases hy) w' (has_nilP _ _ _))
  have Hb := Lib.hid hb
  have Hh := Lib.hid h
  have HT := Lib.hid ht
  have HD := Lib.hid hd
  clear hn hb h ht hd
  go_enter Tryd.func7, Tryd.ntmps7
  go_wp2_with fail
  refine HP1.out.mono ?_
  rintro e9 w1 ⟨v, rfl, hp, hb1⟩
  rcases hp with ⟨hs, rfl⟩ | ⟨x, nx, r, B, cB, C, cC, hs, rfl, hx8, hxb, hrb, hB, hC, hrc, hcc, hbx, hbr⟩
  · have E := Lib.hid (show openN b = ([], 4) by unfold openN; rw [hs])
    have hb2 : Below w.heap.size w (w1.alloc (.cells #[.slice none 0 0, .int .i64 0] 43)) := hb1.alloc hb1.size _
    have HPn2 := Lib.hid (HPn.out (w1.alloc (.cells #[.slice none 0 0, .int .i64 0] 43)))
    clear hs HP1
    simp only [noPart]
    go_wp2_with fail
    refine HPn2.out.mono ?_
    rintro e9 w3 ⟨v, rfl, hp, hb3⟩
    have hb03 := bnext hb2 hb3
    rcases hp with ⟨_, rfl⟩ | ⟨_, _, _, _, _, _, _, hs, _⟩
    · simp only [noPart]
      go_wp2_with fail
      go_ret2
      rw [E.out]
      exact RV.mk (OpenP.bad (hb03.alloc hb03.size _))
    · rw [partN_nil] at hs; cases hs
  · obtain ⟨q, hq⟩ : ∃ q, x.length = q := ⟨_, rfl⟩
    obtain ⟨m, hm⟩ : ∃ m, r.length = m := ⟨_, rfl⟩
    have hb2' : Below w1.heap.size w1 (w1.alloc (.cells #[.slice B q cB, .int .i64 (nx : Nat)] 43)) := (Below.refl _ _).alloc (Nat.le_refl _) _
    have hk2 : Blk (w1.alloc (.cells #[.slice B q cB, .int .i64 (nx : Nat)] 43)) w1.heap.size 43 #[.slice B q cB, .int .i64 (nx : Nat)] := Blk.new _ _ _
    have hb2 := bnext hb1 hb2'
    have HB2 := Lib.hid (hB.next hb2')
    have hC2 := hC.next hb2'
    have Hhs := Lib.hid hs
    have Hq := Lib.hid hq
    have Hbx := Lib.hid hbx
    rw [Hn.out] at hxb hrb
    rw [hm] at hrc
    have HP2 := Lib.hid (part_any C m cC r hm hrc hcc (by omega) hbr _ hC2)
    have hqn : q ≤ 140737488355328 := by rw [← hq, hx8]; omega
    rw [hq, hm]
    clear hb2' hB hC hC2 hs hx8 hq hbx hbr HP1 HPn
    go_wp2_with fail
    obtain ⟨W2, hW2⟩ : ∃ W2, w1.alloc (.cells #[.slice B q cB, .int .i64 (nx : Nat)] 43) = W2 := ⟨_, rfl⟩
    obtain ⟨g1, hg1⟩ : ∃ g1, w1.heap.size = g1 := ⟨_, rfl⟩
    rw [hW2] at hk2 hb2 HB2 HP2 ⊢
    rw [hg1] at hk2 ⊢
    clear hW2 hg1
    refine HP2.out.mono ?_
    rintro e9 w3 ⟨v, rfl, hp, hb3⟩
    have hb03 := bnext hb2 hb3
    rcases hp with ⟨hs, rfl⟩ | ⟨y, ny, r2, D, cD, F, cF, hs, rfl, hy8, hyb, _, hD, hF, _, _, hby, _⟩
    · have E := Lib.hid (show openN b = ([], 4) by unfold openN; rw [Hhs.out]; simp only []; rw [hs])
      simp only [noPart]
      clear hs HP2
      go_wp2_with fail
      go_ret2
      rw [E.out]
      exact RV.mk (OpenP.bad (hb03.alloc hb03.size _))
    · obtain ⟨p, hp⟩ : ∃ p, y.length = p := ⟨_, rfl⟩
      obtain ⟨m2, hm2⟩ : ∃ m2, r2.length = m2 := ⟨_, rfl⟩
      have hb4' : Below w3.heap.size w3 (w3.alloc (.cells #[.slice D p cD, .int .i64 (ny : Nat)] 43)) := (Below.refl _ _).alloc (Nat.le_refl _) _
      have hk4b : Blk (w3.alloc (.cells #[.slice D p cD, .int .i64 (ny : Nat)] 43)) w3.heap.size 43 #[.slice D p cD, .int .i64 (ny : Nat)] := Blk.new _ _ _
      have hk4 := (hk2.next hb3).next hb4'
      have hb4 := bnext hb03 hb4'
      have HB4 := Lib.hid ((HB2.out.next hb3).next hb4')
      have HD4 := Lib.hid (hD.next hb4')
      have Hp := Lib.hid hp
      have Hby := Lib.hid hby
      rw [hm] at hyb
      have hpn : p ≤ 140737488355328 := by rw [← hp, hy8]; omega
      have HE := Lib.hid (show openN b = if r2 ≠ [] then ([], 4) else openP b (x, nx) (y, ny) by unfold openN; rw [Hhs.out]; simp only []; rw [hs])
      rw [hp, hm2]
      by_cases h0 : 0 < m2
      · have E := Lib.hid (show openN b = ([], 4) by rw [HE.out, if_pos (fun e => by rw [e] at hm2; simp at hm2; omega)])
        have h0' : (0 : Int) < (m2 : Int) := by omega
        clear hs HP2 hk2 hk4 hk4b hD hF hp hy8 hby hm2
        go_wp2_with fail
        go_ret2
        rw [E.out]
        exact RV.mk (OpenP.bad hb4)
      · have h0' : ¬ (0 : Int) < (m2 : Int) := by omega
        have E0 := Lib.hid (show openN b = openP b (x, nx) (y, ny) by rw [HE.out, if_neg (fun h => h (List.eq_nil_of_length_eq_zero (by omega)))])
        have HUx := Lib.hid (updN_any B cB x nx Hbx.out (by rw [Hq.out]; exact hqn) (by omega) _ HB4.out (HT.out.below (by omega) hb4) (by have := hk4.lt; omega))
        have HUy := Lib.hid (fun (w' : World) (hb : Below (w3.alloc (.cells #[.slice D p cD, .int .i64 (ny : Nat)] 43)).heap.size (w3.alloc (.cells #[.slice D p cD, .int .i64 (ny : Nat)] 43)) w') => upxN_any D cD y ny Hby.out (by rw [Hp.out]; exact hpn) (by omega) w' (HD4.out.next hb) (HD.out.below hw0 (bnext hb4 hb)) (by have := (bnext hb4 hb).size; omega))
        rw [Hq.out] at HUx
        rw [Hp.out] at HUy
        clear hs HP2 hk2 hD hF hp hy8 hby hm2 HE hb4'
        go_upto_region 5 with fail
        obtain ⟨W4, hW4⟩ : ∃ W4, w3.alloc (.cells #[.slice D p cD, .int .i64 (ny : Nat)] 43) = W4 := ⟨_, rfl⟩
        obtain ⟨g2, hg2⟩ : ∃ g2, w3.heap.size = g2 := ⟨_, rfl⟩
        rw [hW4] at hk4 hk4b hb4 HB4 HD4 HUx HUy ⊢
        rw [hg2] at hk4b ⊢
        clear hW4 hg2
        have x0 : W4.cell? ⟨g1, 0, none⟩ = some (.slice B q cB) := hk4.cell 0
        have x1 : W4.cell? ⟨g1, 1, none⟩ = some (.int .i64 (nx : Nat)) := hk4.cell 1
        go_wp2_with fail
        refine HUx.out.mono ?_
        rintro e9 w5 ⟨v, rfl, A5, c5, rfl, hown5, hb5⟩
        have hb05 := bnext hb4 hb5
        have hk5 := hk4b.next hb5
        have x0 : w5.cell? ⟨g2, 0, none⟩ = some (.slice D p cD) := hk5.cell 0
        have x1 : w5.cell? ⟨g2, 1, none⟩ = some (.int .i64 (ny : Nat)) := hk5.cell 1
        have HU6 := Lib.hid (HUy.out _ hb5)
        obtain ⟨⟨ts, et⟩, hut⟩ : ∃ r, upD x nx = r := ⟨_, rfl⟩
        rw [hut] at hown5 ⊢
        simp only [] at hown5 ⊢
        obtain ⟨nt, hnt⟩ : ∃ nt, ts.length = nt := ⟨_, rfl⟩
        rw [hnt] at hown5 ⊢
        go_wp2_with fail
        refine HU6.out.mono ?_
        rintro e9 w6 ⟨v, rfl, A6, c6, rfl, hown6, hb6⟩
        have hb06 := bnext hb05 hb6
        obtain ⟨⟨vs, ev⟩, huv⟩ : ∃ r, upX y ny = r := ⟨_, rfl⟩
        rw [huv] at hown6 ⊢
        simp only [] at hown6 ⊢
        obtain ⟨nv, hnv⟩ : ∃ nv, vs.length = nv := ⟨_, rfl⟩
        rw [hnv] at hown6 ⊢
        have hct := upD_cases x nx
        rw [hut] at hct
        have hcv := upX_cases y ny
        rw [huv] at hcv
        have E1 := Lib.hid (show openN b = if et ≠ 0 ∨ ev ≠ 0 ∨ nt ≠ nv then ([], 4) else openV b ts vs by rw [E0.out]; unfold openP; simp only [hut, huv, hnt, hnv])
        clear E0 hut huv HUx HUy HU6 x0 x1 hk4 hk4b hk5
        by_cases hbad : et ≠ 0 ∨ ev ≠ 0 ∨ nt ≠ nv
        · have E := Lib.hid (show openN b = ([], 4) by rw [E1.out, if_pos hbad])
          clear hct hcv hown5 hown6 hnt hnv
          rcases (show et ≠ 0 ∨ (et = 0 ∧ ev ≠ 0) ∨ (et = 0 ∧ ev = 0 ∧ nt ≠ nv) by omega) with f1 | ⟨rfl, f1⟩ | ⟨rfl, rfl, f1⟩
          · have f2 : (et != 0) = true := by rw [bne_iff_ne]; exact f1
            clear hbad f1
            go_wp2_with fail
            go_ret2
            rw [E.out]
            exact RV.mk (OpenP.bad hb06)
          · have f2 : (ev != 0) = true := by rw [bne_iff_ne]; exact f1
            clear hbad f1
            go_wp2_with fail
            go_ret2
            rw [E.out]
            exact RV.mk (OpenP.bad hb06)
          · have f2 : ((nt : Int) != (nv : Int)) = true := by rw [bne_iff_ne]; omega
            clear hbad f1
            go_wp2_with fail
            go_ret2
            rw [E.out]
            exact RV.mk (OpenP.bad hb06)
        · obtain ⟨rfl, rfl, rfl⟩ : et = 0 ∧ ev = 0 ∧ nt = nv := by omega
          have hct2 : nt ≤ 1000 ∧ I64s ts := by
            rcases hct with h | ⟨ls, h, h1, h2⟩
            · cases h
            · injection h with h _; subst h; exact ⟨by rw [← hnt]; exact h1, h2⟩
          have hcv2 : ∀ x ∈ vs, x < 18446744073709551616 := by
            rcases hcv with h | ⟨ls, h, h1, h2⟩
            · cases h
            · injection h with h _; subst h; exact h2
          have E2 := Lib.hid (show openN b = openV b ts vs by rw [E1.out, if_neg hbad])
          obtain ⟨hnt1, hti⟩ := hct2
          have Hti := Lib.hid hti
          have Hvi := Lib.hid hcv2
          have Hnt := Lib.hid hnt
          have Hnv := Lib.hid hnv
          have HTs := Lib.hid ((Has.of_own hown5).next hb6)
          have HVs := Lib.hid (Has.of_own hown6)
          have hlen : Hid (ts.length = vs.length) := Lib.hid (by rw [hnt, hnv])
          clear hbad E1 hti hct hcv hcv2 hnt hnv hown5 hown6
          go_wp2_with fail
          obtain ⟨W6, rfl⟩ : ∃ W6, W6 = w6 := ⟨_, rfl⟩
          go_loopw [13, 65] (fun ov iv wr => ∃ (k : Nat) (O : Option Addr) (e : Nat), k ≤ nt ∧ iv = .int .i64 (k : Nat) ∧ ov = .slice O k e ∧ Hid (wr.ownsRow W6.heap.size 40 2 (.slice O k e) k (smpCs (zipS (ts.take k) (vs.take k)))) ∧ Below W6.heap.size W6 wr) (fun _ iv _ => nt + 5 - (intOf iv).toNat)
          case atStart => exact ⟨0, none, 0, by omega, rfl, rfl, Lib.hid ⟨rfl, .inl ⟨rfl, rfl⟩⟩, Below.refl _ _⟩
          case round =>
            obtain ⟨k, O, e, hk, rfl, rfl, hown, hbr⟩ := hrel
            have hbs := hbr.size
            by_cases hlt : (k : Int) < (nt : Int)
            · obtain ⟨ad, rfl, _, c0⟩ := (HTs.out.next hbr).at (i64s_at (show k < ts.length by rw [Hnt.out]; omega))
              obtain ⟨bd, rfl, _, c1⟩ := (HVs.out.next hbr).at (u64s_at (show k < vs.length by rw [Hnv.out]; omega))
              have st := Lib.hid (zipS_step hlen.out (show k < ts.length by rw [Hnt.out]; omega))
              have hvl := Hvi.out _ (at_mem (show k < vs.length by rw [Hnv.out]; omega))
              obtain ⟨t, ht⟩ : ∃ t, at_ ts k = t := ⟨_, rfl⟩
              obtain ⟨u, hu⟩ : ∃ u, at_ vs k = u := ⟨_, rfl⟩
              rw [ht, hu] at st
              rw [ht] at c0
              rw [hu] at c1 hvl
              have ew : wrap64 (u : Int) = i64N u := rfl
              have h0k : (0 : Int) ≤ (k : Int) := by omega
              clear ht hu
              go_wp2_with (at_builtin; refine wpList_append1 rfl _ _ _ rfl elSmp (v := .slice O k e) rfl hown.out rfl rfl rfl ?_ ?k1 ?k2 ?k3 ?k4; intro A7 c7 w7 hown7 hgrow7 hbel7)
              case k1 => first | exact ⟨rfl, rfl⟩ | (intro u hu; simp at hu; rcases hu with rfl | rfl <;> rfl) | (intro u hu; simp at hu; rcases hu with hu | hu <;> subst hu <;> rfl)
              case k2 => omega
              case k3 => unfold maxLen; omega
              case k4 => exact hbs
              have HO7 := Lib.hid hown7
              have HB7 := Lib.hid (hbr.trans hbel7)
              clear hown7 hgrow7 hbel7
              go_wp2_with fail
              go_roundw
              case rel => exact ⟨k + 1, A7, c7, by omega, by go_num, rfl, Lib.hid (by rw [st.out, smpCs_appO]; exact HO7.out), HB7.out⟩
              case measure => simp [intOf]; omega
            · obtain rfl : k = nt := by omega
              have e1 : ts.take k = ts := by rw [← Hnt.out, List.take_length]
              have e2 : vs.take k = vs := by rw [← Hnv.out, List.take_length]
              have hz := hown.out
              rw [e1, e2] at hz
              have hzl : (zipS ts vs).length = k := by rw [zipS_len hlen.out, Hnt.out]
              have hzi : Smps (zipS ts vs) := zipS_in Hti.out
              have E3 : openN b = if sealN (zipS ts vs) = (b, 0) then (zipS ts vs, 0) else ([], 4) := E2.out
              obtain ⟨Z, hZ⟩ : ∃ Z, zipS ts vs = Z := ⟨_, rfl⟩
              rw [hZ] at hz hzl hzi E3
              have hb09 := bnext hb06 hbr
              have hs09 := hb09.size
              have HSe := Lib.hid (seal_any O k e Z _ rfl hzl (by rw [hzl]; unfold maxLen; omega) hzi wr (Has.of_own hz) (HT.out.below (by omega) hb09) (HD.out.below hw0 hb09) (by omega))
              obtain ⟨⟨R, er⟩, hr⟩ : ∃ r, sealN Z = r := ⟨_, rfl⟩
              rw [hr] at HSe E3
              have hRb : Bytes R := sealN_bytes hr
              have HE3 := Lib.hid E3
              have HZ := Lib.hid hz
              have Hzl := Lib.hid hzl
              have HRb := Lib.hid hRb
              clear hr hz hzl hzi e1 e2 hZ hown hRb E2 E3
              go_wp2_with fail
              refine HSe.out.mono ?_
              rintro e9 w8 ⟨v, rfl, A8, c8, rfl, hown8, hb8⟩
              have hb08 := bnext hb09 hb8
              simp only [] at hown8 ⊢
              obtain ⟨rl, hrl⟩ : ∃ rl, R.length = rl := ⟨_, rfl⟩
              rw [hrl] at hown8 ⊢
              by_cases her : er = 0
              · subst her
                have HEq := Lib.hid (bytesEqual_any A8 A rl n c8 c R b HRb.out Hb.out hrl Hn.out w8 (Has.of_own hown8) (Hh.out.next hb08))
                have HZ8 := Lib.hid (own_next HZ.out hb8)
                clear hown8 hrl HSe
                by_cases hRe : R = b
                · have E := Lib.hid (show openN b = (Z, 0) by rw [HE3.out, if_pos (by rw [hRe])])
                  rw [decide_eq_true hRe] at HEq
                  clear hRe HE3
                  go_wp2_with fail
                  refine HEq.out.mono ?_
                  rintro e9 w9 ⟨rfl, hd9⟩
                  have hb09' := bnext hb08 (drawn_below hd9)
                  have HZ9 := Lib.hid (own_next HZ8.out (drawn_below hd9))
                  go_wp2_with fail
                  go_ret2
                  rw [E.out]
                  exact RV.mk ⟨O, e, by show Value.tuple #[.slice O k e, .int .i64 0] = Value.tuple #[.slice O Z.length e, .int .i64 0]; rw [Hzl.out], by rw [Hzl.out]; exact own_less HZ9.out hb06.size, hb09'⟩
                · have E := Lib.hid (show openN b = ([], 4) by rw [HE3.out, if_neg (fun h => hRe (by injection h))])
                  rw [decide_eq_false hRe] at HEq
                  clear hRe HE3
                  go_wp2_with fail
                  refine HEq.out.mono ?_
                  rintro e9 w9 ⟨rfl, hd9⟩
                  have hb09' := bnext hb08 (drawn_below hd9)
                  go_wp2_with fail
                  go_ret2
                  rw [E.out]
                  exact RV.mk (OpenP.bad hb09')
              · have E := Lib.hid (show openN b = ([], 4) by rw [HE3.out, if_neg (fun h => her (by injection h))])
                have f2 : (er != 0) = true := by rw [bne_iff_ne]; exact her
                clear HE3 her hown8 hrl HSe
                go_wp2_with fail
                go_ret2
                rw [E.out]
                exact RV.mk (OpenP.bad hb08)
end Go.Proofs.YtmbpgenjjgepiaaDoor
