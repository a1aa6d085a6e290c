/- slices.Concat of two rows of int. Conditions: rows lie in their cells. -/
import Derived.Test.YtmfndpkhcejffaaCloneN
import Derived.Test.YtmfndpkhcejffaaOwn
import Derived.Lib.AppendZeros
import Derived.OwnWalk
namespace Go.Proofs.Ytmfndpkhcejffaa
open Go.RowKit

theorem infoNc : (Try.prog.info? 3).map (fun i => (i.zero, i.size, i.bytes)) = some (some (.int .i64 0), 1, 8) := by kernel_rfl
theorem i64sN_len (l : List Int) : (i64s l).length = l.length * 1 := by rw [i64s_len, Nat.mul_one]
theorem i64sN_app (l m : List Int) : i64s (l ++ m) = i64s l ++ i64s m := by simp [i64s]
theorem i64sN_one (l : List Int) : ∀ u ∈ i64s l, u.oneCell' = true := by
  intro u hu
  simp only [i64s, List.mem_map] at hu
  obtain ⟨b, _, rfl⟩ := hu
  rfl
theorem zeros_sizeN (v : Value) (n : Nat) : (Builtin.zeroCells #[v] n).size = n := by simp [Builtin.zeroCells]

set_option maxRecDepth 1000000 in
set_option maxHeartbeats 4000000 in
theorem growN_any (n : Nat) (hn : n ≤ 35184372088832) (w : World) :
    Calls Try.prog 49 #[.slice none 0 0, .int .i64 n] w (RV fun v w' => ∃ A c, v = .slice A 0 c ∧ w'.ownsRow w.heap.size 3 1 (.slice A 0 c) 0 [] ∧ n ≤ c ∧ Below w.heap.size w w') := by
  rcases Nat.eq_zero_or_pos n with rfl | hp
  · go_enter Try.func49, Try.ntmps49
    go_wp2_with fail
    go_ret
    exact RV.mk ⟨none, 0, rfl, ⟨rfl, .inl ⟨rfl, rfl⟩⟩, Nat.le_refl _, Below.refl _ _⟩
  · have e0 : IntKind.i64.wrap (n : Int) = (n : Int) := IntWalk.i64_in _ (by omega)
    have h1 : ¬ (n : Int) < 0 := by omega
    have h2 : (0 : Int) < (n : Int) := by omega
    obtain ⟨i0, i1, i2, i3, i4⟩ := info_parts infoNc
    have hrun := fun ty => Lib.run_append_nil_zeros (P := Try.prog) w 31 3 ty 3 i0 (.int .i64 0) .i64 .i64 Try.underlying31 Try.underlying3 i1 i2 n hp (by omega) (by omega) (by rw [i4]; omega)
    have hge := grownCap_ge w n 0 3
    have hle := grownCap_le_maxLen w n 0 3 (by unfold maxLen; omega)
    obtain ⟨cp, hcp⟩ : ∃ cp, grownCap w n 0 3 = cp := ⟨_, rfl⟩
    rw [hcp] at hge hle
    obtain ⟨cs, hcs⟩ : ∃ cs, Builtin.zeroCells (Value.int .i64 0).cells n ++ Builtin.zeroCells (Value.int .i64 0).cells (cp - n) = cs := ⟨_, rfl⟩
    have hsz : cs.size = cp * 1 := by
      rw [← hcs]
      show (Builtin.zeroCells #[Value.int .i64 0] n ++ Builtin.zeroCells #[Value.int .i64 0] (cp - n)).size = _
      rw [Array.size_append, zeros_sizeN, zeros_sizeN]; omega
    simp only [hcp, hcs] at hrun
    have HR := Lib.hid hrun
    clear hcp hcs hrun
    go_enter Try.func49, Try.ntmps49
    go_wp2_with (at_builtin; refine Lib.wpList_append_run _ rfl _ _ _ _ rfl _ _ rfl rfl _ _ (HR.out _) ?_)
    go_ret
    refine RV.mk ⟨some ⟨w.heap.size, 0, none⟩, cp, rfl, ⟨rfl, .inr ⟨w.heap.size, cp, cs, rfl, Nat.le_refl _, heap_alloc_new w.drew _, Nat.zero_le _, hle, hsz, ?_⟩⟩, hge, ?_⟩
    · simp
    · exact (below_drewN (Below.refl w.heap.size w) 1).alloc (Nat.le_refl _) _

set_option maxRecDepth 1000000 in
set_option maxHeartbeats 8000000 in
theorem concatN_any (A : Option Addr) (n c : Nat) (l : List Int) (B : Option Addr) (m c' : Nat) (k : List Int) (hn : l.length = n) (hm : k.length = m) (hnb : n ≤ 17592186044415) (hmb : m ≤ 17592186044415) (hA : A = none → c = 0) (hnc : n ≤ c) (hB : B = none → c' = 0) (hmc : m ≤ c') (w : World)
    (h : Has w w.heap.size A (i64s l)) (h' : Has w w.heap.size B (i64s k)) (ad : Addr) (hbl : ad.block < w.heap.size) (v0 : w.cell? ad = some (.slice A n c)) (v1 : w.cell? (ad.add 1) = some (.slice B m c')) :
    Calls Try.prog 34 #[.slice (some ad) 2 2] w (RV fun v w' => ∃ A' c'', v = .slice A' (n + m) c'' ∧ w'.ownsRow w.heap.size 3 1 (.slice A' (n + m) c'') (n + m) (i64s (l ++ k)) ∧ Below w.heap.size w w') := by
  have Hn := Lib.hid hn; clear hn
  have Hm := Lib.hid hm; clear hm
  have z1 : ad.add 0 = ad := by unfold Addr.add; rw [if_pos rfl]
  obtain ⟨t, ht⟩ : ∃ t, n + m = t := ⟨_, rfl⟩
  have HT := Lib.hid ht
  have e1 : IntKind.i64.wrap (n : Int) = (n : Int) := IntWalk.i64_in _ (by omega)
  have e2 : IntKind.i64.wrap ((n : Int) + (m : Int)) = (t : Int) := (IntWalk.i64_in _ (by omega)).trans (by omega)
  have htb : t ≤ 35184372088832 := by omega
  rw [ht]
  clear ht
  have v1' : w.cell? ⟨ad.block, ad.off + 1, none⟩ = some (.slice B m c') := by rw [← v1]; congr 1
  go_enter Try.func34, Try.ntmps34
  go_wp2_with fail
  go_loopw [3, 11] (fun s i wr => ∃ j : Nat, j ≤ 2 ∧ i = .int .i64 (j : Nat) ∧ s = .int .i64 (if j = 0 then 0 else if j = 1 then (n : Int) else (t : Int)) ∧ wr = w) (fun _ i _ => 2 - (intOf i).toNat)
  case atStart => exact ⟨0, by omega, rfl, rfl, rfl⟩
  case round =>
    obtain ⟨j, hj, rfl, rfl, rfl⟩ := hrel
    rcases (show j = 0 ∨ j = 1 ∨ j = 2 by omega) with rfl | rfl | rfl
    · go_wp2_with fail
      go_roundw
      case rel => exact ⟨1, by omega, by go_num, rfl, by trivial⟩
      case measure => simp [intOf]
    · go_wp2_with fail
      go_roundw
      case rel => exact ⟨2, by omega, by go_num, rfl, by trivial⟩
      case measure => simp [intOf]
    · obtain ⟨W0, rfl⟩ : ∃ W0, W0 = wr := ⟨_, rfl⟩
      go_wp2_with fail
      refine (growN_any t htb _).mono ?_
      rintro e w2 ⟨v, rfl, A3, c3, rfl, hown3, htc3, hb2⟩
      obtain ⟨bs, hbs⟩ : ∃ bs, W0.heap.size = bs := ⟨_, rfl⟩
      have hbb : bs ≤ w2.heap.size := by rw [← hbs]; exact hb2.size
      rw [hbs] at hown3
      obtain ⟨i0, i1, i2, i3, i4⟩ := info_parts infoNc
      have HV0 := Lib.hid (fun (w' : World) (hb : Below W0.heap.size W0 w') => (hb.cell (p := ad) hbl).trans v0)
      have HV1 := Lib.hid (fun (w' : World) (hb : Below W0.heap.size W0 w') => (hb.cell (p := ⟨ad.block, ad.off + 1, none⟩) hbl).trans v1')
      have HBS := Lib.hid hbs
      clear hbs v0 v1 v1'
      go_wp2_with fail
      go_loopw [6, 8, 27] (fun o _ i wq => ∃ (j : Nat) (A4 : Option Addr) (c4 : Nat), j ≤ 2 ∧ i = .int .i64 (j : Nat) ∧ o = .slice A4 (if j = 0 then 0 else if j = 1 then n else t) c4 ∧ t ≤ c4 ∧ wq.ownsRow bs 3 1 (.slice A4 (if j = 0 then 0 else if j = 1 then n else t) c4) (if j = 0 then 0 else if j = 1 then n else t) (i64s (if j = 0 then [] else if j = 1 then l else l ++ k)) ∧ Below W0.heap.size W0 wq ∧ bs ≤ wq.heap.size) (fun _ _ i _ => 2 - (intOf i).toNat)
      case atStart => exact ⟨0, A3, c3, by omega, rfl, rfl, htc3, hown3, hb2, hbb⟩
      case round =>
        obtain ⟨wq, rfl⟩ : ∃ wq, wq = wr := ⟨_, rfl⟩
        obtain ⟨j, A4, c4, hj, rfl, rfl, htc, hown, hbr, hbs⟩ := hrel
        have v0 := HV0.out _ hbr
        have v1 := HV1.out _ hbr
        rcases (show j = 0 ∨ j = 1 ∨ j = 2 by omega) with rfl | rfl | rfl
        · have hown : wq.ownsRow bs 3 1 (.slice A4 0 c4) 0 [] := hown
          rcases hown.2 with ⟨hv, hz⟩ | ⟨g, cap, cur, hv, hbg, hgg, hnc2, hcm, hcs, htk⟩
          · injection hv with hv1 hv2 hv3
            subst hv1 hv3
            have hn0 : n = 0 := by have := HT.out; omega
            have hm0 : m = 0 := by have := HT.out; omega
            have HN0 := Lib.hid hn0
            have HM0 := Lib.hid hm0
            clear hn0 hm0 hv2 hz
            go_wp2_with (at_builtin; refine wpList_spread rfl _ _ _ rfl elN rfl hown rfl (by exact h.next hbr) ?_ ?c1 ?c2 ?c3 ?c4 ?c5; intro A5 c5 w5 hown5 hgrow5 hbel5)
            case c1 => rw [i64sN_len, Hn.out, Nat.mul_one]
            case c2 => exact i64sN_one _
            case c3 => have := HN0.out; have := HM0.out; have := HT.out; omega
            case c4 => unfold maxLen; omega
            have h55 : t ≤ c5 := by have := HN0.out; have := HM0.out; have := HT.out; omega
            have HO := Lib.hid hown5
            have HB := Lib.hid hbel5
            clear hown5 hbel5 hgrow5
            go_wp2_with fail
            go_roundw
            case rel => exact ⟨1, A5, c5, by omega, by go_num, by show _ = Value.slice _ n _; simp, h55, by have := HO.out; simpa using this, by exact hbr.trans (HB.out.mono (by rw [HBS.out]; exact Nat.le_refl _)), by have := HB.out.size; omega⟩
            case measure => simp [intOf]
          · injection hv with hv1 hv2 hv3
            subst hv1 hv3
            clear hv2
            have hone := i64sN_one l
            have hsl : (i64s l).length = n * 1 := by rw [i64sN_len, Hn.out]
            have hcells : ∀ ad', A = some ad' → ∀ j u, (i64s l)[j]? = some u → wq.cell? (ad'.add j) = some u := fun ad' e j u hu => by
              obtain ⟨ad2, e2, _, hcc⟩ := (h.next hbr) (by intro e; rw [e] at hu; simp at hu)
              rw [e] at e2; injection e2 with e2; rw [e2]; exact hcc j u hu
            have hnil : A = none → n = 0 ∧ c = 0 := fun e => by have := hA e; omega
            have HS := Lib.hid hsl
            have HC := Lib.hid hcells
            clear hsl hcells
            have hfit : 0 + n ≤ c4 := by have := HT.out; omega
            go_wp2_with (at_builtin; refine wpList_append_fits_any _ rfl _ _ _ rfl bs 3 i0 1 Try.underlying31 i1 i3 g _ c4 _ rfl hown A n c (i64s l) rfl HS.out hnil HC.out hone hfit ?_; intro w5 hown5 hgrow5)
            have hbel5 := grown_below hown hgrow5 hbs
            have HO := Lib.hid hown5
            have HB := Lib.hid hbel5
            clear hown5 hbel5 hgrow5
            go_wp2_with fail
            go_roundw
            case rel => exact ⟨1, some ⟨g, 0, none⟩, c4, by omega, by go_num, by show _ = Value.slice _ n _; simp, htc, by have := HO.out; simpa using this, by exact hbr.trans (HB.out.mono (by rw [HBS.out]; exact Nat.le_refl _)), by have := HB.out.size; omega⟩
            case measure => simp [intOf]
        · have hown : wq.ownsRow bs 3 1 (.slice A4 n c4) n (i64s l) := hown
          rcases hown.2 with ⟨hv, hz⟩ | ⟨g, cap, cur, hv, hbg, hgg, hnc2, hcm, hcs, htk⟩
          · injection hv with hv1 hv2 hv3
            subst hv1 hv3
            have hn0 : n = 0 := by have := HT.out; omega
            have hm0 : m = 0 := by have := HT.out; omega
            have HN0 := Lib.hid hn0
            have HM0 := Lib.hid hm0
            clear hn0 hm0 hv2 hz
            go_wp2_with (at_builtin; refine wpList_spread rfl _ _ _ rfl elN rfl hown rfl (by exact h'.next hbr) ?_ ?c1 ?c2 ?c3 ?c4 ?c5; intro A5 c5 w5 hown5 hgrow5 hbel5)
            case c1 => rw [i64sN_len, Hm.out, Nat.mul_one]
            case c2 => exact i64sN_one _
            case c3 => have := HN0.out; have := HM0.out; have := HT.out; omega
            case c4 => unfold maxLen; omega
            have h55 : t ≤ c5 := by have := HN0.out; have := HM0.out; have := HT.out; omega
            have HO := Lib.hid hown5
            have HB := Lib.hid hbel5
            clear hown5 hbel5 hgrow5
            go_wp2_with fail
            go_roundw
            case rel => exact ⟨2, A5, c5, by omega, by go_num, by show _ = Value.slice _ t _; rw [← HT.out], h55, by have := HO.out; rw [HT.out] at this; show World.ownsRow _ _ _ _ (.slice _ t _) t (i64s (l ++ k)); rw [i64sN_app]; exact this, by exact hbr.trans (HB.out.mono (by rw [HBS.out]; exact Nat.le_refl _)), by have := HB.out.size; omega⟩
            case measure => simp [intOf]
          · injection hv with hv1 hv2 hv3
            subst hv1 hv3
            clear hv2
            have hone := i64sN_one k
            have hsl : (i64s k).length = m * 1 := by rw [i64sN_len, Hm.out]
            have hcells : ∀ ad', B = some ad' → ∀ j u, (i64s k)[j]? = some u → wq.cell? (ad'.add j) = some u := fun ad' e j u hu => by
              obtain ⟨ad2, e2, _, hcc⟩ := (h'.next hbr) (by intro e; rw [e] at hu; simp at hu)
              rw [e] at e2; injection e2 with e2; rw [e2]; exact hcc j u hu
            have hnil : B = none → m = 0 ∧ c' = 0 := fun e => by have := hB e; omega
            have HS := Lib.hid hsl
            have HC := Lib.hid hcells
            clear hsl hcells
            have hfit : n + m ≤ c4 := by have := HT.out; omega
            go_wp2_with (at_builtin; refine wpList_append_fits_any _ rfl _ _ _ rfl bs 3 i0 1 Try.underlying31 i1 i3 g _ c4 _ rfl hown B m c' (i64s k) rfl HS.out hnil HC.out hone hfit ?_; intro w5 hown5 hgrow5)
            have hbel5 := grown_below hown hgrow5 hbs
            have HO := Lib.hid hown5
            have HB := Lib.hid hbel5
            clear hown5 hbel5 hgrow5
            go_wp2_with fail
            go_roundw
            case rel => exact ⟨2, some ⟨g, 0, none⟩, c4, by omega, by go_num, by show _ = Value.slice _ t _; rw [← HT.out], htc, by have := HO.out; rw [HT.out] at this; show World.ownsRow _ _ _ _ (.slice _ t _) t (i64s (l ++ k)); rw [i64sN_app]; exact this, by exact hbr.trans (HB.out.mono (by rw [HBS.out]; exact Nat.le_refl _)), by have := HB.out.size; omega⟩
            case measure => simp [intOf]
        · have hown : wq.ownsRow bs 3 1 (.slice A4 t c4) t (i64s (l ++ k)) := hown
          have HO := Lib.hid hown
          have ht2 := HT.out
          clear hown
          go_wp2_with fail
          go_ret
          exact RV.mk ⟨A4, c4, rfl, own_less HO.out (by rw [HBS.out]; exact Nat.le_refl _), hbr⟩
end Go.Proofs.Ytmfndpkhcejffaa
