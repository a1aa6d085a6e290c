/- What Merge of package rank answers. Conditions: both ranks were added to, one by one. -/
import Derived.Test.YthofijhjbaaokaaRkMl
import Derived.Deep.RegionHeldLaw
import Derived.Deep.CutRange
namespace Go.Proofs.Ythofijhjbaaokaa
open Go.RowKit

set_option maxRecDepth 1000000 in
set_option maxHeartbeats 16000000 in
theorem rMerge_any (K : Int) (T : List Int) (L : List (List Int)) (N S : Int) (l : List Int) (hG : RkG K T L N S l) (hL : L.length ≤ 20) (U : List Int) (M : List (List Int)) (N' S' : Int) (m : List Int) (hG' : RkG K U M N' S' m) (hM : M.length ≤ 20) (x y : Value) (w : World) (hx : RkVal w K T L N S x) (hy : RkVal w K U M N' S' y) :
    Calls Try.prog 10 #[x, y] w (RV (AddV K (l ++ m) w)) := by
  obtain ⟨A, c, B, e, vs, rfl, hT, hLe, hem, hB, hLs⟩ := hx
  obtain ⟨A2, c2, B2, e2, vs2, rfl, hU, hMe, hem2, hB2, hMs⟩ := hy
  have hK : in64 K := ⟨by have := hG.k2; omega, by have := hG.k64; omega⟩
  have h64 : ∀ {T : List Int} {L : List (List Int)} {N S : Int} {l : List Int}, RkG K T L N S l → ∀ k, k < L.length → (at_ L k).length ≤ 64 := fun hG k _ => by
    have := hG.k64
    rcases hG.row k with h1 | h1
    · omega
    · rw [h1]; simp
  have hT64 : T.length ≤ 64 := by have := hG.tk; have := hG.k64; omega
  have hU64 : U.length ≤ 64 := by have := hG'.tk; have := hG'.k64; omega
  have HCa := Lib.hid (fun (w' : World) (hb : Below w.heap.size w w') => rcheck_any K hK A c T B e L vs N S hLe hem w' (hT.next hb) (hB.next hb) (hLs.next hb) (by omega))
  have HCb := Lib.hid (fun (w' : World) (hb : Below w.heap.size w w') => rcheck_any K hK A2 c2 U B2 e2 M vs2 N' S' hMe hem2 w' (hU.next hb) (hB2.next hb) (hMs.next hb) (by omega))
  rw [hG.chk hL] at HCa
  rw [hG'.chk hM] at HCb
  have HOa := Lib.hid (fun (w' : World) (hb : Below w.heap.size w w') => own_any K A c T B e L vs N S hLe hem (by omega) hT64 (h64 hG) w' (hT.next hb) (hB.next hb) (hLs.next hb))
  have HOb := Lib.hid (fun (w' : World) (hb : Below w.heap.size w w') => own_any K A2 c2 U B2 e2 M vs2 N' S' hMe hem2 (by omega) hU64 (h64 hG') w' (hU.next hb) (hB2.next hb) (hMs.next hb))
  have HM := Lib.hid (hG.m hG' hL hM)
  have hs1 := hG.slack
  have hs2 := hG'.slack
  obtain ⟨P, hP⟩ : ∃ P, AddV K (l ++ m) w = P := ⟨_, rfl⟩
  have HP := Lib.hid hP
  rw [hP]
  obtain ⟨n1, hn1⟩ : ∃ n1, T.length = n1 := ⟨_, rfl⟩
  obtain ⟨n2, hn2⟩ : ∃ n2, L.length = n2 := ⟨_, rfl⟩
  obtain ⟨m1, hm1⟩ : ∃ m1, U.length = m1 := ⟨_, rfl⟩
  obtain ⟨m2, hm2⟩ : ∃ m2, M.length = m2 := ⟨_, rfl⟩
  have Hn1 := Lib.hid hn1
  have Hn2 := Lib.hid hn2
  have Hm1 := Lib.hid hm1
  have Hm2 := Lib.hid hm2
  have hk2 := hG.k2
  have hk64 := hG.k64
  have hm64 : m1 ≤ 64 := by rw [← hm1]; exact hU64
  rw [hn1, hn2] at HCa HOa ⊢
  rw [hm1, hm2] at HCb HOb ⊢
  rw [hm2] at hM
  clear hP hG hG' hT hB hLs hU hB2 hMs hT64 hU64 h64 hK hn1 hn2 hm1 hm2 hL hLe hMe
  go_enter Try.func10, Try.ntmps10
  go_wp2_with fail
  obtain ⟨b, hb⟩ : ∃ b, w.heap.size = b := ⟨_, rfl⟩
  have hs1' : (w.alloc (.cells #[.int .i64 K, .slice A n1 c, .slice B n2 e, .int .i64 N, .int .i64 S] 26)).heap.size = b + 1 := by rw [World.size_alloc, hb]
  have hs2' : ((w.alloc (.cells #[.int .i64 K, .slice A n1 c, .slice B n2 e, .int .i64 N, .int .i64 S] 26)).alloc (.cells #[.int .i64 K, .slice A2 m1 c2, .slice B2 m2 e2, .int .i64 N', .int .i64 S'] 26)).heap.size = b + 2 := by rw [World.size_alloc, hs1']
  have hs3' : (((w.alloc (.cells #[.int .i64 K, .slice A n1 c, .slice B n2 e, .int .i64 N, .int .i64 S] 26)).alloc (.cells #[.int .i64 K, .slice A2 m1 c2, .slice B2 m2 e2, .int .i64 N', .int .i64 S'] 26)).alloc (.cells #[.int .i64 0, .slice none 0 0, .slice none 0 0, .int .i64 0, .int .i64 0] 26)).heap.size = b + 3 := by rw [World.size_alloc, hs2']
  obtain ⟨w1, hw1⟩ : ∃ w1, (((w.alloc (.cells #[.int .i64 K, .slice A n1 c, .slice B n2 e, .int .i64 N, .int .i64 S] 26)).alloc (.cells #[.int .i64 K, .slice A2 m1 c2, .slice B2 m2 e2, .int .i64 N', .int .i64 S'] 26)).alloc (.cells #[.int .i64 0, .slice none 0 0, .slice none 0 0, .int .i64 0, .int .i64 0] 26)).alloc (.cells #[.int .i64 K, .slice A n1 c, .slice B n2 e, .int .i64 N, .int .i64 S, .int .i64 K, .slice A2 m1 c2, .slice B2 m2 e2, .int .i64 N', .int .i64 S'] 26) = w1 := ⟨_, rfl⟩
  have kA1 : Blk w1 b 26 #[.int .i64 K, .slice A n1 c, .slice B n2 e, .int .i64 N, .int .i64 S] := by rw [← hw1, ← hb]; exact (((Blk.new _ _ _).alloc _).alloc _).alloc _
  have kB1 : Blk w1 (b + 1) 26 #[.int .i64 K, .slice A2 m1 c2, .slice B2 m2 e2, .int .i64 N', .int .i64 S'] := by rw [← hw1, ← hs1']; exact ((Blk.new _ _ _).alloc _).alloc _
  have kR1 : Blk w1 (b + 2) 26 #[.int .i64 0, .slice none 0 0, .slice none 0 0, .int .i64 0, .int .i64 0] := by rw [← hw1, ← hs2']; exact (Blk.new _ _ _).alloc _
  have kG1 : Blk w1 (b + 3) 26 #[.int .i64 K, .slice A n1 c, .slice B n2 e, .int .i64 N, .int .i64 S, .int .i64 K, .slice A2 m1 c2, .slice B2 m2 e2, .int .i64 N', .int .i64 S'] := by rw [← hw1, ← hs3']; exact Blk.new _ _ _
  have hb1 : Below w.heap.size w w1 := by rw [← hw1]; exact bnext (two_allocsR _ _ _) (two_allocsR _ _ _)
  simp only [hb]
  rw [hw1]
  clear hw1 hs1' hs2' hs3'
  go_loopw [18] (fun i wr => ∃ j : Nat, j ≤ 2 ∧ i = .int .i64 (j : Nat) ∧ Below w1.heap.size w1 wr) (fun i _ => 2 - (intOf i).toNat)
  case atStart => exact ⟨0, by omega, rfl, Below.refl _ _⟩
  case round =>
    obtain ⟨j, hj, rfl, hbr⟩ := hrel
    rcases (show j = 0 ∨ j = 1 ∨ j = 2 by omega) with rfl | rfl | rfl
    · have kG := kG1.next hbr
      have g0 : wr.cell? ⟨b + 3, 0, none⟩ = some (.int .i64 K) := kG.cell 0
      have g1 : wr.cell? ⟨b + 3, 1, none⟩ = some (.slice A n1 c) := kG.cell 1
      have g2 : wr.cell? ⟨b + 3, 2, none⟩ = some (.slice B n2 e) := kG.cell 2
      have g3 : wr.cell? ⟨b + 3, 3, none⟩ = some (.int .i64 N) := kG.cell 3
      have g4 : wr.cell? ⟨b + 3, 4, none⟩ = some (.int .i64 S) := kG.cell 4
      have hbA := bnext hbr (one_allocR wr (.cells #[.int .i64 K, .slice A n1 c, .slice B n2 e, .int .i64 N, .int .i64 S] 26))
      go_wp2_with fail
      refine (HCa.out _ (by exact bnext hb1 hbA)).mono ?_
      rintro e w2 ⟨rfl, hb2⟩
      go_wp2_with fail
      go_roundw
      case rel => exact ⟨1, by omega, by first | rfl | go_num, bnext hbA hb2⟩
      case measure => simp [intOf]
    · have kG := kG1.next hbr
      have g0 : wr.cell? ⟨b + 3, 5, none⟩ = some (.int .i64 K) := kG.cell 5
      have g1 : wr.cell? ⟨b + 3, 6, none⟩ = some (.slice A2 m1 c2) := kG.cell 6
      have g2 : wr.cell? ⟨b + 3, 7, none⟩ = some (.slice B2 m2 e2) := kG.cell 7
      have g3 : wr.cell? ⟨b + 3, 8, none⟩ = some (.int .i64 N') := kG.cell 8
      have g4 : wr.cell? ⟨b + 3, 9, none⟩ = some (.int .i64 S') := kG.cell 9
      have hbA := bnext hbr (one_allocR wr (.cells #[.int .i64 K, .slice A2 m1 c2, .slice B2 m2 e2, .int .i64 N', .int .i64 S'] 26))
      go_wp2_with fail
      refine (HCb.out _ (by exact bnext hb1 hbA)).mono ?_
      rintro e w2 ⟨rfl, hb2⟩
      go_wp2_with fail
      go_roundw
      case rel => exact ⟨2, by omega, by first | rfl | go_num, bnext hbA hb2⟩
      case measure => simp [intOf]
    · have hb2 := bnext hb1 hbr
      have kA2 := kA1.next hbr
      have kB2 := kB1.next hbr
      have kR2 := kR1.next hbr
      have hlt2 := kG1.next hbr |>.lt
      clear kA1 kB1 kR1 kG1 hb1 hbr hj
      obtain ⟨w2, rfl⟩ : ∃ w2, w2 = wr := ⟨_, rfl⟩
      rw [show ((2 : Nat) : Int) = 2 from rfl]
      have a0 : w2.cell? ⟨b, 0, none⟩ = some (.int .i64 K) := kA2.cell 0
      have a1 : w2.cell? ⟨b, 1, none⟩ = some (.slice A n1 c) := kA2.cell 1
      have a2 : w2.cell? ⟨b, 2, none⟩ = some (.slice B n2 e) := kA2.cell 2
      have a3 : w2.cell? ⟨b, 3, none⟩ = some (.int .i64 N) := kA2.cell 3
      have a4 : w2.cell? ⟨b, 4, none⟩ = some (.int .i64 S) := kA2.cell 4
      have b0 : w2.cell? ⟨b + 1, 0, none⟩ = some (.int .i64 K) := kB2.cell 0
      have b1 : w2.cell? ⟨b + 1, 1, none⟩ = some (.slice A2 m1 c2) := kB2.cell 1
      have b2 : w2.cell? ⟨b + 1, 2, none⟩ = some (.slice B2 m2 e2) := kB2.cell 2
      have b3 : w2.cell? ⟨b + 1, 3, none⟩ = some (.int .i64 N') := kB2.cell 3
      have b4 : w2.cell? ⟨b + 1, 4, none⟩ = some (.int .i64 S') := kB2.cell 4
      have HB2 := Lib.hid hb2
      have HkR := Lib.hid kR2
      have HkB := Lib.hid kB2
      go_upto_region 10 with fail
      go_cut [9] from 34 to 44 (fun s9 wx => ∃ (g lo : Nat) (wB : World) (tvB : Value) (BB : Option Addr) (eB : Nat) (vsB : List Value) (tvA : Value) (BA : Option Addr) (eA : Nat) (vsA : List Value), s9 = .pointer (some ⟨g, 0, none⟩) ∧ b ≤ lo ∧ RkO wB lo tvB U BB eB M vsB ∧
        RkS wx b g (Prot lo wB (b + 1) (b + 2) #[.int .i64 K, tvB, .slice BB M.length eB, .int .i64 N', .int .i64 S'] zerosR) K tvA T BA eA L vsA N S ∧ Below b w wx)
      case first =>
        obtain ⟨f0, f1, f2, f3, f4⟩ : w2.frozen? ⟨b + 1, 0, none⟩ = false ∧ w2.frozen? ⟨b + 1, 1, none⟩ = false ∧ w2.frozen? ⟨b + 1, 2, none⟩ = false ∧ w2.frozen? ⟨b + 1, 3, none⟩ = false ∧ w2.frozen? ⟨b + 1, 4, none⟩ = false := ⟨kB2.frozen 0, kB2.frozen 1, kB2.frozen 2, kB2.frozen 3, kB2.frozen 4⟩
        have hten := fun W (h : Below w2.heap.size w2 W) => ten_of kA2 kB2 h
        have hBw2 : Below b w w2 := by rw [← hb]; exact hb2
        have lt1 : b < w2.heap.size := by omega
        have lt2 : b + 1 < w2.heap.size := by omega
        have ne1 : w2.heap.size ≠ b := by omega
        have ne2 : w2.heap.size ≠ b + 1 := by omega
        have ne3 : b ≠ w2.heap.size := by omega
        have ne4 : b + 1 ≠ w2.heap.size := by omega
        go_region_with
          (first
            | (go_at_call 31; have hz := hBq
               refine (HOb.out _ (bnext HB2.out (by (repeat' (first | with_reducible exact hBr | with_reducible exact hBq | with_reducible exact Below.refl _ _ | with_reducible refine below_allocR ?_ | with_reducible refine below_drewR ?_)); done))).mono ?_
               rintro e9 wq2 ⟨v9, rfl, ⟨tvB, BB, eB, vsB, rfl, hOB⟩, hbB⟩
               obtain ⟨AB, cB, rfl, _, _⟩ := hOB.t
               have hBr : Below w2.heap.size w2 wq2 := by refine bnext ?_ hbB; (repeat' (first | with_reducible exact hBr | with_reducible exact hBq | with_reducible exact Below.refl _ _ | with_reducible refine below_allocR ?_ | with_reducible refine below_drewR ?_)); done
               have hBqr : Below wq.heap.size wq wq2 := by refine bnext ?_ hbB; (repeat' (first | with_reducible exact Below.refl _ _ | with_reducible refine below_allocR ?_ | with_reducible refine below_drewR ?_)); done
               have k3 := kB2.next hBr
               have c0 : wq2.cell? ⟨b + 1, 0, none⟩ = some (.int .i64 K) := k3.cell 0; have cq0 : wq2.frozen? ⟨b + 1, 0, none⟩ = false := k3.frozen 0; have c1 : wq2.cell? ⟨b + 1, 1, none⟩ = some (.slice A2 m1 c2) := k3.cell 1; have cq1 : wq2.frozen? ⟨b + 1, 1, none⟩ = false := k3.frozen 1; have c2 : wq2.cell? ⟨b + 1, 2, none⟩ = some (.slice B2 m2 e2) := k3.cell 2; have cq2 : wq2.frozen? ⟨b + 1, 2, none⟩ = false := k3.frozen 2; have c3 : wq2.cell? ⟨b + 1, 3, none⟩ = some (.int .i64 N') := k3.cell 3; have cq3 : wq2.frozen? ⟨b + 1, 3, none⟩ = false := k3.frozen 3; have c4 : wq2.cell? ⟨b + 1, 4, none⟩ = some (.int .i64 S') := k3.cell 4; have cq4 : wq2.frozen? ⟨b + 1, 4, none⟩ = false := k3.frozen 4
               have hn1 : b + 1 < wq2.heap.size := k3.lt
               have hn2 : b + 1 ≠ wq2.heap.size := by omega
               have hn3 : wq2.heap.size ≠ b + 1 := by omega
               first
                 | (have kz2 : Blk wq2 w2.heap.size 26 #[Value.int .i64 0, .slice none 0 0, .slice none 0 0, .int .i64 0, .int .i64 0] := kz.next hBqr
                    have kz2z0 : wq2.cell? ⟨w2.heap.size, 0, none⟩ = some (Value.int .i64 0) := kz2.cell 0; have kz2f0 : wq2.frozen? ⟨w2.heap.size, 0, none⟩ = false := kz2.frozen 0; have kz2z1 : wq2.cell? ⟨w2.heap.size, 1, none⟩ = some (Value.slice none 0 0) := kz2.cell 1; have kz2f1 : wq2.frozen? ⟨w2.heap.size, 1, none⟩ = false := kz2.frozen 1; have kz2z2 : wq2.cell? ⟨w2.heap.size, 2, none⟩ = some (Value.slice none 0 0) := kz2.cell 2; have kz2f2 : wq2.frozen? ⟨w2.heap.size, 2, none⟩ = false := kz2.frozen 2; have kz2z3 : wq2.cell? ⟨w2.heap.size, 3, none⟩ = some (Value.int .i64 0) := kz2.cell 3; have kz2f3 : wq2.frozen? ⟨w2.heap.size, 3, none⟩ = false := kz2.frozen 3; have kz2z4 : wq2.cell? ⟨w2.heap.size, 4, none⟩ = some (Value.int .i64 0) := kz2.cell 4; have kz2f4 : wq2.frozen? ⟨w2.heap.size, 4, none⟩ = false := kz2.frozen 4)
                 | (have kz3 : Blk wq2 wq.heap.size 26 #[Value.int .i64 0, .slice none 0 0, .slice none 0 0, .int .i64 0, .int .i64 0] := by refine Blk.next ?_ hbB; (repeat' (first | (with_reducible refine Blk.newE _ _ _ _ ?_; rfl) | with_reducible refine Blk.drewR ?_)); done
                    have kz3z0 : wq2.cell? ⟨wq.heap.size, 0, none⟩ = some (Value.int .i64 0) := kz3.cell 0; have kz3f0 : wq2.frozen? ⟨wq.heap.size, 0, none⟩ = false := kz3.frozen 0; have kz3z1 : wq2.cell? ⟨wq.heap.size, 1, none⟩ = some (Value.slice none 0 0) := kz3.cell 1; have kz3f1 : wq2.frozen? ⟨wq.heap.size, 1, none⟩ = false := kz3.frozen 1; have kz3z2 : wq2.cell? ⟨wq.heap.size, 2, none⟩ = some (Value.slice none 0 0) := kz3.cell 2; have kz3f2 : wq2.frozen? ⟨wq.heap.size, 2, none⟩ = false := kz3.frozen 2; have kz3z3 : wq2.cell? ⟨wq.heap.size, 3, none⟩ = some (Value.int .i64 0) := kz3.cell 3; have kz3f3 : wq2.frozen? ⟨wq.heap.size, 3, none⟩ = false := kz3.frozen 3; have kz3z4 : wq2.cell? ⟨wq.heap.size, 4, none⟩ = some (Value.int .i64 0) := kz3.cell 4; have kz3f4 : wq2.frozen? ⟨wq.heap.size, 4, none⟩ = false := kz3.frozen 4)
                 | skip)
            | (go_at_call 31
               refine (HOa.out _ (bnext HB2.out (by (repeat' (first | with_reducible exact hBr | with_reducible exact hBq | with_reducible exact Below.refl _ _ | with_reducible refine below_allocR ?_ | with_reducible refine below_drewR ?_)); done))).mono ?_
               rintro e9 wq ⟨v9, rfl, ⟨tvA, BA, eA, vsA, rfl, hOA⟩, hbA⟩
               obtain ⟨AA, cA, rfl, _, _⟩ := hOA.t
               have hBq : Below w2.heap.size w2 wq := by refine bnext ?_ hbA; (repeat' (first | with_reducible exact hBr | with_reducible exact hBq | with_reducible exact Below.refl _ _ | with_reducible refine below_allocR ?_ | with_reducible refine below_drewR ?_)); done
               have k3q := kB2.next hBq
               have d0 : wq.cell? ⟨b + 1, 0, none⟩ = some (.int .i64 K) := k3q.cell 0; have d1 : wq.cell? ⟨b + 1, 1, none⟩ = some (.slice A2 m1 c2) := k3q.cell 1; have d2 : wq.cell? ⟨b + 1, 2, none⟩ = some (.slice B2 m2 e2) := k3q.cell 2; have d3 : wq.cell? ⟨b + 1, 3, none⟩ = some (.int .i64 N') := k3q.cell 3; have d4 : wq.cell? ⟨b + 1, 4, none⟩ = some (.int .i64 S') := k3q.cell 4
               have hn1q : b + 1 < wq.heap.size := k3q.lt
               have hn2q : b + 1 ≠ wq.heap.size := by omega
               have hn3q : wq.heap.size ≠ b + 1 := by omega
               first
                 | (have kz : Blk wq w2.heap.size 26 #[Value.int .i64 0, .slice none 0 0, .slice none 0 0, .int .i64 0, .int .i64 0] := by refine Blk.next ?_ hbA; (repeat' (first | (with_reducible refine Blk.newE _ _ _ _ ?_; rfl) | with_reducible refine Blk.drewR ?_)); done
                    have kzz0 : wq.cell? ⟨w2.heap.size, 0, none⟩ = some (Value.int .i64 0) := kz.cell 0; have kzf0 : wq.frozen? ⟨w2.heap.size, 0, none⟩ = false := kz.frozen 0; have kzz1 : wq.cell? ⟨w2.heap.size, 1, none⟩ = some (Value.slice none 0 0) := kz.cell 1; have kzf1 : wq.frozen? ⟨w2.heap.size, 1, none⟩ = false := kz.frozen 1; have kzz2 : wq.cell? ⟨w2.heap.size, 2, none⟩ = some (Value.slice none 0 0) := kz.cell 2; have kzf2 : wq.frozen? ⟨w2.heap.size, 2, none⟩ = false := kz.frozen 2; have kzz3 : wq.cell? ⟨w2.heap.size, 3, none⟩ = some (Value.int .i64 0) := kz.cell 3; have kzf3 : wq.frozen? ⟨w2.heap.size, 3, none⟩ = false := kz.frozen 3; have kzz4 : wq.cell? ⟨w2.heap.size, 4, none⟩ = some (Value.int .i64 0) := kz.cell 4; have kzf4 : wq.frozen? ⟨w2.heap.size, 4, none⟩ = false := kz.frozen 4)
                 | skip))
        all_goals
          go_wp2_with fail
          go_meet
          first
            | (have hzz := kz2
               refine ⟨_, _, _, _, _, _, _, _, _, _, _, rfl, ?_, hOB, mrg_old kz2 k3 (kR2.next hBr) hOA hBqr ?_ ?_ ?_ (by omega) ?_ ?_ (hBw2.trans (hBr.mono (by omega)))⟩
               all_goals (first | omega | exact hbA.size | exact .inr (Nat.le_refl _) | (simp; done) | (simp; omega) | (have h1 := hBq.size; simp; omega) | (have h1 := hbA.size; simp at h1 ⊢; omega) | (have h1 := hbA.size; simp at h1; omega) | (have h1 := hbA.size; simp at h1; simp; omega) | (left; simp; done)))
            | (have hzz := kz3
               refine ⟨_, _, _, _, _, _, _, _, _, _, _, rfl, ?_, hOB, mrg_old kz3 k3 (kR2.next hBr) hOA hBqr ?_ ?_ ?_ ?_ ?_ ?_ (hBw2.trans (hBr.mono (by omega)))⟩
               all_goals (first | omega | exact hbA.size | exact .inr (Nat.le_refl _) | (simp; done) | (simp; omega) | (have h1 := hBq.size; simp; omega) | (have h1 := hbA.size; simp at h1 ⊢; omega) | (have h1 := hbA.size; simp at h1; omega) | (have h1 := hbA.size; simp at h1; simp; omega) | (left; simp; done)))
            | (refine ⟨_, _, _, _, _, _, _, _, _, _, _, rfl, ?_, hOB, mrg_new k3 (kR2.next hBr) hOA hBqr ?_ ?_ ?_ (hBw2.trans (hBr.mono (by omega)))⟩
               all_goals (first | omega | exact hbA.size | exact .inr (Nat.le_refl _) | (simp; done) | (simp; omega) | (have h1 := hBq.size; simp; omega) | (have h1 := hbA.size; simp at h1 ⊢; omega) | (have h1 := hbA.size; simp at h1; omega) | (have h1 := hbA.size; simp at h1; simp; omega) | (left; simp; done)))
      case rest =>
      obtain ⟨g, lo, wB, tvB, BB, eB, vsB, tvA, BA, eA, vsA, rfl, hblo, hOB, hR, hbc⟩ := hcut
      clear a0 a1 a2 a3 a4 b0 b1 b2 b3 b4 kA2 kB2 kR2 HkB HkR
      obtain ⟨AB, cB, rfl, hownB, hUI⟩ := hOB.t
      obtain ⟨AA, cA, rfl, _, _⟩ := hR.t
      have hBB := (own_len hOB.l)
      have HO := Lib.hid hOB
      have HUI := Lib.hid hUI
      obtain ⟨y0, y1, y2, y3, y4⟩ := hR.y
      have f4 : wc.frozen? ⟨g, 4, none⟩ = false := hR.k.frozen 4
      have k3 := hR.b3
      have z4 : wc.cell? ⟨b + 1, 4, none⟩ = some (.int .i64 S') := k3.cell 4
      have eS : IntKind.i64.wrap (S + S') = S + S' := IntWalk.i64_in _ (by omega)
      have HR4 := Lib.hid (hR.box 4 (.int .i64 (S + S')) K N (S + S') rfl)
      have HB4 := Lib.hid (below_setR hbc hR.hb 4 (.int .i64 (S + S')))
      have hgb := hR.hb
      rw [Hm1.out, Hm2.out] at HR4
      clear hOB hownB hUI hbc hR k3
      go_upto_region 12 with fail
      obtain ⟨W4, hW4⟩ : ∃ W4, wc.setCell ⟨g, 4, none⟩ (.int .i64 (S + S')) = W4 := ⟨_, rfl⟩
      rw [hW4] at HR4 HB4 ⊢
      clear hW4 y0 y1 y2 y3 y4 f4 z4 eS
      have k3 := HR4.out.b3
      have z2 : W4.cell? ⟨b + 1, 2, none⟩ = some (.slice BB m2 eB) := k3.cell 2
      go_wp2_with fail
      clear z2 k3
      go_loopw [48] (fun iv wr => ∃ (i : Nat) (B3 : Option Addr) (e3 : Nat) (L3 : List (List Int)) (vs3 : List Value) (N3 S3 : Int), i ≤ m2 ∧ iv = .int .i64 (i : Nat) ∧ Hid (RkM K U M i T L3 N3 S3 (l ++ m)) ∧
        Hid (RkS wr b g (Prot lo wB (b + 1) (b + 2) #[.int .i64 K, .slice AB m1 cB, .slice BB m2 eB, .int .i64 N', .int .i64 S'] zerosR) K (.slice AA T.length cA) T B3 e3 L3 vs3 N3 S3) ∧ Below b w wr) (fun iv _ => m2 + 5 - (intOf iv).toNat)
      case atStart => exact ⟨0, BA, eA, L, vsA, N, S + S', by omega, rfl, HM, HR4, HB4.out⟩
      case round =>
        obtain ⟨i, B3, e3, L3, vs3, N3, S3, hi, rfl, hM3, hR3, hbr⟩ := hrel
        obtain ⟨wq, rfl⟩ : ∃ wq, wq = wr := ⟨_, rfl⟩
        obtain ⟨q1, q2, q3, q4, q5, q6⟩ := hM3.out.b (by rw [Hm2.out]; exact hi)
        by_cases hlt : (i : Int) < (m2 : Int)
        · have hOq := HO.out.kept hR3.out.keep
          obtain ⟨v, hv, hiv, _⟩ := hOq.r i (by rw [Hm2.out]; omega)
          obtain ⟨v', hv', hivB, _⟩ := HO.out.r i (by rw [Hm2.out]; omega)
          obtain rfl : v = v' := by rw [hv] at hv'; injection hv'
          obtain ⟨bd, rfl, _, cB9⟩ := (Has.of_own hOq.l).at hv
          have hap := hR3.out.apart hivB
          obtain ⟨A5, c5, rfl, hown5, h55⟩ := hiv
          obtain ⟨r, hr⟩ : ∃ r, at_ M i = r := ⟨_, rfl⟩
          have Hr := Lib.hid hr
          rw [hr] at cB9 hown5 h55 hap
          obtain ⟨p, hp⟩ : ∃ p, r.length = p := ⟨_, rfl⟩
          have Hp := Lib.hid hp
          rw [hp] at cB9 hown5 hap
          have hbs := hbr.size
          rcases Nat.eq_zero_or_pos p with h0 | h0
          · subst h0
            have HS := Lib.hid (hM3.out.skip (by rw [Hr.out, Hp.out]))
            clear hr hp hown5 h55 hOq hv hv' hap hivB
            go_wp2_with fail
            go_roundw
            case rel => exact ⟨i + 1, B3, e3, L3, vs3, N3, S3, by omega, by go_num, HS, hR3, hbr⟩
            case measure => simp [intOf]; omega
          · have hpK := hM3.out.len (i := i) (by rw [Hr.out, Hp.out]; exact h0)
            rw [Hr.out, Hp.out] at hpK
            have HC := Lib.hid (carry_any b g _ K _ T N3 B3 e3 L3 vs3 S3 A5 p c5 r i Hp.out (by omega) (by omega) (by omega) q6 q4 (by omega) wq (by omega) hR3.out ⟨A5, c5, by rw [Hp.out], by rw [Hp.out]; exact own_less hown5 hblo, h55⟩ hap)
            have h0' : (0 : Int) < (p : Int) := by omega
            clear hr hp hown5 h55 hOq hv hv' hap hivB
            go_wp2_with fail
            refine HC.out.mono ?_
            rintro e9 w5 ⟨rfl, L5, S5, B5, e5, vs5, hcr, hR5, hb5⟩
            rw [← Hr.out] at hcr
            obtain ⟨hM5, hp1, hp2⟩ := hM3.out.step (by rw [Hm2.out]; omega) (by rw [Hr.out, Hp.out]; exact h0) hcr
            obtain ⟨x0, x1, x2, x3, x4⟩ := hR5.y
            have f3 : w5.frozen? ⟨g, 3, none⟩ = false := hR5.k.frozen 3
            have hi0 : (0 : Int) ≤ (i : Int) := by omega
            have HR6 := Lib.hid (hR5.box 3 (.int .i64 (N3 + K * 2 ^ i)) K (N3 + K * 2 ^ i) S5 rfl)
            have HB6 := Lib.hid (below_setR (hbr.trans hb5) hgb 3 (.int .i64 (N3 + K * 2 ^ i)))
            have HM5 := Lib.hid hM5
            clear hR5 hb5 hM5 hcr HC
            go_wp2_with fail
            go_region
            have HR7 := Lib.hid (HR6.out.next (below_drewN (Below.refl _ _) 1))
            have HB7 : Hid (Below b w (w5.setCell ⟨g, 3, none⟩ (.int .i64 (N3 + K * 2 ^ i))).drew) := Lib.hid (below_drewN HB6.out 1)
            have HR7 : Hid (RkS (w5.setCell ⟨g, 3, none⟩ (.int .i64 (N3 + K * 2 ^ i))).drew b g _ K _ T B5 e5 L5 vs5 (N3 + K * 2 ^ i) S5) := HR7
            clear HR6 HB6 x0 x1 x2 x3 x4 f3
            obtain ⟨W8, hW8⟩ : ∃ W8, (w5.setCell ⟨g, 3, none⟩ (.int .i64 (N3 + K * 2 ^ i))).drew = W8 := ⟨_, rfl⟩
            rw [hW8] at HR7 HB7 ⊢
            clear hW8
            obtain ⟨N5, hN5⟩ : ∃ N5, N3 + K * 2 ^ i = N5 := ⟨_, rfl⟩
            rw [hN5] at HR7 HM5
            clear hN5
            go_wp2_with fail
            go_roundw
            case rel => exact ⟨i + 1, B5, e5, L5, vs5, N5, S5, by omega, by go_num, HM5, HR7, HB7.out⟩
            case measure => simp [intOf]; omega
        · obtain rfl : i = m2 := by omega
          have HQ := Lib.hid (by have h := hM3.out; rw [← Hm2.out] at h; exact h.q)
          have k3 := hR3.out.b3
          have z1 : wq.cell? ⟨b + 1, 1, none⟩ = some (.slice AB m1 cB) := k3.cell 1
          go_wp2_with fail
          clear z1 k3 hM3 HM HR4 HB4
          go_loopw [71] (fun iv wr => ∃ (k : Nat) (AA : Option Addr) (cA : Nat) (T3 : List Int) (B3 : Option Addr) (e3 : Nat) (L3 : List (List Int)) (vs3 : List Value) (N3 S3 : Int), k ≤ m1 ∧ iv = .int .i64 (k : Nat) ∧ Hid (RkQ K U k T3 L3 N3 S3 (l ++ m)) ∧
            Hid (RkS wr b g (Prot lo wB (b + 1) (b + 2) #[.int .i64 K, .slice AB m1 cB, .slice BB i eB, .int .i64 N', .int .i64 S'] zerosR) K (.slice AA T3.length cA) T3 B3 e3 L3 vs3 N3 S3) ∧ Below b w wr) (fun iv _ => m1 + 5 - (intOf iv).toNat)
          case atStart => exact ⟨0, AA, cA, T, B3, e3, L3, vs3, N3, S3, by omega, rfl, HQ, hR3, hbr⟩
          case round =>
            clear hR3 HQ q1 q2 q3 q4 q5 q6 hbr
            obtain ⟨k, AA, cA, T3, B3, e3, L3, vs3, N3, S3, hk, rfl, hQ3, hR3, hbr⟩ := hrel
            obtain ⟨wq, rfl⟩ : ∃ wq, wq = wr := ⟨_, rfl⟩
            obtain ⟨q1, q2, q3, q4, q5, q6⟩ := hQ3.out.b (by rw [Hm1.out]; exact hk)
            have hbs := hbr.size
            by_cases hlt : (k : Int) < (m1 : Int)
            · have hOq := HO.out.kept hR3.out.keep
              obtain ⟨A9, c9, e9, hown9, _⟩ := hOq.t
              injection e9 with e91 e92 e93
              subst e91 e93
              obtain ⟨bd, rfl, _, cT⟩ := (Has.of_own hown9).at (i64s_at (show k < U.length by rw [Hm1.out]; omega))
              have hvi : in64 (at_ U k) := HUI.out _ (at_mem (by rw [Hm1.out]; omega))
              have hadd := fun T' L' S' => hQ3.out.add (T' := T') (L' := L') (S' := S') (show k < U.length by rw [Hm1.out]; omega)
              obtain ⟨v, hv⟩ : ∃ v, at_ U k = v := ⟨_, rfl⟩
              rw [hv] at cT hvi
              simp only [hv] at hadd
              have HA := Lib.hid (radd_any b g _ K _ T3 N3 B3 e3 L3 vs3 S3 v hvi hQ3.out.p.st hQ3.out.p.tk hQ3.out.p.k64 (by omega) q6 q2 (by omega) q4 (by omega) wq (by omega) hR3.out)
              have Hadd := Lib.hid hadd
              clear hadd hv hOq hown9 e92
              go_wp2_with fail
              refine HA.out.mono ?_
              rintro e9 w5 ⟨rfl, T5, L5, S5, tv5, B5, e5, vs5, har, hR5, hb5⟩
              obtain ⟨A5, c5, rfl, _, _⟩ := hR5.t
              have HQ5 := Lib.hid (Hadd.out _ _ _ har)
              have HR5 := Lib.hid hR5
              have HB5 := Lib.hid (hbr.trans hb5)
              clear har hR5 hb5 HA
              go_wp2_with fail
              go_roundw
              case rel => exact ⟨k + 1, A5, c5, T5, B5, e5, L5, vs5, N3 + 1, S5, by omega, by go_num, HQ5, HR5, HB5.out⟩
              case measure => simp [intOf]; omega
            · obtain rfl : k = m1 := by omega
              have hQ9 := hQ3.out
              rw [← Hm1.out] at hQ9
              obtain ⟨hG, _⟩ := hQ9.done
              have hsl := hG.slack
              obtain ⟨y0, y1, y2, y3, y4⟩ := hR3.out.y
              have k4 := hR3.out.b4
              obtain ⟨u, hu⟩ : ∃ u, L3.length = u := ⟨_, rfl⟩
              have Hu := Lib.hid hu
              rw [hu] at y2
              have HG := Lib.hid hG
              have HO3 := Lib.hid hR3.out.rows
              have HBo := Lib.hid (bounded_any K AA T3.length cA B3 u e3 N3 S3 hsl.2 wq)
              clear hQ9 hG hu
              go_wp2_with fail
              by_cases h20 : u ≤ 20
              · rw [if_pos h20] at HBo
                refine HBo.out.mono ?_
                rintro e9 w7 ⟨rfl, hb7⟩
                have k7 := k4.next hb7
                have HB7 := Lib.hid (hbr.trans (hb7.mono (by omega)))
                have g0 : w7.frozen? ⟨b + 2, 0, none⟩ = false := k7.frozen 0
                have g1 : w7.frozen? ⟨b + 2, 1, none⟩ = false := k7.frozen 1
                have g2 : w7.frozen? ⟨b + 2, 2, none⟩ = false := k7.frozen 2
                have g3 : w7.frozen? ⟨b + 2, 3, none⟩ = false := k7.frozen 3
                have g4 : w7.frozen? ⟨b + 2, 4, none⟩ = false := k7.frozen 4
                have z0 : w7.cell? ⟨b + 2, 0, none⟩ = some (.int .i64 0) := k7.cell 0
                have z1 : w7.cell? ⟨b + 2, 1, none⟩ = some (.slice none 0 0) := k7.cell 1
                have z2 : w7.cell? ⟨b + 2, 2, none⟩ = some (.slice none 0 0) := k7.cell 2
                have z3 : w7.cell? ⟨b + 2, 3, none⟩ = some (.int .i64 0) := k7.cell 3
                have z4 : w7.cell? ⟨b + 2, 4, none⟩ = some (.int .i64 0) := k7.cell 4
                have HO7 := Lib.hid (HO3.out.next hb7)
                have HK7 := Lib.hid k7
                clear k4 k7 hb7 y0 y1 y2 y3 y4
                go_wp2_with fail
                refine bodyPost_ret (v := .tuple #[.agg #[.int .i64 K, .slice AA T3.length cA, .slice B3 u e3, .int .i64 N3, .int .i64 S3], .int .i64 0]) (by simp [results, Try.results10, go_sem, *]) rfl (RV.mk ?_)
                rw [← HP.out]
                have hbb : w.heap.size ≤ b := by omega
                refine ⟨.inl ⟨T3, L3, N3, S3, _, HG.out, by rw [Hu.out]; exact h20, rfl, ?_⟩, by have := below_put5 HB7.out (show b ≤ b + 2 by omega) (.int .i64 K) (.slice AA T3.length cA) (.slice B3 u e3) (.int .i64 N3) (.int .i64 S3); rw [hb]; exact this⟩
                rw [← Hu.out]
                exact ⟨_, _, _, _, _, rfl, (HO7.out.less (by omega)).put5 HK7.out _ _ _ _ _⟩
              · rw [if_neg h20] at HBo
                refine HBo.out.mono ?_
                rintro e9 w7 ⟨rfl, hb7⟩
                have k7 := k4.next hb7
                have HB7 := Lib.hid (hbr.trans (hb7.mono (by omega)))
                have g0 : w7.frozen? ⟨b + 2, 0, none⟩ = false := k7.frozen 0
                have g1 : w7.frozen? ⟨b + 2, 1, none⟩ = false := k7.frozen 1
                have g2 : w7.frozen? ⟨b + 2, 2, none⟩ = false := k7.frozen 2
                have g3 : w7.frozen? ⟨b + 2, 3, none⟩ = false := k7.frozen 3
                have g4 : w7.frozen? ⟨b + 2, 4, none⟩ = false := k7.frozen 4
                have z0 : w7.cell? ⟨b + 2, 0, none⟩ = some (.int .i64 0) := k7.cell 0
                have z1 : w7.cell? ⟨b + 2, 1, none⟩ = some (.slice none 0 0) := k7.cell 1
                have z2 : w7.cell? ⟨b + 2, 2, none⟩ = some (.slice none 0 0) := k7.cell 2
                have z3 : w7.cell? ⟨b + 2, 3, none⟩ = some (.int .i64 0) := k7.cell 3
                have z4 : w7.cell? ⟨b + 2, 4, none⟩ = some (.int .i64 0) := k7.cell 4
                have hmany := Lib.hid (HG.out.many (by rw [Hu.out]; omega))
                clear k4 k7 hb7 y0 y1 y2 y3 y4
                simp only [zeroR]
                go_wp2_with fail
                refine bodyPost_ret (v := .tuple #[.agg #[.int .i64 0, .slice none 0 0, .slice none 0 0, .int .i64 0, .int .i64 0], .int .i64 2]) (by simp [results, Try.results10, go_sem, *]) rfl (RV.mk ?_)
                rw [← HP.out]
                exact ⟨.inr ⟨rfl, hmany.out⟩, by have := below_put5 HB7.out (show b ≤ b + 2 by omega) (.int .i64 0) (.slice none 0 0) (.slice none 0 0) (.int .i64 0) (.int .i64 0); rw [hb]; exact this⟩
end Go.Proofs.Ythofijhjbaaokaa
