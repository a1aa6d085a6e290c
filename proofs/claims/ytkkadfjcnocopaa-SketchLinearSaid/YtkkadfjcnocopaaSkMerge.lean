/- What Merge of package sketch answers. Conditions: rows lie in their cells. -/
import Derived.Test.YtkkadfjcnocopaaSkHelp
namespace Go.Proofs.Ytkkadfjcnocopaa
open Go.RowKit

/-- the cells when the first k of the other's were added -/
def mrgC (C K : List Int) : Nat → List Int
  | 0 => C
  | k + 1 => (mrgC C K k).set k (wrap64 (at_ (mrgC C K k) k + at_ K k))
theorem mrgC_succ (C K : List Int) (k : Nat) : mrgC C K (k + 1) = (mrgC C K k).set k (wrap64 (at_ (mrgC C K k) k + at_ K k)) := rfl
theorem mrgC_len (C K : List Int) (k : Nat) : (mrgC C K k).length = C.length := by
  induction k with
  | zero => rfl
  | succ k ih => rw [mrgC, List.length_set, ih]
theorem mrgC_in {C : List Int} (h : I64in C) (K : List Int) (k : Nat) : I64in (mrgC C K k) := by
  induction k with
  | zero => exact h
  | succ k ih =>
    intro x hx
    rw [mrgC] at hx
    rcases List.mem_or_eq_of_mem_set hx with h1 | h1
    · exact ih x h1
    · rw [h1]; exact wrap64_in _
def mergeK (s t : Sk) : Sk × Int :=
  if chkSk s.D s.W s.C s.N ≠ 0 then (skZero, 4) else if chkSk t.D t.W t.C t.N ≠ 0 then (skZero, 4) else if s.D ≠ t.D ∨ s.W ≠ t.W then (skZero, 1) else if 1152921504606846976 - t.N < s.N then (skZero, 2) else (⟨s.D, s.W, mrgC s.C t.C t.C.length, s.N + t.N⟩, 0)

set_option maxRecDepth 1000000 in
set_option maxHeartbeats 8000000 in
theorem merge_any (D W : Int) (A : Option Addr) (c : Nat) (C : List Int) (N : Int) (D' W' : Int) (B : Option Addr) (e : Nat) (K : List Int) (N' : Int) (w : World) (hC : IntAt w (.slice A C.length c) C) (hK : IntAt w (.slice B K.length e) K) :
    Calls Try.prog 31 #[.agg #[.int .i64 D, .int .i64 W, .slice A C.length c, .int .i64 N], .agg #[.int .i64 D', .int .i64 W', .slice B K.length e, .int .i64 N']] w (RV (SkF (mergeK ⟨D, W, C, N⟩ ⟨D', W', K, N'⟩) w)) := by
  obtain ⟨n, hn⟩ : ∃ n, C.length = n := ⟨_, rfl⟩
  obtain ⟨m, hm⟩ : ∃ m, K.length = m := ⟨_, rfl⟩
  obtain ⟨z, hz⟩ : ∃ z, mergeK ⟨D, W, C, N⟩ ⟨D', W', K, N'⟩ = z := ⟨_, rfl⟩
  have H1 := Lib.hid (fun (w : World) (h : IntAt w (.slice A C.length c) C) => scheck_any D W A c C N w h)
  have H2 := Lib.hid (fun (w : World) (h : IntAt w (.slice B K.length e) K) => scheck_any D' W' B e K N' w h)
  have h1c := chkSk_cases D W C N
  have h2c := chkSk_cases D' W' K N'
  obtain ⟨x, hx⟩ : ∃ x, chkSk D W C N = x := ⟨_, rfl⟩
  obtain ⟨y, hy⟩ : ∃ y, chkSk D' W' K N' = y := ⟨_, rfl⟩
  rw [hx] at H1 h1c
  rw [hy] at H2 h2c
  rw [hz]
  rw [hn] at H1 hC ⊢
  rw [hm] at H2 hK ⊢
  have Hn := Lib.hid hn
  have Hm := Lib.hid hm
  have ez4 : x ≠ 0 ∨ y ≠ 0 → z = (skZero, 4) := fun h => by
    rw [← hz, mergeK]
    by_cases h0 : x = 0
    · rw [if_neg (by show ¬ chkSk D W C N ≠ 0; rw [hx]; simpa using h0), if_pos (by show chkSk D' W' K N' ≠ 0; rw [hy]; rcases h with h | h; exact absurd h0 h; exact h)]
    · rw [if_pos (by show chkSk D W C N ≠ 0; rw [hx]; exact h0)]
  have HX := Lib.hid hx
  have HY := Lib.hid hy
  have HZ := Lib.hid hz
  have HE4 := Lib.hid ez4
  clear hn hm hx hy hz ez4
  obtain ⟨w4, hw4⟩ : ∃ w4, ((((w.alloc (.cells #[.int .i64 D, .int .i64 W, .slice A n c, .int .i64 N] 34)).alloc (.cells #[.int .i64 D', .int .i64 W', .slice B m e, .int .i64 N'] 34)).alloc (.cells #[.int .i64 0, .int .i64 0, .slice none 0 0, .int .i64 0] 34)).alloc (.cells #[.int .i64 D, .int .i64 W, .slice A n c, .int .i64 N, .int .i64 D', .int .i64 W', .slice B m e, .int .i64 N'] 34)) = w4 := ⟨_, rfl⟩
  have hb4 : Below w.heap.size w w4 := by rw [← hw4]; exact bnext (two_allocs _ _ _) (two_allocs _ _ _)
  have ka : Blk w4 (w.heap.size) 34 #[.int .i64 D, .int .i64 W, .slice A n c, .int .i64 N] := by rw [← hw4]; exact (((Blk.new _ _ _).alloc _).alloc _).alloc _
  have kb : Blk w4 (w.heap.size + 1) 34 #[.int .i64 D', .int .i64 W', .slice B m e, .int .i64 N'] := by
    rw [← hw4]
    have := ((Blk.new (w.alloc (.cells #[.int .i64 D, .int .i64 W, .slice A n c, .int .i64 N] 34)) 34 #[.int .i64 D', .int .i64 W', .slice B m e, .int .i64 N']).alloc (.cells #[.int .i64 0, .int .i64 0, .slice none 0 0, .int .i64 0] 34)).alloc (.cells #[.int .i64 D, .int .i64 W, .slice A n c, .int .i64 N, .int .i64 D', .int .i64 W', .slice B m e, .int .i64 N'] 34)
    rwa [World.size_alloc] at this
  have kr : Blk w4 (w.heap.size + 1 + 1) 34 #[.int .i64 0, .int .i64 0, .slice none 0 0, .int .i64 0] := by
    rw [← hw4]
    have := (Blk.new ((w.alloc (.cells #[.int .i64 D, .int .i64 W, .slice A n c, .int .i64 N] 34)).alloc (.cells #[.int .i64 D', .int .i64 W', .slice B m e, .int .i64 N'] 34)) 34 #[.int .i64 0, .int .i64 0, .slice none 0 0, .int .i64 0]).alloc (.cells #[.int .i64 D, .int .i64 W, .slice A n c, .int .i64 N, .int .i64 D', .int .i64 W', .slice B m e, .int .i64 N'] 34)
    rwa [World.size_alloc, World.size_alloc] at this
  have kl : Blk w4 (w.heap.size + 1 + 1 + 1) 34 #[.int .i64 D, .int .i64 W, .slice A n c, .int .i64 N, .int .i64 D', .int .i64 W', .slice B m e, .int .i64 N'] := by
    rw [← hw4]
    have := Blk.new (((w.alloc (.cells #[.int .i64 D, .int .i64 W, .slice A n c, .int .i64 N] 34)).alloc (.cells #[.int .i64 D', .int .i64 W', .slice B m e, .int .i64 N'] 34)).alloc (.cells #[.int .i64 0, .int .i64 0, .slice none 0 0, .int .i64 0] 34)) 34 #[.int .i64 D, .int .i64 W, .slice A n c, .int .i64 N, .int .i64 D', .int .i64 W', .slice B m e, .int .i64 N']
    rwa [World.size_alloc, World.size_alloc, World.size_alloc] at this
  have HW := Lib.hid hw4
  clear hw4
  go_enter Try.func31, Try.ntmps31
  go_wp2_with fail
  rw [HW.out]
  go_loopw [15] (fun i wr => ∃ k : Nat, k ≤ 2 ∧ i = .int .i64 (k : Nat) ∧ (1 ≤ k → x = 0) ∧ (k = 2 → y = 0) ∧ Blk wr (w.heap.size) 34 #[.int .i64 D, .int .i64 W, .slice A n c, .int .i64 N] ∧ Blk wr (w.heap.size + 1) 34 #[.int .i64 D', .int .i64 W', .slice B m e, .int .i64 N'] ∧ Blk wr (w.heap.size + 1 + 1) 34 #[.int .i64 0, .int .i64 0, .slice none 0 0, .int .i64 0] ∧ Blk wr (w.heap.size + 1 + 1 + 1) 34 #[.int .i64 D, .int .i64 W, .slice A n c, .int .i64 N, .int .i64 D', .int .i64 W', .slice B m e, .int .i64 N'] ∧ Below w.heap.size w wr) (fun i _ => 2 - (intOf i).toNat)
  case atStart => exact ⟨0, by omega, rfl, fun h => by omega, fun h => by omega, ka, kb, kr, kl, hb4⟩
  case round =>
    clear ka kb kr kl hb4
    obtain ⟨k, hk, rfl, hx1, hy1, ka, kb, kr, kl, hbr⟩ := hrel
    rcases (show k = 0 ∨ k = 1 ∨ k = 2 by omega) with rfl | rfl | rfl
    · have q0 : wr.cell? ⟨w.heap.size + 1 + 1 + 1, 0, none⟩ = some (.int .i64 D) := kl.cell 0
      have q1 : wr.cell? ⟨w.heap.size + 1 + 1 + 1, 1, none⟩ = some (.int .i64 W) := kl.cell 1
      have q2 : wr.cell? ⟨w.heap.size + 1 + 1 + 1, 2, none⟩ = some (.slice A n c) := kl.cell 2
      have q3 : wr.cell? ⟨w.heap.size + 1 + 1 + 1, 3, none⟩ = some (.int .i64 N) := kl.cell 3
      go_wp2_with fail
      refine (H1.out _ (by exact hC.next (bnext hbr (one_alloc _ _)))).mono ?_
      rintro e w6 ⟨rfl, hb6'⟩
      have hb6 := bnext (bnext hbr (one_alloc _ _)) hb6'
      have hbz := bnext (one_alloc wr _) hb6'
      have kr6 := kr.next hbz
      rcases h1c with h | ⟨h, _⟩
      · have ez := HE4.out (.inl (by rw [h]; decide))
        subst h
        have r0 : w6.cell? ⟨w.heap.size + 1 + 1, 0, none⟩ = some (.int .i64 0) := kr6.cell 0
        have r1 : w6.cell? ⟨w.heap.size + 1 + 1, 1, none⟩ = some (.int .i64 0) := kr6.cell 1
        have r2 : w6.cell? ⟨w.heap.size + 1 + 1, 2, none⟩ = some (.slice none 0 0) := kr6.cell 2
        have r3 : w6.cell? ⟨w.heap.size + 1 + 1, 3, none⟩ = some (.int .i64 0) := kr6.cell 3
        have f0 := kr6.frozen 0
        have f1 := kr6.frozen 1
        have f2 := kr6.frozen 2
        have f3 := kr6.frozen 3
        go_wp2_with fail
        refine bodyPost_ret (v := .tuple #[.agg #[.int .i64 0, .int .i64 0, .slice none 0 0, .int .i64 0], .int .i64 4]) (by simp [results, Try.results31, go_sem, *]) rfl (RV.mk ?_)
        rw [ez]
        exact ⟨none, 0, rfl, intAt_nil _, (((hb6.setCell (by simp; omega) _).setCell (by simp; omega) _).setCell (by simp; omega) _).setCell (by simp; omega) _, fun ad e => by cases e⟩
      · subst h
        go_wp2_with fail
        go_roundw
        case rel => exact ⟨1, by omega, by go_num, fun _ => by trivial, fun h => by omega, ka.next hbz, kb.next hbz, kr.next hbz, kl.next hbz, hb6⟩
        case measure => simp [intOf]
    · have q4 : wr.cell? ⟨w.heap.size + 1 + 1 + 1, 4, none⟩ = some (.int .i64 D') := kl.cell 4
      have q5 : wr.cell? ⟨w.heap.size + 1 + 1 + 1, 5, none⟩ = some (.int .i64 W') := kl.cell 5
      have q6 : wr.cell? ⟨w.heap.size + 1 + 1 + 1, 6, none⟩ = some (.slice B m e) := kl.cell 6
      have q7 : wr.cell? ⟨w.heap.size + 1 + 1 + 1, 7, none⟩ = some (.int .i64 N') := kl.cell 7
      go_wp2_with fail
      refine (H2.out _ (by exact hK.next (bnext hbr (one_alloc _ _)))).mono ?_
      rintro e w6 ⟨rfl, hb6'⟩
      have hb6 := bnext (bnext hbr (one_alloc _ _)) hb6'
      have hbz := bnext (one_alloc wr _) hb6'
      have kr6 := kr.next hbz
      rcases h2c with h | ⟨h, _⟩
      · have ez := HE4.out (.inr (by rw [h]; decide))
        subst h
        have r0 : w6.cell? ⟨w.heap.size + 1 + 1, 0, none⟩ = some (.int .i64 0) := kr6.cell 0
        have r1 : w6.cell? ⟨w.heap.size + 1 + 1, 1, none⟩ = some (.int .i64 0) := kr6.cell 1
        have r2 : w6.cell? ⟨w.heap.size + 1 + 1, 2, none⟩ = some (.slice none 0 0) := kr6.cell 2
        have r3 : w6.cell? ⟨w.heap.size + 1 + 1, 3, none⟩ = some (.int .i64 0) := kr6.cell 3
        have f0 := kr6.frozen 0
        have f1 := kr6.frozen 1
        have f2 := kr6.frozen 2
        have f3 := kr6.frozen 3
        go_wp2_with fail
        refine bodyPost_ret (v := .tuple #[.agg #[.int .i64 0, .int .i64 0, .slice none 0 0, .int .i64 0], .int .i64 4]) (by simp [results, Try.results31, go_sem, *]) rfl (RV.mk ?_)
        rw [ez]
        exact ⟨none, 0, rfl, intAt_nil _, (((hb6.setCell (by simp; omega) _).setCell (by simp; omega) _).setCell (by simp; omega) _).setCell (by simp; omega) _, fun ad e => by cases e⟩
      · subst h
        go_wp2_with fail
        go_roundw
        case rel => exact ⟨2, by omega, by go_num, fun _ => hx1 (by omega), fun _ => by trivial, ka.next hbz, kb.next hbz, kr.next hbz, kl.next hbz, hb6⟩
        case measure => simp [intOf]
    · have hx0 := hx1 (by omega)
      have hy0 := hy1 rfl
      subst hx0 hy0
      rcases h1c with h | ⟨_, d, wd, rfl, rfl, d1, d2, d3, d4, hl, n0, n1, _⟩
      · exact absurd h (by decide)
      rcases h2c with h | ⟨_, d', wd', rfl, rfl, d1', d2', d3', d4', hl', n0', n1', _⟩
      · exact absurd h (by decide)
      clear kl
      by_cases hdd : d = d'
      · subst hdd
        by_cases hww : wd = wd'
        · subst hww
          have ewn : IntKind.i64.wrap (1152921504606846976 - N') = 1152921504606846976 - N' := IntWalk.i64_in _ (by omega)
          by_cases hnn : 1152921504606846976 - N' < N
          · have ez := Lib.hid (show z = (skZero, 2) by rw [← HZ.out, mergeK, if_neg (by show ¬ chkSk _ _ _ _ ≠ 0; rw [HX.out]; simp), if_neg (by show ¬ chkSk _ _ _ _ ≠ 0; rw [HY.out]; simp), if_neg (by simp), if_pos hnn])
            have p0 : wr.cell? ⟨w.heap.size, 0, none⟩ = some (.int .i64 d) := ka.cell 0
            have p1 : wr.cell? ⟨w.heap.size, 1, none⟩ = some (.int .i64 wd) := ka.cell 1
            have p2 : wr.cell? ⟨w.heap.size, 2, none⟩ = some (.slice A n c) := ka.cell 2
            have p3 : wr.cell? ⟨w.heap.size, 3, none⟩ = some (.int .i64 N) := ka.cell 3
            have q0 : wr.cell? ⟨w.heap.size + 1, 0, none⟩ = some (.int .i64 d) := kb.cell 0
            have q1 : wr.cell? ⟨w.heap.size + 1, 1, none⟩ = some (.int .i64 wd) := kb.cell 1
            have q2 : wr.cell? ⟨w.heap.size + 1, 2, none⟩ = some (.slice B m e) := kb.cell 2
            have q3 : wr.cell? ⟨w.heap.size + 1, 3, none⟩ = some (.int .i64 N') := kb.cell 3
            have r0 : wr.cell? ⟨w.heap.size + 1 + 1, 0, none⟩ = some (.int .i64 0) := kr.cell 0
            have r1 : wr.cell? ⟨w.heap.size + 1 + 1, 1, none⟩ = some (.int .i64 0) := kr.cell 1
            have r2 : wr.cell? ⟨w.heap.size + 1 + 1, 2, none⟩ = some (.slice none 0 0) := kr.cell 2
            have r3 : wr.cell? ⟨w.heap.size + 1 + 1, 3, none⟩ = some (.int .i64 0) := kr.cell 3
            have f0 := kr.frozen 0
            have f1 := kr.frozen 1
            have f2 := kr.frozen 2
            have f3 := kr.frozen 3
            go_wp2_with fail
            refine bodyPost_ret (v := .tuple #[.agg #[.int .i64 0, .int .i64 0, .slice none 0 0, .int .i64 0], .int .i64 2]) (by simp [results, Try.results31, go_sem, *]) rfl (RV.mk ?_)
            rw [ez.out]
            exact ⟨none, 0, rfl, intAt_nil _, (((hbr.setCell (by simp; omega) _).setCell (by simp; omega) _).setCell (by simp; omega) _).setCell (by simp; omega) _, fun ad e => by cases e⟩
          · have ez := Lib.hid (show z = (⟨d, wd, mrgC C K K.length, N + N'⟩, 0) by rw [← HZ.out, mergeK, if_neg (by show ¬ chkSk _ _ _ _ ≠ 0; rw [HX.out]; simp), if_neg (by show ¬ chkSk _ _ _ _ ≠ 0; rw [HY.out]; simp), if_neg (by simp), if_neg hnn])
            have ewa : IntKind.i64.wrap (N + N') = N + N' := IntWalk.i64_in _ (by omega)
            have hnm : n = m := by rw [← Hn.out, ← Hm.out, hl, hl']
            subst hnm
            have hmw : n ≤ 1600 := by rw [← Hn.out, hl]; exact Nat.mul_le_mul d2 d4
            have hml : 0 < n := by rw [← Hn.out, hl]; exact Nat.mul_pos (by omega) (by omega)
            have hCr := hC.next hbr
            have hKh : Has w w.heap.size B (i64s K) := by
              obtain ⟨_, _, e0, _, _, _, h4, _⟩ := hK
              injection e0 with e1 _ _
              rw [e1]; exact h4
            obtain ⟨A0, c0, e0, k1, k2, k3, k4, k5⟩ := hC
            injection e0 with e1 el e2
            clear el
            subst e1 e2
            have p0 : wr.cell? ⟨w.heap.size, 0, none⟩ = some (.int .i64 d) := ka.cell 0
            have p1 : wr.cell? ⟨w.heap.size, 1, none⟩ = some (.int .i64 wd) := ka.cell 1
            have p2 : wr.cell? ⟨w.heap.size, 2, none⟩ = some (.slice A n c) := ka.cell 2
            have p3 : wr.cell? ⟨w.heap.size, 3, none⟩ = some (.int .i64 N) := ka.cell 3
            have q0 : wr.cell? ⟨w.heap.size + 1, 0, none⟩ = some (.int .i64 d) := kb.cell 0
            have q1 : wr.cell? ⟨w.heap.size + 1, 1, none⟩ = some (.int .i64 wd) := kb.cell 1
            have q2 : wr.cell? ⟨w.heap.size + 1, 2, none⟩ = some (.slice B n e) := kb.cell 2
            have q3 : wr.cell? ⟨w.heap.size + 1, 3, none⟩ = some (.int .i64 N') := kb.cell 3
            have r0 : wr.cell? ⟨w.heap.size + 1 + 1, 0, none⟩ = some (.int .i64 0) := kr.cell 0
            have r1 : wr.cell? ⟨w.heap.size + 1 + 1, 1, none⟩ = some (.int .i64 0) := kr.cell 1
            have r2 : wr.cell? ⟨w.heap.size + 1 + 1, 2, none⟩ = some (.slice none 0 0) := kr.cell 2
            have r3 : wr.cell? ⟨w.heap.size + 1 + 1, 3, none⟩ = some (.int .i64 0) := kr.cell 3
            have f0 := kr.frozen 0
            have f1 := kr.frozen 1
            have f2 := kr.frozen 2
            have f3 := kr.frozen 3
            clear hl hl'
            go_wp2_with fail
            refine (cloneI64_any A n c (i64s C) (by rw [i64s_len, Hn.out, Nat.mul_one]) (i64s_one C) (fun e => by have := k3 e; rw [this] at k1; have := Hn.out; omega) (by omega) _ (by exact k4.next hbr)).mono ?_
            rintro e' w7 ⟨v, rfl, A3, c3, rfl, hown3, hb7'⟩
            have hb7 := bnext hbr hb7'
            have ka7 := ka.next hb7'
            have kb7 := kb.next hb7'
            have kr7 := kr.next hb7'
            have hltr := kr.lt
            obtain ⟨g, cap, ev, hg, hgs⟩ := hown3.form (by omega)
            injection ev with e1 e2 e3
            subst e1 e3
            clear p0 p1 p2 p3 q0 q1 q2 q3 r0 r1 r2 r3 f0 f1 f2 f3
            have p0 : w7.cell? ⟨w.heap.size, 0, none⟩ = some (.int .i64 d) := ka7.cell 0
            have p1 : w7.cell? ⟨w.heap.size, 1, none⟩ = some (.int .i64 wd) := ka7.cell 1
            have p2 : w7.cell? ⟨w.heap.size, 2, none⟩ = some (.slice A n c) := ka7.cell 2
            have p3 : w7.cell? ⟨w.heap.size, 3, none⟩ = some (.int .i64 N) := ka7.cell 3
            have q0 : w7.cell? ⟨w.heap.size + 1, 0, none⟩ = some (.int .i64 d) := kb7.cell 0
            have q1 : w7.cell? ⟨w.heap.size + 1, 1, none⟩ = some (.int .i64 wd) := kb7.cell 1
            have q2 : w7.cell? ⟨w.heap.size + 1, 2, none⟩ = some (.slice B n e) := kb7.cell 2
            have q3 : w7.cell? ⟨w.heap.size + 1, 3, none⟩ = some (.int .i64 N') := kb7.cell 3
            have f0 := ka7.frozen 0
            have f1 := ka7.frozen 1
            have f2 := ka7.frozen 2
            have f3 := ka7.frozen 3
            go_wp2_with fail
            obtain ⟨w8, hw8⟩ : ∃ w8, (w7.setCell ⟨w.heap.size, 2, none⟩ (.slice (some ⟨g, 0, none⟩) n c3)).setCell ⟨w.heap.size, 3, none⟩ (.int .i64 (N + N')) = w8 := ⟨_, rfl⟩
            have hb8 : Below w.heap.size w w8 := by rw [← hw8]; exact (hb7.setCell (by simp) _).setCell (by simp) _
            have ka8 : Blk w8 (w.heap.size) 34 #[.int .i64 d, .int .i64 wd, .slice (some ⟨g, 0, none⟩) n c3, .int .i64 (N + N')] := by rw [← hw8]; exact (ka7.set 2 _).set 3 _
            have kr8 : Blk w8 (w.heap.size + 1 + 1) 34 #[.int .i64 0, .int .i64 0, .slice none 0 0, .int .i64 0] := by rw [← hw8]; exact (kr7.far _ _ (by simp; omega)).far _ _ (by simp; omega)
            have hown8 : w8.ownsRow wr.heap.size 2 1 (.slice (some ⟨g, 0, none⟩) n c3) n (i64s C) := by
              rw [← hw8]
              exact ownsRow_setCell_other (ownsRow_setCell_other hown3 (by simp [Value.ownBlock]; omega) _) (by simp [Value.ownBlock]; omega) _
            have HaddL := Lib.hid (fun k => mrgC_len C K k)
            have HaddI := Lib.hid (fun k => mrgC_in k5 K k)
            rw [hw8]
            obtain ⟨bs, hbs⟩ : ∃ bs, wr.heap.size = bs := ⟨_, rfl⟩
            rw [hbs] at hown8 hg hltr
            clear hw8 hown3 hbs p0 p1 p2 p3 q0 q1 q2 q3 f0 f1 f2 f3
            go_loopw [9, 10, 61] (fun _ _ i wr' => ∃ k : Nat, k ≤ n ∧ i = .int .i64 (k : Nat) ∧ wr'.ownsRow bs 2 1 (.slice (some ⟨g, 0, none⟩) n c3) n (i64s (mrgC C K k)) ∧ Blk wr' (w.heap.size) 34 #[.int .i64 d, .int .i64 wd, .slice (some ⟨g, 0, none⟩) n c3, .int .i64 (N + N')] ∧ Blk wr' (w.heap.size + 1 + 1) 34 #[.int .i64 0, .int .i64 0, .slice none 0 0, .int .i64 0] ∧ Below w.heap.size w wr') (fun _ _ i _ => n - (intOf i).toNat)
            case atStart => exact ⟨0, by omega, rfl, hown8, ka8, kr8, hb8⟩
            case round =>
              obtain ⟨k, hkn, rfl, ho1, kar, krr, hbq⟩ := hrel
              have p0 : wr.cell? ⟨w.heap.size, 0, none⟩ = some (.int .i64 d) := kar.cell 0
              have p1 : wr.cell? ⟨w.heap.size, 1, none⟩ = some (.int .i64 wd) := kar.cell 1
              have p2 : wr.cell? ⟨w.heap.size, 2, none⟩ = some (.slice (some ⟨g, 0, none⟩) n c3) := kar.cell 2
              have p3 : wr.cell? ⟨w.heap.size, 3, none⟩ = some (.int .i64 (N + N')) := kar.cell 3
              by_cases hlt : (k : Int) < (n : Int)
              · have hkl : k < K.length := by rw [Hm.out]; omega
                obtain ⟨bd, rfl, _, c4⟩ := (hKh.next hbq).at (i64s_at hkl)
                have hsu := mrgC_succ C K k
                have c5' := ho1.cellAt k (by omega)
                rw [i64s_at (by rw [HaddL.out, Hn.out]; omega)] at c5'
                obtain ⟨y, hy⟩ : ∃ y, at_ (mrgC C K k) k = y := ⟨_, rfl⟩
                obtain ⟨u, hu⟩ : ∃ u, at_ K k = u := ⟨_, rfl⟩
                rw [hy, hu] at hsu
                rw [hy] at c5'
                rw [hu] at c4
                have HS := Lib.hid hsu
                clear hsu hy hu
                have hfz := ho1.frozenAt k
                have hst := Lib.hid (ho1.stored k (.int .i64 (wrap64 (y + u))))
                go_wp2_with fail
                go_roundw
                case rel =>
                  refine ⟨k + 1, by omega, by go_num, ?_, kar.far _ _ (by show g ≠ _; omega), krr.far _ _ (by show g ≠ _; omega), hbq.setCell (p := ⟨g, k, none⟩) (by show w.heap.size ≤ g; omega) _⟩
                  have := hst.out.1
                  rw [i64s_set] at this
                  rw [HS.out]
                  exact this
                case measure => simp [intOf]; omega
              · have hkl : k = n := by omega
                subst hkl
                have r0 : wr.cell? ⟨w.heap.size + 1 + 1, 0, none⟩ = some (.int .i64 0) := krr.cell 0
                have r1 : wr.cell? ⟨w.heap.size + 1 + 1, 1, none⟩ = some (.int .i64 0) := krr.cell 1
                have r2 : wr.cell? ⟨w.heap.size + 1 + 1, 2, none⟩ = some (.slice none 0 0) := krr.cell 2
                have r3 : wr.cell? ⟨w.heap.size + 1 + 1, 3, none⟩ = some (.int .i64 0) := krr.cell 3
                have f0 := krr.frozen 0
                have f1 := krr.frozen 1
                have f2 := krr.frozen 2
                have f3 := krr.frozen 3
                go_wp2_with fail
                refine bodyPost_ret (v := .tuple #[.agg #[.int .i64 d, .int .i64 wd, .slice (some ⟨g, 0, none⟩) k c3, .int .i64 (N + N')], .int .i64 0]) (by simp [results, Try.results31, go_sem, *]) rfl (RV.mk ?_)
                rw [ez.out, Hm.out]
                have hlen : (mrgC C K k).length = k := by rw [HaddL.out, Hn.out]
                have hcap : k ≤ c3 ∧ c3 ≤ maxLen := by
                  obtain ⟨A', c', e1, h2, h3, _, _⟩ := own_form ho1
                  injection e1 with _ _ e3
                  subst e3
                  exact ⟨h2, h3⟩
                have hoX := ownsRow_setCell_other (ownsRow_setCell_other (ownsRow_setCell_other (ownsRow_setCell_other ho1 (a := ⟨w.heap.size + 1 + 1, 0, none⟩) (by simp [Value.ownBlock]; omega) (.int .i64 d)) (a := ⟨w.heap.size + 1 + 1, 1, none⟩) (by simp [Value.ownBlock]; omega) (.int .i64 wd)) (a := ⟨w.heap.size + 1 + 1, 2, none⟩) (by simp [Value.ownBlock]; omega) (.slice (some ⟨g, 0, none⟩) k c3)) (a := ⟨w.heap.size + 1 + 1, 3, none⟩) (by simp [Value.ownBlock]; omega) (.int .i64 (N + N'))
                refine ⟨some ⟨g, 0, none⟩, c3, by simp only [hlen], ?_, (((hbq.setCell (by simp; omega) _).setCell (by simp; omega) _).setCell (by simp; omega) _).setCell (by simp; omega) _, fun ad e => by injection e with e; subst e; show w.heap.size ≤ g; omega⟩
                exact ⟨_, _, rfl, by rw [hlen]; exact hcap.1, hcap.2, (fun e => by cases e), Has.of_own hoX, HaddI.out _⟩
        · have f : ((wd : Int) != (wd' : Int)) = true := by rw [bne_iff_ne]; omega
          have ez := Lib.hid (show z = (skZero, 1) by rw [← HZ.out, mergeK, if_neg (by show ¬ chkSk _ _ _ _ ≠ 0; rw [HX.out]; simp), if_neg (by show ¬ chkSk _ _ _ _ ≠ 0; rw [HY.out]; simp), if_pos (.inr (by show (wd : Int) ≠ wd'; omega))])
          have HWW := Lib.hid hww
          clear hww
          have p0 : wr.cell? ⟨w.heap.size, 0, none⟩ = some (.int .i64 d) := ka.cell 0
          have p1 : wr.cell? ⟨w.heap.size, 1, none⟩ = some (.int .i64 wd) := ka.cell 1
          have p2 : wr.cell? ⟨w.heap.size, 2, none⟩ = some (.slice A n c) := ka.cell 2
          have p3 : wr.cell? ⟨w.heap.size, 3, none⟩ = some (.int .i64 N) := ka.cell 3
          have q0 : wr.cell? ⟨w.heap.size + 1, 0, none⟩ = some (.int .i64 d) := kb.cell 0
          have q1 : wr.cell? ⟨w.heap.size + 1, 1, none⟩ = some (.int .i64 wd') := kb.cell 1
          have q2 : wr.cell? ⟨w.heap.size + 1, 2, none⟩ = some (.slice B m e) := kb.cell 2
          have q3 : wr.cell? ⟨w.heap.size + 1, 3, none⟩ = some (.int .i64 N') := kb.cell 3
          have r0 : wr.cell? ⟨w.heap.size + 1 + 1, 0, none⟩ = some (.int .i64 0) := kr.cell 0
          have r1 : wr.cell? ⟨w.heap.size + 1 + 1, 1, none⟩ = some (.int .i64 0) := kr.cell 1
          have r2 : wr.cell? ⟨w.heap.size + 1 + 1, 2, none⟩ = some (.slice none 0 0) := kr.cell 2
          have r3 : wr.cell? ⟨w.heap.size + 1 + 1, 3, none⟩ = some (.int .i64 0) := kr.cell 3
          have f0 := kr.frozen 0
          have f1 := kr.frozen 1
          have f2 := kr.frozen 2
          have f3 := kr.frozen 3
          go_wp2_with fail
          refine bodyPost_ret (v := .tuple #[.agg #[.int .i64 0, .int .i64 0, .slice none 0 0, .int .i64 0], .int .i64 1]) (by simp [results, Try.results31, go_sem, *]) rfl (RV.mk ?_)
          rw [ez.out]
          exact ⟨none, 0, rfl, intAt_nil _, (((hbr.setCell (by simp; omega) _).setCell (by simp; omega) _).setCell (by simp; omega) _).setCell (by simp; omega) _, fun ad e => by cases e⟩
      · have f : ((d : Int) != (d' : Int)) = true := by rw [bne_iff_ne]; omega
        have ez := Lib.hid (show z = (skZero, 1) by rw [← HZ.out, mergeK, if_neg (by show ¬ chkSk _ _ _ _ ≠ 0; rw [HX.out]; simp), if_neg (by show ¬ chkSk _ _ _ _ ≠ 0; rw [HY.out]; simp), if_pos (.inl (by show (d : Int) ≠ d'; omega))])
        have HDD := Lib.hid hdd
        clear hdd
        have p0 : wr.cell? ⟨w.heap.size, 0, none⟩ = some (.int .i64 d) := ka.cell 0
        have p1 : wr.cell? ⟨w.heap.size, 1, none⟩ = some (.int .i64 wd) := ka.cell 1
        have p2 : wr.cell? ⟨w.heap.size, 2, none⟩ = some (.slice A n c) := ka.cell 2
        have p3 : wr.cell? ⟨w.heap.size, 3, none⟩ = some (.int .i64 N) := ka.cell 3
        have q0 : wr.cell? ⟨w.heap.size + 1, 0, none⟩ = some (.int .i64 d') := kb.cell 0
        have q1 : wr.cell? ⟨w.heap.size + 1, 1, none⟩ = some (.int .i64 wd') := kb.cell 1
        have q2 : wr.cell? ⟨w.heap.size + 1, 2, none⟩ = some (.slice B m e) := kb.cell 2
        have q3 : wr.cell? ⟨w.heap.size + 1, 3, none⟩ = some (.int .i64 N') := kb.cell 3
        have r0 : wr.cell? ⟨w.heap.size + 1 + 1, 0, none⟩ = some (.int .i64 0) := kr.cell 0
        have r1 : wr.cell? ⟨w.heap.size + 1 + 1, 1, none⟩ = some (.int .i64 0) := kr.cell 1
        have r2 : wr.cell? ⟨w.heap.size + 1 + 1, 2, none⟩ = some (.slice none 0 0) := kr.cell 2
        have r3 : wr.cell? ⟨w.heap.size + 1 + 1, 3, none⟩ = some (.int .i64 0) := kr.cell 3
        have f0 := kr.frozen 0
        have f1 := kr.frozen 1
        have f2 := kr.frozen 2
        have f3 := kr.frozen 3
        go_wp2_with fail
        refine bodyPost_ret (v := .tuple #[.agg #[.int .i64 0, .int .i64 0, .slice none 0 0, .int .i64 0], .int .i64 1]) (by simp [results, Try.results31, go_sem, *]) rfl (RV.mk ?_)
        rw [ez.out]
        exact ⟨none, 0, rfl, intAt_nil _, (((hbr.setCell (by simp; omega) _).setCell (by simp; omega) _).setCell (by simp; omega) _).setCell (by simp; omega) _, fun ad e => by cases e⟩
end Go.Proofs.Ytkkadfjcnocopaa
