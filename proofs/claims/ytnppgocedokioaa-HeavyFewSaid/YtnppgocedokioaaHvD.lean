/- What Add of package heavy makes. Conditions: rows lie in their cells; the tally is as the document wants it. -/
import Derived.Test.YtnppgocedokioaaHvC
namespace Go.Proofs.Ytnppgocedokioaa
open Go.RowKit

theorem insH_eq {l : List Cn} {k : ByteArray} {i : Nat} (hp : PlaceH l k i) : insH l k = l.take i ++ ⟨k, 1⟩ :: l.drop i := by
  induction l generalizing i with
  | nil =>
    have : i = 0 := by have := hp.1; simpa using this
    subst this; rfl
  | cons c l ih =>
    cases i with
    | zero =>
      have h := hp.2.2 (by simp)
      have h : ¬ nlt c.k k := h
      unfold insH; rw [if_neg h]; rfl
    | succ i =>
      have h := hp.2.1 0 (by omega)
      have h : nlt c.k k := h
      unfold insH; rw [if_pos h, List.take_succ_cons, List.drop_succ_cons, List.cons_append]
      rw [ih ⟨by have := hp.1; simpa using this, fun j hj => hp.2.1 (j + 1) (by omega), fun g => hp.2.2 (by rw [List.length_cons]; omega)⟩]
theorem bumpH_eq {l : List Cn} (hu : RiseH l) {k : ByteArray} {i : Nat} (hi : i < l.length) (hk : (at_ l i).k = k) : bumpH l k = l.set i ⟨(at_ l i).k, (at_ l i).n + 1⟩ := by
  apply List.ext_getElem
  · rw [bumpH_len, List.length_set]
  · intro j h1 h2
    have h3 := h1
    rw [bumpH_len] at h1
    rw [List.getElem_set, show (bumpH l k)[j] = if l[j].k = k then (⟨l[j].k, l[j].n + 1⟩ : Cn) else l[j] from List.getElem_map _]
    by_cases e : i = j
    · subst e
      rw [if_pos rfl, if_pos (by rw [← at_eq h1]; exact hk), ← at_eq h1]
    · rw [if_neg e, if_neg]
      intro g
      rw [← at_eq h1] at g
      rcases Nat.lt_trichotomy i j with h | h | h
      · exact nlt_ne (at_RiseH hu h h1) (hk.trans g.symm)
      · exact e h
      · exact nlt_ne (at_RiseH hu h hi) (g.trans hk.symm)

set_option maxRecDepth 1000000 in
set_option maxHeartbeats 8000000 in
theorem addBad_any (K N Off : Int) (A : Option Addr) (n c : Nat) (L : List Cn) (hn : L.length = n) (hok : OkHv ⟨K, L, N, Off⟩) (key : ByteArray) (hbad : 40 < key.size ∨ N = 1000000000) (w : World) (h : Has w w.heap.size A (cnCs L)) :
    Calls Try.prog 34 #[.agg #[.int .i64 K, .slice A n c, .int .i64 N, .int .i64 Off], .string key] w (RV (HvF (zeroHv, 2) w)) := by
  have H1 := Lib.hid (fun (w : World) (h : Has w w.heap.size A (cnCs L)) => hcheck_any K N Off A n c L hn hok w h)
  have hN : N ≤ 1000000000 := hok.n1
  clear hok hn
  have hb0 := two_allocs w (.cells #[.int .i64 K, .slice A n c, .int .i64 N, .int .i64 Off] 26) (.cells #[.int .i64 0, .slice none 0 0, .int .i64 0, .int .i64 0] 26)
  have hs1 : (w.alloc (.cells #[.int .i64 K, .slice A n c, .int .i64 N, .int .i64 Off] 26)).heap.size = w.heap.size + 1 := World.size_alloc _ _
  have kS0 : Blk ((w.alloc (.cells #[.int .i64 K, .slice A n c, .int .i64 N, .int .i64 Off] 26)).alloc (.cells #[.int .i64 0, .slice none 0 0, .int .i64 0, .int .i64 0] 26)) w.heap.size 26 #[.int .i64 K, .slice A n c, .int .i64 N, .int .i64 Off] := (Blk.new w _ _).alloc _
  have kR0 : Blk ((w.alloc (.cells #[.int .i64 K, .slice A n c, .int .i64 N, .int .i64 Off] 26)).alloc (.cells #[.int .i64 0, .slice none 0 0, .int .i64 0, .int .i64 0] 26)) (w.heap.size + 1) 26 #[.int .i64 0, .slice none 0 0, .int .i64 0, .int .i64 0] := by
    have := Blk.new (w.alloc (.cells #[.int .i64 K, .slice A n c, .int .i64 N, .int .i64 Off] 26)) 26 #[.int .i64 0, .slice none 0 0, .int .i64 0, .int .i64 0]
    rwa [hs1] at this
  by_cases hk : (40 : Int) < (key.size : Int)
  all_goals
    first
      | (have hk' : ¬ ((40 : Int) < (key.size : Int)) := hk
         have hNe : N = 1000000000 := by omega
         have d1 : decide (N = 1000000000) = true := decide_eq_true hNe
         subst hNe)
      | skip
    clear hbad
    go_enter Try.func34, Try.ntmps34
    go_wp2_with fail
    refine (H1.out _ (by exact h.next hb0)).mono ?_
    rintro e w1 ⟨rfl, hb1⟩
    have kS1 := kS0.next hb1
    have kR1 := kR0.next hb1
    have hb01 := bnext hb0 hb1
    have y0 : w1.cell? ⟨w.heap.size, 0, none⟩ = some (.int .i64 K) := kS1.cell 0
    have y2 := kS1.cell 2
    have r0 : w1.cell? ⟨w.heap.size + 1, 0, none⟩ = some (.int .i64 0) := kR1.cell 0
    have r1 : w1.cell? ⟨w.heap.size + 1, 1, none⟩ = some (.slice none 0 0) := kR1.cell 1
    have r2 : w1.cell? ⟨w.heap.size + 1, 2, none⟩ = some (.int .i64 0) := kR1.cell 2
    have r3 : w1.cell? ⟨w.heap.size + 1, 3, none⟩ = some (.int .i64 0) := kR1.cell 3
    have f0 := kR1.frozen 0
    have f1 := kR1.frozen 1
    have f2 := kR1.frozen 2
    have f3 := kR1.frozen 3
    clear kS0 kR0 hb0
    go_wp2_with fail
    refine bodyPost_ret (v := .tuple #[.agg #[.int .i64 0, .slice none 0 0, .int .i64 0, .int .i64 0], .int .i64 2]) (by simp [results, Try.results34, go_sem, *]) rfl (RV.mk ?_)
    exact ⟨none, 0, rfl, HvL.nil _, (((hb01.setCell (by simp) _).setCell (by simp) _).setCell (by simp) _).setCell (by simp) _, fun ad e => by cases e⟩

/-- how a call's end puts a tally into its result's cells -/
theorem HvF.put {K N Off : Int} {z : Int} {L : List Cn} {w w' : World} {b m c base : Nat} {A : Option Addr} (hL : L.length = m) (hown : w'.ownsRow base 72 2 (.slice A m c) m (cnCs L)) (hb : Below w.heap.size w w') (hb1 : b < base) (hb2 : w.heap.size ≤ b) (x0 x1 x2 x3 : Value) :
    HvF (⟨K, L, N, Off⟩, z) w (.tuple #[.agg #[.int .i64 K, .slice A m c, .int .i64 N, .int .i64 Off], .int .i64 z]) ((((w'.setCell ⟨b, 0, none⟩ x0).setCell ⟨b, 1, none⟩ x1).setCell ⟨b, 2, none⟩ x2).setCell ⟨b, 3, none⟩ x3) := by
  subst hL
  have hA : ∀ ad, A = some ad → base ≤ ad.block := by
    rintro ad rfl
    exact (own_blockM hown ad.block rfl).1
  have hl := HvL.own hown
  refine ⟨A, c, rfl, ⟨hl.1, hl.2.1, hl.2.2.1, ?_⟩, (((hb.setCell hb2 _).setCell hb2 _).setCell hb2 _).setCell hb2 _, fun ad e => by have := hA ad e; omega⟩
  have hne : ∀ ad, A = some ad → ad.block ≠ b := fun ad e => by have := hA ad e; omega
  simp only [World.size_setCell]
  exact (((hl.2.2.2.far _ _ hne).far _ _ hne).far _ _ hne).far _ _ hne

set_option maxRecDepth 1000000 in
set_option maxHeartbeats 16000000 in
theorem addGood_any (K N Off : Int) (A : Option Addr) (n c : Nat) (L : List Cn) (hn : L.length = n) (hok : OkHv ⟨K, L, N, Off⟩) (key : ByteArray) (hgood : ¬ (40 < key.size ∨ N = 1000000000)) (w : World) (hA : A = none → n = 0 ∧ c = 0) (h : Has w w.heap.size A (cnCs L)) :
    Calls Try.prog 34 #[.agg #[.int .i64 K, .slice A n c, .int .i64 N, .int .i64 Off], .string key] w (RV (HvF (⟨K, stepL ⟨K, L, N, Off⟩ key, N + 1, stepO ⟨K, L, N, Off⟩ key⟩, 0) w)) := by
  have H1 := Lib.hid (fun (w : World) (h : Has w w.heap.size A (cnCs L)) => hcheck_any K N Off A n c L hn hok w h)
  have k2 : K ≤ 64 := hok.k2
  have k1 : 1 ≤ K := hok.k1
  have k3 : (n : Int) ≤ K := by rw [← hn]; exact hok.len
  have k5 : N ≤ 1000000000 := hok.n1
  have k6 : 0 ≤ N := hok.n0
  have k7 : 0 ≤ Off := hok.off
  have k8 : Off ≤ N := hok.more.1
  have hHM := Lib.hid hok.more.2.1
  have HR := Lib.hid hok.rise
  have HE := Lib.hid hok.each
  have hnz : N ≠ 1000000000 := by omega
  have hkz : ¬ ((40 : Int) < (key.size : Int)) := by omega
  have d1 : (N == 1000000000) = false := by rw [beq_eq_false_iff_ne]; exact hnz
  have Hn := Lib.hid hn
  have hl0 : (cnCs L).length = n * 2 := by rw [cnCs_len, hn]
  have H2 := Lib.hid (fun (w : World) (h : Has w w.heap.size A (cnCs L)) => cloneCn_any A n c (cnCs L) hl0 (cnCs_one L) hA (by omega) w h)
  obtain ⟨L', hL'⟩ : ∃ L', stepL ⟨K, L, N, Off⟩ key = L' := ⟨_, rfl⟩
  obtain ⟨O', hO'⟩ : ∃ O', stepO ⟨K, L, N, Off⟩ key = O' := ⟨_, rfl⟩
  rw [hL', hO']
  have HL' := Lib.hid hL'
  have HO' := Lib.hid hO'
  unfold stepL at HL'
  unfold stepO at HO'
  simp only [] at HL' HO'
  clear hok hn hgood hl0 hA hL' hO'
  have hb0 := two_allocs w (.cells #[.int .i64 K, .slice A n c, .int .i64 N, .int .i64 Off] 26) (.cells #[.int .i64 0, .slice none 0 0, .int .i64 0, .int .i64 0] 26)
  have hs1 : (w.alloc (.cells #[.int .i64 K, .slice A n c, .int .i64 N, .int .i64 Off] 26)).heap.size = w.heap.size + 1 := World.size_alloc _ _
  have kS0 : Blk ((w.alloc (.cells #[.int .i64 K, .slice A n c, .int .i64 N, .int .i64 Off] 26)).alloc (.cells #[.int .i64 0, .slice none 0 0, .int .i64 0, .int .i64 0] 26)) w.heap.size 26 #[.int .i64 K, .slice A n c, .int .i64 N, .int .i64 Off] := (Blk.new w _ _).alloc _
  have kR0 : Blk ((w.alloc (.cells #[.int .i64 K, .slice A n c, .int .i64 N, .int .i64 Off] 26)).alloc (.cells #[.int .i64 0, .slice none 0 0, .int .i64 0, .int .i64 0] 26)) (w.heap.size + 1) 26 #[.int .i64 0, .slice none 0 0, .int .i64 0, .int .i64 0] := by
    have := Blk.new (w.alloc (.cells #[.int .i64 K, .slice A n c, .int .i64 N, .int .i64 Off] 26)) 26 #[.int .i64 0, .slice none 0 0, .int .i64 0, .int .i64 0]
    rwa [hs1] at this
  clear hs1
  go_enter Try.func34, Try.ntmps34
  go_wp2_with fail
  refine (H1.out _ (by exact h.next hb0)).mono ?_
  rintro e w1 ⟨rfl, hb1⟩
  have kS1 := kS0.next hb1
  have kR1 := kR0.next hb1
  have hb01 := bnext hb0 hb1
  have hlt1 := kR1.lt
  have y0 : w1.cell? ⟨w.heap.size, 0, none⟩ = some (.int .i64 K) := kS1.cell 0
  have y1 : w1.cell? ⟨w.heap.size, 1, none⟩ = some (.slice A n c) := kS1.cell 1
  have y2 : w1.cell? ⟨w.heap.size, 2, none⟩ = some (.int .i64 N) := kS1.cell 2
  have y3 : w1.cell? ⟨w.heap.size, 3, none⟩ = some (.int .i64 Off) := kS1.cell 3
  have f2 := kS1.frozen 2
  clear kS0 kR0 hb0 hb1
  go_wp2_with fail
  -- N is one more
  obtain ⟨w2, hw2⟩ : ∃ w2, w1.setCell ⟨w.heap.size, 2, none⟩ (.int .i64 (N + 1)) = w2 := ⟨_, rfl⟩
  have kS2 : Blk w2 w.heap.size 26 #[.int .i64 K, .slice A n c, .int .i64 (N + 1), .int .i64 Off] := by rw [← hw2]; exact kS1.set 2 _
  have kR2 : Blk w2 (w.heap.size + 1) 26 #[.int .i64 0, .slice none 0 0, .int .i64 0, .int .i64 0] := by rw [← hw2]; exact kR1.far _ _ (by show w.heap.size ≠ w.heap.size + 1; omega)
  have hb02 : Below w.heap.size w w2 := by rw [← hw2]; exact hb01.setCell (by simp) _
  rw [hw2]
  clear hw2 y0 y1 y2 y3 f2 kS1 kR1 hb01 hlt1
  refine (H2.out _ (by exact h.next hb02)).mono ?_
  rintro e w3 ⟨v, rfl, A3, c3, rfl, hown3, hb23⟩
  have kS3 := kS2.next hb23
  have kR3 := kR2.next hb23
  have hlt2 := kR2.lt
  have hb03 := bnext hb02 hb23
  have hs23 := hb23.size
  have y1 : w3.cell? ⟨w.heap.size, 1, none⟩ = some (.slice A n c) := kS3.cell 1
  have f1 := kS3.frozen 1
  clear hb23 hb02 kS2 kR2
  go_wp2_with fail
  obtain ⟨w4, hw4⟩ : ∃ w4, w3.setCell ⟨w.heap.size, 1, none⟩ (.slice A3 n c3) = w4 := ⟨_, rfl⟩
  have kS4 : Blk w4 w.heap.size 26 #[.int .i64 K, .slice A3 n c3, .int .i64 (N + 1), .int .i64 Off] := by rw [← hw4]; exact kS3.set 1 _
  have kR4 : Blk w4 (w.heap.size + 1) 26 #[.int .i64 0, .slice none 0 0, .int .i64 0, .int .i64 0] := by rw [← hw4]; exact kR3.far _ _ (by show w.heap.size ≠ w.heap.size + 1; omega)
  have hb04 : Below w.heap.size w w4 := by rw [← hw4]; exact hb03.setCell (by simp) _
  have hown4 : w4.ownsRow w2.heap.size 72 2 (.slice A3 n c3) n (cnCs L) := by
    rw [← hw4]; exact ownsRow_setCell_below hown3 (a := ⟨w.heap.size, 1, none⟩) (by show w.heap.size < w2.heap.size; omega) _
  have hb24s : w2.heap.size ≤ w4.heap.size := by rw [← hw4, World.size_setCell]; exact hs23
  rw [hw4]
  clear hw4 hown3 y1 f1 kS3 kR3 hb03 hs23
  refine (findH_any A3 n c3 L Hn.out (by omega) HR.out key _ (Has.of_own hown4)).mono ?_
  rintro e w5 ⟨v, rfl, ⟨i, rfl, hp⟩, hb5⟩
  have kS5 := kS4.next hb5
  have kR5 := kR4.next hb5
  have hb05 := bnext hb04 hb5
  have hown5 := own_next hown4 hb5
  have hs5 : w2.heap.size ≤ w5.heap.size := Nat.le_trans hb24s hb5.size
  have hin : i ≤ n := by rw [← Hn.out]; exact hp.1
  have y0 : w5.cell? ⟨w.heap.size, 0, none⟩ = some (.int .i64 K) := kS5.cell 0
  have y1 : w5.cell? ⟨w.heap.size, 1, none⟩ = some (.slice A3 n c3) := kS5.cell 1
  have y2 : w5.cell? ⟨w.heap.size, 2, none⟩ = some (.int .i64 (N + 1)) := kS5.cell 2
  have y3 : w5.cell? ⟨w.heap.size, 3, none⟩ = some (.int .i64 Off) := kS5.cell 3
  have r0 : w5.cell? ⟨w.heap.size + 1, 0, none⟩ = some (.int .i64 0) := kR5.cell 0
  have r1 : w5.cell? ⟨w.heap.size + 1, 1, none⟩ = some (.slice none 0 0) := kR5.cell 1
  have r2 : w5.cell? ⟨w.heap.size + 1, 2, none⟩ = some (.int .i64 0) := kR5.cell 2
  have r3 : w5.cell? ⟨w.heap.size + 1, 3, none⟩ = some (.int .i64 0) := kR5.cell 3
  have f0 := kR5.frozen 0
  have f1 := kR5.frozen 1
  have f2 := kR5.frozen 2
  have f3 := kR5.frozen 3
  have g1 := kS5.frozen 1
  have g3 := kS5.frozen 3
  have Hp := Lib.hid hp
  clear hown4 kS4 kR4 hb04 hb5 hb24s hp
  by_cases hh : hasH L key
  · rw [decide_eq_true hh]
    obtain ⟨hi, hik⟩ := (Hp.out.mem HR.out).1 hh
    have HL2 := HL'.out
    have HO2 := HO'.out
    rw [if_pos hh] at HL2 HO2
    have e1 := bumpH_eq HR.out hi hik
    have hx0 := (HE.out _ (at_mem hi)).2
    have hx1 : (at_ L i).n ≤ N := hHM.out _ (at_mem hi)
    obtain ⟨x, hx⟩ : ∃ x, (at_ L i).n = x := ⟨_, rfl⟩
    rw [hx] at e1 hx0 hx1
    rw [Hn.out] at hi
    obtain ⟨g, cap, ev, hg, hgs⟩ := hown5.form (by omega)
    injection ev with ev1 _ ev3
    subst ev1 ev3
    have c4 := (hown5.cellAt (i * 2 + 1) (by omega)).trans (cnCs_1 (by rw [Hn.out]; exact hi))
    rw [hx] at c4
    have fz := hown5.frozenAt (i * 2 + 1)
    have hst := (hown5.stored (i * 2 + 1) (.int .i64 (x + 1))).1
    rw [cnCs_set1, ← e1, HL2] at hst
    have hLl := Lib.hid (show L'.length = n by rw [← HL2, bumpH_len]; exact Hn.out)
    have Hst := Lib.hid hst
    have gne : ¬ (w.heap.size = g) := by omega
    have gne' : ¬ (g = w.heap.size) := by omega
    have gne1 : ¬ (w.heap.size + 1 = g) := by omega
    have gne1' : ¬ (g = w.heap.size + 1) := by omega
    subst HO2
    clear HL2 HL' hst e1 hx hh hik hown5
    go_wp2_with fail
    refine bodyPost_ret (v := .tuple #[.agg #[.int .i64 K, .slice (some ⟨g, 0, none⟩) n c3, .int .i64 (N + 1), .int .i64 Off], .int .i64 0]) (by simp [results, Try.results34, go_sem, *]) rfl (RV.mk ?_)
    exact HvF.put (base := w2.heap.size) hLl.out Hst.out (hb05.setCell (by show w.heap.size ≤ g; omega) _) hlt2 (by omega) _ _ _ _
  · rw [decide_eq_false hh]
    have HL2 := HL'.out
    have HO2 := HO'.out
    rw [if_neg hh] at HL2 HO2
    by_cases hlt : (n : Int) < K
    · have hlt' : (L.length : Int) < K := by rw [Hn.out]; exact hlt
      rw [if_pos hlt'] at HL2 HO2
      subst HO2
      rw [insH_eq Hp.out] at HL2
      have hLl := Lib.hid (show L'.length = n + 1 by rw [← HL2, List.length_append, List.length_cons, List.length_take, List.length_drop, Hn.out]; omega)
      have hxs : (cnCs L).take (i * 2) ++ ((#[Value.string key, .int .i64 1] : Array Value).toList ++ (cnCs L).drop (i * 2)) = cnCs L' := by
        rw [← HL2, cnCs_take, cnCs_drop, cnCs_app]; rfl
      have kb : Blk (w5.alloc (.cells #[.string key, .int .i64 1] 72)) w5.heap.size 72 #[.string key, .int .i64 1] := Blk.new _ _ _
      have hownX := hown5.alloc (.cells #[.string key, .int .i64 1] 72)
      have hszX : (w5.alloc (.cells #[.string key, .int .i64 1] 72)).heap.size = w5.heap.size + 1 := World.size_alloc _ _
      have hbX := hb05.alloc hb05.size (.cells #[.string key, .int .i64 1] 72)
      have kSX := kS5.alloc (.cells #[.string key, .int .i64 1] 72)
      have kRX := kR5.alloc (.cells #[.string key, .int .i64 1] 72)
      have hob := fun k hk => own_blockM hown5 k hk
      have hneb : (Value.slice A3 n c3).ownBlock ≠ some w5.heap.size := fun e => by have := (hob _ e).2; omega
      have HI := Lib.hid (insH2_any (base := w2.heap.size) (n := n) (v := .slice A3 n c3) (xs := cnCs L) (i := i) (vb := w5.heap.size) (vc := 1) #[.string key, .int .i64 1] _ hownX (by rw [hszX]; omega) hin rfl (by intro u hu; simp at hu; rcases hu with rfl | rfl <;> rfl) (cnCs_one L) kb hneb (by omega))
      rw [hxs] at HI
      clear HL2 hlt' hh hxs HL'
      go_wp2_with fail
      refine HI.out.mono ?_
      rintro e w6 ⟨v6, rfl, ho6, hg6, hb6⟩
      obtain ⟨A6, c6, rfl, _⟩ := own_form ho6
      have kS6 := kSX.grown hg6 (fun e => by have := (hob _ e.symm).1; omega)
      have kR6 := kRX.grown hg6 (fun e => by have := (hob _ e.symm).1; omega)
      have hb06 := hbX.trans ((grown_below hownX hg6 (by rw [hszX]; omega)).mono (by have := hbX.size; have := hb05.size; omega))
      clear y0 y1 y2 y3 r0 r1 r2 r3 f0 f1 f2 f3 g1 g3 hownX hown5 kSX kRX hbX kS5 kR5
      have y0 : w6.cell? ⟨w.heap.size, 0, none⟩ = some (.int .i64 K) := kS6.cell 0
      have y1 : w6.cell? ⟨w.heap.size, 1, none⟩ = some (.slice A3 n c3) := kS6.cell 1
      have y2 : w6.cell? ⟨w.heap.size, 2, none⟩ = some (.int .i64 (N + 1)) := kS6.cell 2
      have y3 : w6.cell? ⟨w.heap.size, 3, none⟩ = some (.int .i64 Off) := kS6.cell 3
      have r0 : w6.cell? ⟨w.heap.size + 1, 0, none⟩ = some (.int .i64 0) := kR6.cell 0
      have r1 : w6.cell? ⟨w.heap.size + 1, 1, none⟩ = some (.slice none 0 0) := kR6.cell 1
      have r2 : w6.cell? ⟨w.heap.size + 1, 2, none⟩ = some (.int .i64 0) := kR6.cell 2
      have r3 : w6.cell? ⟨w.heap.size + 1, 3, none⟩ = some (.int .i64 0) := kR6.cell 3
      have f0 := kR6.frozen 0
      have f1 := kR6.frozen 1
      have f2 := kR6.frozen 2
      have f3 := kR6.frozen 3
      have g1 := kS6.frozen 1
      have ho7 := ownsRow_setCell_below ho6 (a := ⟨w.heap.size, 1, none⟩) (by show w.heap.size < w2.heap.size; omega) (.slice A6 (n + 1) c6)
      have hb07 := hb06.setCell (p := ⟨w.heap.size, 1, none⟩) (by simp) (.slice A6 (n + 1) c6)
      go_wp2_with fail
      refine bodyPost_ret (v := .tuple #[.agg #[.int .i64 K, .slice A6 (n + 1) c6, .int .i64 (N + 1), .int .i64 Off], .int .i64 0]) (by simp [results, Try.results34, go_sem, *]) rfl (RV.mk ?_)
      exact HvF.put (base := w2.heap.size) hLl.out ho7 hb07 hlt2 (by omega) _ _ _ _
    · have hlt' : ¬ ((L.length : Int) < K) := by rw [Hn.out]; exact hlt
      rw [if_neg hlt'] at HL2 HO2
      subst HO2
      have hLl := Lib.hid HL2
      have H6 := Lib.hid (lessH_any A3 n c3 L Hn.out (by omega) 1 (by omega) (fun x hx => by have h1 := (HE.out x hx).2; have h2 : x.n ≤ N := hHM.out x hx; omega) w5 (Has.of_own hown5))
      rw [HL2] at H6
      clear HL2 hlt' hh HL'
      go_wp2_with fail
      refine H6.out.mono ?_
      rintro e w6 ⟨v6, rfl, A6, c6, rfl, ho6, hb6⟩
      have kS6 := kS5.next hb6
      have kR6 := kR5.next hb6
      have hb06 := bnext hb05 hb6
      obtain ⟨m, hm⟩ : ∃ m, L'.length = m := ⟨_, rfl⟩
      rw [hm] at ho6
      rw [hm]
      have Hm := Lib.hid hm
      clear y0 y1 y2 y3 r0 r1 r2 r3 f0 f1 f2 f3 g1 g3 hown5 kS5 kR5 hb05 hb6 hm
      have y0 : w6.cell? ⟨w.heap.size, 0, none⟩ = some (.int .i64 K) := kS6.cell 0
      have y1 : w6.cell? ⟨w.heap.size, 1, none⟩ = some (.slice A3 n c3) := kS6.cell 1
      have y2 : w6.cell? ⟨w.heap.size, 2, none⟩ = some (.int .i64 (N + 1)) := kS6.cell 2
      have y3 : w6.cell? ⟨w.heap.size, 3, none⟩ = some (.int .i64 Off) := kS6.cell 3
      have r0 : w6.cell? ⟨w.heap.size + 1, 0, none⟩ = some (.int .i64 0) := kR6.cell 0
      have r1 : w6.cell? ⟨w.heap.size + 1, 1, none⟩ = some (.slice none 0 0) := kR6.cell 1
      have r2 : w6.cell? ⟨w.heap.size + 1, 2, none⟩ = some (.int .i64 0) := kR6.cell 2
      have r3 : w6.cell? ⟨w.heap.size + 1, 3, none⟩ = some (.int .i64 0) := kR6.cell 3
      have f0 := kR6.frozen 0
      have f1 := kR6.frozen 1
      have f2 := kR6.frozen 2
      have f3 := kR6.frozen 3
      have g1 := kS6.frozen 1
      have g3 := kS6.frozen 3
      have ho7 := ownsRow_setCell_below (ownsRow_setCell_below ho6 (a := ⟨w.heap.size, 1, none⟩) (by show w.heap.size < w5.heap.size; omega) (.slice A6 m c6)) (a := ⟨w.heap.size, 3, none⟩) (by show w.heap.size < w5.heap.size; omega) (.int .i64 (Off + 1))
      have hb07 := (hb06.setCell (p := ⟨w.heap.size, 1, none⟩) (by simp) (.slice A6 m c6)).setCell (p := ⟨w.heap.size, 3, none⟩) (by simp) (.int .i64 (Off + 1))
      go_wp2_with fail
      refine bodyPost_ret (v := .tuple #[.agg #[.int .i64 K, .slice A6 m c6, .int .i64 (N + 1), .int .i64 (Off + 1)], .int .i64 0]) (by simp [results, Try.results34, go_sem, *]) rfl (RV.mk ?_)
      exact HvF.put (base := w5.heap.size) Hm.out ho7 hb07 (by omega) (by omega) _ _ _ _
end Go.Proofs.Ytnppgocedokioaa
