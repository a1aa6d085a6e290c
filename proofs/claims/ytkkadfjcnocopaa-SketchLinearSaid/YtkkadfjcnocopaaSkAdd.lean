/- What Add of package sketch answers. Conditions: rows lie in their cells. -/
import Derived.Test.YtkkadfjcnocopaaSkCount
import Derived.Test.YtkkadfjcnocopaaCloneI64
namespace Go.Proofs.Ytkkadfjcnocopaa
open Go.RowKit

structure Sk where
  D : Int
  W : Int
  C : List Int
  N : Int
def skZero : Sk := ⟨0, 0, [], 0⟩
/-- the cells when n was added in the first k parts -/
def addC (C : List Int) (n : Int) (s : ByteArray) (wd : Nat) : Nat → List Int
  | 0 => C
  | k + 1 => (addC C n s wd k).set (cellN s wd k) (wrap64 (at_ (addC C n s wd k) (cellN s wd k) + n))
theorem addC_succ (C : List Int) (n : Int) (s : ByteArray) (wd k : Nat) : addC C n s wd (k + 1) = (addC C n s wd k).set (cellN s wd k) (wrap64 (at_ (addC C n s wd k) (cellN s wd k) + n)) := rfl
theorem addC_len (C : List Int) (n : Int) (s : ByteArray) (wd k : Nat) : (addC C n s wd k).length = C.length := by
  induction k with
  | zero => rfl
  | succ k ih => rw [addC, List.length_set, ih]
theorem wrap64_in (z : Int) : -9223372036854775808 ≤ wrap64 z ∧ wrap64 z ≤ 9223372036854775807 := by unfold wrap64; omega
theorem addC_in {C : List Int} (h : I64in C) (n : Int) (s : ByteArray) (wd k : Nat) : I64in (addC C n s wd k) := by
  induction k with
  | zero => exact h
  | succ k ih =>
    intro x hx
    rw [addC] at hx
    rcases List.mem_or_eq_of_mem_set hx with h1 | h1
    · exact ih x h1
    · rw [h1]; exact wrap64_in _
def addN (s : Sk) (key : ByteArray) (n : Int) : Sk × Int :=
  if chkSk s.D s.W s.C s.N ≠ 0 then (skZero, 4) else if n < 0 then (skZero, 1) else if 1152921504606846976 - s.N < n then (skZero, 2) else (⟨s.D, s.W, addC s.C n key s.W.toNat s.D.toNat, s.N + n⟩, 0)
/-- a sketch and an error, its cells a row of memory -/
def SkP (r : Sk × Int) (w : World) (v : Value) (w' : World) : Prop :=
  ∃ A c, v = .tuple #[.agg #[.int .i64 r.1.D, .int .i64 r.1.W, .slice A r.1.C.length c, .int .i64 r.1.N], .int .i64 r.2] ∧ IntAt w' (.slice A r.1.C.length c) r.1.C ∧ Below w.heap.size w w'
/-- the same, and the row is the call's own -/
def SkF (r : Sk × Int) (w : World) (v : Value) (w' : World) : Prop :=
  ∃ A c, v = .tuple #[.agg #[.int .i64 r.1.D, .int .i64 r.1.W, .slice A r.1.C.length c, .int .i64 r.1.N], .int .i64 r.2] ∧ IntAt w' (.slice A r.1.C.length c) r.1.C ∧ Below w.heap.size w w' ∧ (∀ ad, A = some ad → w.heap.size ≤ ad.block)
theorem SkF.p {P : Program} {f : FuncId} {args : Array Value} {r : Sk × Int} {w : World} (h : Calls P f args w (RV (SkF r w))) : Calls P f args w (RV (SkP r w)) :=
  h.mono fun _ _ ⟨v, h1, A, c, h2, h3, h4, _⟩ => ⟨v, h1, A, c, h2, h3, h4⟩
theorem i64s_set (l : List Int) (k : Nat) (x : Int) : (i64s l).set k (.int .i64 x) = i64s (l.set k x) := by simp [i64s, i64v, List.map_set]
theorem i64s_one (l : List Int) : ∀ u ∈ i64s l, u.oneCell' = true := by
  intro u hu
  simp only [i64s, List.mem_map] at hu
  obtain ⟨b, _, rfl⟩ := hu
  rfl
theorem intAt_nil (w : World) : IntAt w (.slice none ([] : List Int).length 0) [] := ⟨none, 0, rfl, Nat.le_refl _, Nat.zero_le _, fun _ => rfl, Has.nil _ _ _, fun x hx => by simp at hx⟩
theorem Blk.far {w : World} {k : Nat} {t : TypeId} {cs : Array Value} (h : Blk w k t cs) (p : Addr) (u : Value) (hne : p.block ≠ k) : Blk (w.setCell p u) k t cs := (Below.heap_setCell w p u k (fun e => hne (by rw [e]))).trans h

set_option maxRecDepth 1000000 in
set_option maxHeartbeats 8000000 in
theorem add_anyF (D W : Int) (A : Option Addr) (c : Nat) (C : List Int) (N : Int) (key : ByteArray) (hk : key.size ≤ maxLen) (n : Int) (hn : in64 n) (w : World) (hC : IntAt w (.slice A C.length c) C) :
    Calls Try.prog 28 #[.agg #[.int .i64 D, .int .i64 W, .slice A C.length c, .int .i64 N], .string key, .int .i64 n] w (RV (SkF (addN ⟨D, W, C, N⟩ key n) w)) := by
  unfold in64 at hn
  obtain ⟨m, hm⟩ : ∃ m, C.length = m := ⟨_, rfl⟩
  obtain ⟨w0, hw0⟩ : ∃ w0, ((w.alloc (.cells #[.int .i64 D, .int .i64 W, .slice A m c, .int .i64 N] 34)).alloc (.cells #[.int .i64 0, .int .i64 0, .slice none 0 0, .int .i64 0] 34)) = w0 := ⟨_, rfl⟩
  have hb0 : Below w.heap.size w w0 := by rw [← hw0]; exact ((Below.refl _ _).alloc (Nat.le_refl _) _).alloc (by simp) _
  have kS : Blk w0 w.heap.size 34 #[.int .i64 D, .int .i64 W, .slice A m c, .int .i64 N] := by rw [← hw0]; exact (Blk.new _ _ _).alloc _
  have kR : Blk w0 (w.heap.size + 1) 34 #[.int .i64 0, .int .i64 0, .slice none 0 0, .int .i64 0] := by
    rw [← hw0]
    have := Blk.new (w.alloc (.cells #[.int .i64 D, .int .i64 W, .slice A m c, .int .i64 N] 34)) 34 #[.int .i64 0, .int .i64 0, .slice none 0 0, .int .i64 0]
    rwa [World.size_alloc] at this
  have hchk := scheck_any D W A c C N w0 (hC.next hb0)
  obtain ⟨z, hz⟩ : ∃ z, addN ⟨D, W, C, N⟩ key n = z := ⟨_, rfl⟩
  rw [hz]
  rw [hm] at hchk ⊢
  have Hm := Lib.hid hm
  have HW := Lib.hid hw0
  clear hm hw0
  rcases chkSk_cases D W C N with h0 | ⟨h0, d, wd, rfl, rfl, d1, d2, d3, d4, hl, n0, n1, hrow⟩
  · have ez := Lib.hid (show z = (skZero, 4) by rw [← hz, addN, if_pos (by rw [h0]; decide)])
    rw [h0] at hchk
    have HCk := Lib.hid hchk
    clear hchk h0 hz
    go_enter Try.func28, Try.ntmps28
    go_wp2_with fail
    rw [HW.out]
    refine HCk.out.mono ?_
    rintro e w2 ⟨rfl, hb2⟩
    have kR2 := kR.next hb2
    have r0 : w2.cell? ⟨w.heap.size + 1, 0, none⟩ = some (.int .i64 0) := kR2.cell 0
    have r1 : w2.cell? ⟨w.heap.size + 1, 1, none⟩ = some (.int .i64 0) := kR2.cell 1
    have r2 : w2.cell? ⟨w.heap.size + 1, 2, none⟩ = some (.slice none 0 0) := kR2.cell 2
    have r3 : w2.cell? ⟨w.heap.size + 1, 3, none⟩ = some (.int .i64 0) := kR2.cell 3
    have f0 := kR2.frozen 0
    have f1 := kR2.frozen 1
    have f2 := kR2.frozen 2
    have f3 := kR2.frozen 3
    go_wp2_with fail
    refine bodyPost_ret (v := .tuple #[.agg #[.int .i64 0, .int .i64 0, .slice none 0 0, .int .i64 0], .int .i64 4]) (by simp [results, Try.results28, go_sem, *]) rfl (RV.mk ?_)
    rw [ez.out]
    refine ⟨none, 0, rfl, intAt_nil _, ?_, fun ad e => by cases e⟩
    exact ((((bnext hb0 hb2).setCell (by simp) _).setCell (by simp) _).setCell (by simp) _).setCell (by simp) _
  · rw [h0] at hchk
    have HCk := Lib.hid hchk
    have HL := Lib.hid hl
    have ewn : IntKind.i64.wrap (1152921504606846976 - N) = 1152921504606846976 - N := IntWalk.i64_in _ (by omega)
    clear hchk hl hrow
    by_cases hn0 : n < 0
    · have ez := Lib.hid (show z = (skZero, 1) by rw [← hz, addN, if_neg (by rw [h0]; decide), if_pos hn0])
      clear h0 hz
      go_enter Try.func28, Try.ntmps28
      go_wp2_with fail
      rw [HW.out]
      refine HCk.out.mono ?_
      rintro e w2 ⟨rfl, hb2⟩
      have kR2 := kR.next hb2
      have r0 : w2.cell? ⟨w.heap.size + 1, 0, none⟩ = some (.int .i64 0) := kR2.cell 0
      have r1 : w2.cell? ⟨w.heap.size + 1, 1, none⟩ = some (.int .i64 0) := kR2.cell 1
      have r2 : w2.cell? ⟨w.heap.size + 1, 2, none⟩ = some (.slice none 0 0) := kR2.cell 2
      have r3 : w2.cell? ⟨w.heap.size + 1, 3, none⟩ = some (.int .i64 0) := kR2.cell 3
      have f0 := kR2.frozen 0
      have f1 := kR2.frozen 1
      have f2 := kR2.frozen 2
      have f3 := kR2.frozen 3
      go_wp2_with fail
      refine bodyPost_ret (v := .tuple #[.agg #[.int .i64 0, .int .i64 0, .slice none 0 0, .int .i64 0], .int .i64 1]) (by simp [results, Try.results28, go_sem, *]) rfl (RV.mk ?_)
      rw [ez.out]
      refine ⟨none, 0, rfl, intAt_nil _, ?_, fun ad e => by cases e⟩
      exact ((((bnext hb0 hb2).setCell (by simp) _).setCell (by simp) _).setCell (by simp) _).setCell (by simp) _
    by_cases hn1 : 1152921504606846976 - N < n
    · have ez := Lib.hid (show z = (skZero, 2) by rw [← hz, addN, if_neg (by rw [h0]; decide), if_neg hn0, if_pos hn1])
      clear h0 hz
      go_enter Try.func28, Try.ntmps28
      go_wp2_with fail
      rw [HW.out]
      refine HCk.out.mono ?_
      rintro e w2 ⟨rfl, hb2⟩
      have kR2 := kR.next hb2
      have kS2 := kS.next hb2
      have r0 : w2.cell? ⟨w.heap.size + 1, 0, none⟩ = some (.int .i64 0) := kR2.cell 0
      have r1 : w2.cell? ⟨w.heap.size + 1, 1, none⟩ = some (.int .i64 0) := kR2.cell 1
      have r2 : w2.cell? ⟨w.heap.size + 1, 2, none⟩ = some (.slice none 0 0) := kR2.cell 2
      have r3 : w2.cell? ⟨w.heap.size + 1, 3, none⟩ = some (.int .i64 0) := kR2.cell 3
      have f0 := kR2.frozen 0
      have f1 := kR2.frozen 1
      have f2 := kR2.frozen 2
      have f3 := kR2.frozen 3
      have p3 : w2.cell? ⟨w.heap.size, 3, none⟩ = some (.int .i64 N) := kS2.cell 3
      go_wp2_with fail
      refine bodyPost_ret (v := .tuple #[.agg #[.int .i64 0, .int .i64 0, .slice none 0 0, .int .i64 0], .int .i64 2]) (by simp [results, Try.results28, go_sem, *]) rfl (RV.mk ?_)
      rw [ez.out]
      refine ⟨none, 0, rfl, intAt_nil _, ?_, fun ad e => by cases e⟩
      exact ((((bnext hb0 hb2).setCell (by simp) _).setCell (by simp) _).setCell (by simp) _).setCell (by simp) _
    have ez := Lib.hid (show z = (⟨d, wd, addC C n key wd d, N + n⟩, 0) by rw [← hz, addN, if_neg (by rw [h0]; decide), if_neg hn0, if_neg hn1]; simp)
    have ewa : IntKind.i64.wrap (N + n) = N + n := IntWalk.i64_in _ (by omega)
    clear h0 hz
    obtain ⟨A0, c0, e0, k1, k2, k3, k4, k5⟩ := hC
    injection e0 with e1 _ e2
    subst e1 e2
    have hmw : m ≤ 1600 := by rw [← Hm.out, HL.out]; exact Nat.mul_le_mul d2 d4
    have hml : 0 < m := by rw [← Hm.out, HL.out]; exact Nat.mul_pos (by omega) (by omega)
    go_enter Try.func28, Try.ntmps28
    go_wp2_with fail
    rw [HW.out]
    refine HCk.out.mono ?_
    rintro e w2 ⟨rfl, hb2⟩
    have hb12 := bnext hb0 hb2
    have kR2 := kR.next hb2
    have kS2 := kS.next hb2
    have p0 : w2.cell? ⟨w.heap.size, 0, none⟩ = some (.int .i64 d) := kS2.cell 0
    have p1 : w2.cell? ⟨w.heap.size, 1, none⟩ = some (.int .i64 wd) := kS2.cell 1
    have p2 : w2.cell? ⟨w.heap.size, 2, none⟩ = some (.slice A m c) := kS2.cell 2
    have p3 : w2.cell? ⟨w.heap.size, 3, none⟩ = some (.int .i64 N) := kS2.cell 3
    go_wp2_with fail
    refine (cloneI64_any A m c (i64s C) (by rw [i64s_len, Hm.out, Nat.mul_one]) (i64s_one C) (fun e => by have := k3 e; rw [this] at k1; have := Hm.out; omega) (by omega) _ (by exact k4.next hb12)).mono ?_
    rintro e w3 ⟨v, rfl, A3, c3, rfl, hown3, hb3⟩
    have hb13 := bnext hb12 hb3
    have kR3 := kR2.next hb3
    have kS3 := kS2.next hb3
    obtain ⟨g, cap, ev, hg, hgs⟩ := hown3.form (by omega)
    injection ev with e1 e2 e3
    subst e1 e3
    have hs2 := kR2.lt
    clear p0 p1 p2 p3
    have p0 : w3.cell? ⟨w.heap.size, 0, none⟩ = some (.int .i64 d) := kS3.cell 0
    have p1 : w3.cell? ⟨w.heap.size, 1, none⟩ = some (.int .i64 wd) := kS3.cell 1
    have p2 : w3.cell? ⟨w.heap.size, 2, none⟩ = some (.slice A m c) := kS3.cell 2
    have p3 : w3.cell? ⟨w.heap.size, 3, none⟩ = some (.int .i64 N) := kS3.cell 3
    have f2 := kS3.frozen 2
    have f3 := kS3.frozen 3
    go_wp2_with fail
    clear p0 p1 p2 p3 f2 f3
    have hgne : g ≠ w.heap.size := by omega
    have hgne1 : g ≠ w.heap.size + 1 := by omega
    obtain ⟨w4, hw4⟩ : ∃ w4, (w3.setCell ⟨w.heap.size, 2, none⟩ (.slice (some ⟨g, 0, none⟩) m c3)).setCell ⟨w.heap.size, 3, none⟩ (.int .i64 (N + n)) = w4 := ⟨_, rfl⟩
    have hb14 : Below w.heap.size w w4 := by rw [← hw4]; exact (hb13.setCell (by simp) _).setCell (by simp) _
    have kS4 : Blk w4 w.heap.size 34 #[.int .i64 d, .int .i64 wd, .slice (some ⟨g, 0, none⟩) m c3, .int .i64 (N + n)] := by rw [← hw4]; exact (kS3.set 2 _).set 3 _
    have kR4 : Blk w4 (w.heap.size + 1) 34 #[.int .i64 0, .int .i64 0, .slice none 0 0, .int .i64 0] := by rw [← hw4]; exact (kR3.far _ _ (by simp)).far _ _ (by simp)
    have hown4 : w4.ownsRow w2.heap.size 2 1 (.slice (some ⟨g, 0, none⟩) m c3) m (i64s C) := by
      rw [← hw4]
      exact ownsRow_setCell_other (ownsRow_setCell_other hown3 (by simp [Value.ownBlock]; omega) _) (by simp [Value.ownBlock]; omega) _
    have hs4 : w3.heap.size = w4.heap.size := by rw [← hw4]; simp
    rw [hw4]
    clear hw4
    refine (cells_any d wd (some ⟨g, 0, none⟩) m c3 (N + n) key d1 d2 d3 d4 hk _).mono ?_
    rintro e w5 ⟨v, rfl, A5, c5, rfl, hown5, hb5⟩
    have hb15 := bnext hb14 hb5
    have kS5 := kS4.next hb5
    have kR5 := kR4.next hb5
    have hownC := own_next hown4 hb5
    have hgs4 : g < w4.heap.size := by omega
    have hin := addC_in k5 n key wd
    have haddl := addC_len C n key wd
    have HaddI := Lib.hid hin
    have HaddL := Lib.hid haddl
    clear hin haddl hown3 hown4
    go_wp2_with fail
    go_loopw [10, 41] (fun _ i wr => ∃ k : Nat, k ≤ d ∧ i = .int .i64 (k : Nat) ∧ wr.ownsRow w2.heap.size 2 1 (.slice (some ⟨g, 0, none⟩) m c3) m (i64s (addC C n key wd k)) ∧ wr.ownsRow w4.heap.size 3 1 (.slice A5 d c5) d (i64s (cellsN key wd d)) ∧ Blk wr w.heap.size 34 #[.int .i64 d, .int .i64 wd, .slice (some ⟨g, 0, none⟩) m c3, .int .i64 (N + n)] ∧ Blk wr (w.heap.size + 1) 34 #[.int .i64 0, .int .i64 0, .slice none 0 0, .int .i64 0] ∧ Below w.heap.size w wr) (fun _ i _ => d - (intOf i).toNat)
    case atStart => exact ⟨0, by omega, rfl, hownC, hown5, kS5, kR5, hb15⟩
    case round =>
      obtain ⟨k, hkd, rfl, ho1, ho2, kSr, kRr, hbr⟩ := hrel
      have p0 : wr.cell? ⟨w.heap.size, 0, none⟩ = some (.int .i64 d) := kSr.cell 0
      have p1 : wr.cell? ⟨w.heap.size, 1, none⟩ = some (.int .i64 wd) := kSr.cell 1
      have p2 : wr.cell? ⟨w.heap.size, 2, none⟩ = some (.slice (some ⟨g, 0, none⟩) m c3) := kSr.cell 2
      have p3 : wr.cell? ⟨w.heap.size, 3, none⟩ = some (.int .i64 (N + n)) := kSr.cell 3
      by_cases hlt : (k : Int) < (d : Int)
      · have hkl : k < d := by omega
        have hx : cellN key wd k < m := by rw [← Hm.out, HL.out]; exact cellN_lt d3 hkl
        obtain ⟨bd, rfl, hbd, c4⟩ := (Has.of_own ho2).at (i64s_at (show k < (cellsN key wd d).length by rw [cellsN_len]; exact hkl))
        rw [cellsN_at hkl] at c4
        have hsu := addC_succ C n key wd k
        have c5' := ho1.cellAt (cellN key wd k) (by omega)
        rw [i64s_at (by rw [HaddL.out, Hm.out]; exact hx)] at c5'
        obtain ⟨x, hxx⟩ : ∃ x, cellN key wd k = x := ⟨_, rfl⟩
        rw [hxx] at hsu hx c4 c5'
        have HS := Lib.hid hsu
        clear hsu hxx
        have hfz := ho1.frozenAt x
        obtain ⟨y, hy⟩ : ∃ y, at_ (addC C n key wd k) x = y := ⟨_, rfl⟩
        rw [hy] at c5'
        have HY := Lib.hid hy
        clear hy
        have hst := Lib.hid (ho1.stored x (.int .i64 (wrap64 (y + n))))
        go_wp2_with fail
        go_roundw
        case rel =>
          refine ⟨k + 1, by omega, by go_num, ?_, ?_, kSr.far _ _ hgne, kRr.far _ _ hgne1, hbr.setCell (p := ⟨g, x, none⟩) (by show w.heap.size ≤ g; omega) _⟩
          · have := hst.out.1
            rw [i64s_set] at this
            rw [HS.out, HY.out]
            exact this
          · exact ownsRow_setCell_below ho2 (a := ⟨g, x, none⟩) hgs4 _
        case measure => simp [intOf]; omega
      · have hkl : k = d := by omega
        subst hkl
        have r0 : wr.cell? ⟨w.heap.size + 1, 0, none⟩ = some (.int .i64 0) := kRr.cell 0
        have r1 : wr.cell? ⟨w.heap.size + 1, 1, none⟩ = some (.int .i64 0) := kRr.cell 1
        have r2 : wr.cell? ⟨w.heap.size + 1, 2, none⟩ = some (.slice none 0 0) := kRr.cell 2
        have r3 : wr.cell? ⟨w.heap.size + 1, 3, none⟩ = some (.int .i64 0) := kRr.cell 3
        have f0 := kRr.frozen 0
        have f1 := kRr.frozen 1
        have f2 := kRr.frozen 2
        have f3 := kRr.frozen 3
        go_wp2_with fail
        refine bodyPost_ret (v := .tuple #[.agg #[.int .i64 k, .int .i64 wd, .slice (some ⟨g, 0, none⟩) m c3, .int .i64 (N + n)], .int .i64 0]) (by simp [results, Try.results28, go_sem, *]) rfl (RV.mk ?_)
        rw [ez.out]
        have hlen : (addC C n key wd k).length = m := by rw [HaddL.out, Hm.out]
        have hcap : m ≤ c3 ∧ c3 ≤ maxLen := by
          obtain ⟨A', c', e1, h2, h3, _, _⟩ := own_form ho1
          injection e1 with _ _ e3
          subst e3
          exact ⟨h2, h3⟩
        have hz1 : ∀ j, (⟨w.heap.size + 1, j, none⟩ : Addr).block = w.heap.size + 1 := fun _ => rfl
        have hoX := ownsRow_setCell_other (ownsRow_setCell_other (ownsRow_setCell_other (ownsRow_setCell_other ho1 (a := ⟨w.heap.size + 1, 0, none⟩) (by simp [Value.ownBlock]; omega) (.int .i64 k)) (a := ⟨w.heap.size + 1, 1, none⟩) (by simp [Value.ownBlock]; omega) (.int .i64 wd)) (a := ⟨w.heap.size + 1, 2, none⟩) (by simp [Value.ownBlock]; omega) (.slice (some ⟨g, 0, none⟩) m c3)) (a := ⟨w.heap.size + 1, 3, none⟩) (by simp [Value.ownBlock]; omega) (.int .i64 (N + n))
        refine ⟨some ⟨g, 0, none⟩, c3, by simp only [hlen], ?_, (((hbr.setCell (by simp) _).setCell (by simp) _).setCell (by simp) _).setCell (by simp) _, fun ad e => by injection e with e; subst e; show w.heap.size ≤ g; omega⟩
        exact ⟨_, _, rfl, by rw [hlen]; exact hcap.1, hcap.2, (fun e => by cases e), Has.of_own hoX, HaddI.out _⟩
theorem add_any (D W : Int) (A : Option Addr) (c : Nat) (C : List Int) (N : Int) (key : ByteArray) (hk : key.size ≤ maxLen) (n : Int) (hn : in64 n) (w : World) (hC : IntAt w (.slice A C.length c) C) :
    Calls Try.prog 28 #[.agg #[.int .i64 D, .int .i64 W, .slice A C.length c, .int .i64 N], .string key, .int .i64 n] w (RV (SkP (addN ⟨D, W, C, N⟩ key n) w)) :=
  SkF.p (add_anyF D W A c C N key hk n hn w hC)
end Go.Proofs.Ytkkadfjcnocopaa
