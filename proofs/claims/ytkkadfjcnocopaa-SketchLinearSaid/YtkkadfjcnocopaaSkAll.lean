/- Sketches of many keys, one by one, and how often one came. Conditions: rows lie in their cells. -/
import Derived.Test.YtkkadfjcnocopaaLawOften
import Derived.Test.YtkkadfjcnocopaaOpenS
namespace Go.Proofs.Ytkkadfjcnocopaa
open Go.RowKit

theorem strCs_at {l : List ByteArray} {k : Nat} (h : k < l.length) : (strCs l)[k]? = some (.string (at_ l k)) := by
  have := flat_at (f := strC) (C := 1) (fun _ => rfl) h (r := 0) (by decide)
  rw [Nat.mul_one, Nat.add_zero] at this
  exact this
theorem toList_eq' {a b : ByteArray} (h : a.toList = b.toList) : a = b := by
  rw [Lib.toList_data, Lib.toList_data] at h
  cases a; cases b
  simp only [] at h
  rw [Array.toList_inj.1 h]

/-- the cells when the first k keys came -/
def allC (l : List ByteArray) (wd d : Nat) : Nat → List Int
  | 0 => List.replicate (d * wd) 0
  | k + 1 => addC (allC l wd d k) 1 (at_ l k) wd d
def timesN (l : List ByteArray) (key : ByteArray) : Nat → Int
  | 0 => 0
  | k + 1 => timesN l key k + (if at_ l k = key then 1 else 0)
theorem allC_succ (l : List ByteArray) (wd d k : Nat) : allC l wd d (k + 1) = addC (allC l wd d k) 1 (at_ l k) wd d := rfl
theorem timesN_succ (l : List ByteArray) (key : ByteArray) (k : Nat) : timesN l key (k + 1) = timesN l key k + (if at_ l k = key then 1 else 0) := rfl
theorem allC_len (l : List ByteArray) (wd d k : Nat) : (allC l wd d k).length = d * wd := by
  induction k with
  | zero => rw [allC, List.length_replicate]
  | succ k ih => rw [allC, addC_len, ih]
theorem sum_zeros : ∀ n : Nat, sumL (List.replicate n 0) = 0
  | 0 => rfl
  | n + 1 => by rw [List.replicate_succ, sumL, sum_zeros n]; rfl
theorem row_zeros {n wd k : Nat} : leftR 0 (rowK (List.replicate n 0) wd k) = some 0 := by
  refine leftR_iff.2 ⟨fun a ha => ?_, ?_⟩
  · unfold rowK at ha
    have := List.mem_of_mem_take ha
    have := List.mem_of_mem_drop this
    rw [List.eq_of_mem_replicate this]; exact Int.le_refl _
  · unfold rowK
    rw [List.drop_replicate, List.take_replicate]
    exact sum_zeros _
theorem allC_ok {l : List ByteArray} {wd d : Nat} (d3 : 1 ≤ wd) : ∀ k : Nat, k ≤ 17592186044416 → ∀ i, i < d → leftR (k : Int) (rowK (allC l wd d k) wd i) = some 0
  | 0, _, i, _ => row_zeros
  | k + 1, hk, i, hi => by
    have ih := allC_ok (l := l) (d := d) d3 k (by omega)
    have := addC_ok (N := (k : Int)) (n := 1) (s := at_ l k) d3 (allC_len l wd d k) (by omega) (by omega) ih i hi
    rw [show ((k + 1 : Nat) : Int) = (k : Int) + 1 by omega]
    exact this
theorem allC_chk {l : List ByteArray} {wd d k : Nat} (d1 : 1 ≤ d) (d2 : d ≤ 8) (d3 : 1 ≤ wd) (d4 : wd ≤ 200) (hk : k ≤ 17592186044416) : chkSk d wd (allC l wd d k) (k : Int) = 0 := by
  have h := allC_ok (l := l) (d := d) d3 k hk
  unfold chkSk
  exact if_pos (show skOk d wd (allC l wd d k) (k : Int) from ⟨⟨by omega, by omega, by omega, by omega⟩, by rw [allC_len, Int.natCast_mul], by omega, by omega, fun i hi => h i (by simpa using hi)⟩)
theorem allC_add {l : List ByteArray} {wd d k : Nat} (d1 : 1 ≤ d) (d2 : d ≤ 8) (d3 : 1 ≤ wd) (d4 : wd ≤ 200) (hk : k + 1 ≤ 17592186044416) :
    addN ⟨d, wd, allC l wd d k, (k : Int)⟩ (at_ l k) 1 = (⟨d, wd, allC l wd d (k + 1), (k : Int) + 1⟩, 0) := by
  have h' : chkSk (⟨d, wd, allC l wd d k, (k : Int)⟩ : Sk).D (⟨d, wd, allC l wd d k, (k : Int)⟩ : Sk).W (⟨d, wd, allC l wd d k, (k : Int)⟩ : Sk).C (⟨d, wd, allC l wd d k, (k : Int)⟩ : Sk).N = 0 := allC_chk d1 d2 d3 d4 (by omega)
  unfold addN
  rw [if_neg (fun x => x h'), if_neg (by omega), if_neg (by show ¬ _ < _; simp only []; omega)]
  simp only [Int.toNat_natCast]
  rfl
theorem times_le (l : List ByteArray) (key : ByteArray) : ∀ k, 0 ≤ timesN l key k ∧ timesN l key k ≤ (k : Int)
  | 0 => by rw [timesN]; omega
  | k + 1 => by
    have := times_le l key k
    rw [timesN]
    split <;> omega
theorem times_cell {l : List ByteArray} {key : ByteArray} {wd d : Nat} (d3 : 1 ≤ wd) : ∀ k : Nat, k ≤ 17592186044416 → ∀ i, i < d → timesN l key k ≤ at_ (allC l wd d k) (i * wd + qN key wd i)
  | 0, _, i, hi => by
    have hq : qN key wd i < wd := qN_lt d3
    have hlt : i * wd + qN key wd i < d * wd := by have := Nat.mul_le_mul_right wd hi; rw [Nat.succ_mul] at this; omega
    rw [timesN, allC, at_eq (by rw [List.length_replicate]; exact hlt), List.getElem_replicate]; exact Int.le_refl _
  | k + 1, hk, i, hi => by
    have ih := times_cell (l := l) (key := key) (d := d) d3 k (by omega) i hi
    have e := addC_at (N := (k : Int)) (n := 1) (s := at_ l k) d3 (allC_len l wd d k) (by omega) (by omega) (allC_ok (l := l) (d := d) d3 k (by omega)) hi (qN_lt (s := key) (i := i) d3)
    rw [timesN, allC, e]
    split
    · rename_i h; rw [h, if_pos rfl]; omega
    · split <;> omega
theorem times_least {l : List ByteArray} {key : ByteArray} {wd d k : Nat} (d3 : 1 ≤ wd) (hk : k ≤ 17592186044416) : ∀ i, i ≤ d → timesN l key k ≤ leastN (allC l wd d k) (k : Int) key wd i
  | 0, _ => (times_le l key k).2
  | i + 1, hi => by
    have h1 := times_least (l := l) (key := key) (d := d) d3 hk i (by omega)
    have h2 := times_cell (l := l) (key := key) (d := d) d3 k hk i (by omega)
    rw [leastN, cellN_eq]
    omega

set_option maxRecDepth 1000000 in
set_option maxHeartbeats 2000000 in
theorem times_any (A : Option Addr) (n c : Nat) (l : List ByteArray) (key : ByteArray) (hn : l.length = n) (hl : n ≤ 17592186044416) (w : World) (h : Has w w.heap.size A (strCs l)) :
    Calls Try.prog 26 #[.slice A n c, .string key] w (R1 (.int .i64 (timesN l key n)) (fun w' => w' = w)) := by
  have Hn := Lib.hid hn; clear hn
  go_enter Try.func26, Try.ntmps26
  go_wp2_with fail
  go_loopw [5, 10] (fun t i wr => ∃ k : Nat, k ≤ n ∧ i = .int .i64 (k : Nat) ∧ t = .int .i64 (timesN l key k) ∧ wr = w) (fun _ i _ => n - (intOf i).toNat)
  case atStart => exact ⟨0, by omega, rfl, rfl, rfl⟩
  case round =>
    obtain ⟨k, hk, rfl, rfl, rfl⟩ := hrel
    by_cases hlt : (k : Int) < (n : Int)
    · obtain ⟨ad, rfl, _, c1⟩ := h.at (strCs_at (show k < l.length by rw [Hn.out]; omega))
      have hs := timesN_succ l key k
      have hb := times_le l key k
      obtain ⟨x, hx⟩ : ∃ x, at_ l k = x := ⟨_, rfl⟩
      obtain ⟨t, ht⟩ : ∃ t, timesN l key k = t := ⟨_, rfl⟩
      rw [hx, ht] at hs
      rw [hx] at c1
      rw [ht] at hb ⊢
      clear hx ht
      have ew : IntKind.i64.wrap (t + 1) = t + 1 := IntWalk.i64_in _ (by omega)
      by_cases hxk : x = key
      · subst hxk
        rw [if_pos rfl] at hs
        have HS := Lib.hid hs
        clear hs
        go_wp2_with fail
        go_roundw
        case rel => exact ⟨k + 1, by omega, by go_num, int_eq (by rw [HS.out]), by trivial⟩
        case measure => simp [intOf]; omega
      · rw [if_neg hxk] at hs
        have HS := Lib.hid hs
        have hne : ¬ x.toList = key.toList := fun h => hxk (toList_eq' h)
        have hne2 : (x.toList == key.toList) = false := by rw [beq_eq_false_iff_ne]; exact hne
        clear hs hxk
        go_wp2_with fail
        go_roundw
        case rel => exact ⟨k + 1, by omega, by go_num, int_eq (by rw [HS.out, Int.add_zero]), by trivial⟩
        case measure => simp [intOf]; omega
    · have hkl : k = n := by omega
      subst hkl
      go_wp2_with fail
      go_ret
      exact R1.mk rfl rfl

/-- a sketch and whether it went well -/
def SbP (s : Sk) (b : Bool) (w : World) (v : Value) (w' : World) : Prop :=
  ∃ A c, v = .tuple #[.agg #[.int .i64 s.D, .int .i64 s.W, .slice A s.C.length c, .int .i64 s.N], .bool b] ∧ IntAt w' (.slice A s.C.length c) s.C ∧ Below w.heap.size w w'

set_option maxRecDepth 1000000 in
set_option maxHeartbeats 8000000 in
theorem sketchedBad_any (D W : Int) (hbad : ¬ szOk D W) (A : Option Addr) (n c : Nat) (l : List ByteArray) (hn : l.length = n) (hl : n ≤ 17592186044416) (w : World) (h : Has w w.heap.size A (strCs l)) :
    Calls Try.prog 23 #[.int .i64 D, .int .i64 W, .slice A n c] w (RV (SbP skZero false w)) := by
  have Hn := Lib.hid hn; clear hn
  have e0 := Lib.hid (show emptyN D W = (skZero, 1) by unfold emptyN; rw [if_neg hbad])
  clear hbad
  have hb1 := one_alloc w (.cells #[.int .i64 0, .int .i64 0, .slice none 0 0, .int .i64 0] 34)
  have kR : Blk (w.alloc (.cells #[.int .i64 0, .int .i64 0, .slice none 0 0, .int .i64 0] 34)) w.heap.size 34 #[.int .i64 0, .int .i64 0, .slice none 0 0, .int .i64 0] := Blk.new _ _ _
  go_enter Try.func23, Try.ntmps23
  go_wp2_with fail
  refine (emptyS_anyF D W _).mono ?_
  rw [e0.out]
  rintro e w2 ⟨v, rfl, A2, c2, rfl, hI, hb2', hfr⟩
  simp only [skZero, List.length_nil] at hI ⊢
  have hb2 := bnext hb1 hb2'
  have kR2 := kR.next hb2'
  have kR3 := kR2.next (one_alloc w2 (.cells #[.int .i64 0, .int .i64 0, .slice A2 0 c2, .int .i64 0] 34))
  have kB3 : Blk (w2.alloc (.cells #[.int .i64 0, .int .i64 0, .slice A2 0 c2, .int .i64 0] 34)) w2.heap.size 34 #[.int .i64 0, .int .i64 0, .slice A2 0 c2, .int .i64 0] := Blk.new _ _ _
  have hb3 := bnext hb2 (one_alloc w2 (.cells #[.int .i64 0, .int .i64 0, .slice A2 0 c2, .int .i64 0] 34))
  have hI3 := hI.next (one_alloc w2 (.cells #[.int .i64 0, .int .i64 0, .slice A2 0 c2, .int .i64 0] 34))
  go_wp2_with fail
  obtain ⟨w3, hw3⟩ : ∃ w3, w2.alloc (.cells #[.int .i64 0, .int .i64 0, .slice A2 0 c2, .int .i64 0] 34) = w3 := ⟨_, rfl⟩
  rw [hw3] at kR3 kB3 hb3 hI3 ⊢
  have hA3 : ∀ ad, A2 = some ad → ad.block < w3.heap.size ∨ True := fun _ _ => .inr trivial
  clear hw3 hA3
  go_loopw [9, 20] (fun f i wr => ∃ k : Nat, k ≤ n ∧ i = .int .i64 (k : Nat) ∧ f = .int .i64 1 ∧ wr = w3) (fun _ i _ => n - (intOf i).toNat)
  case atStart => exact ⟨0, by omega, rfl, rfl, rfl⟩
  case round =>
    obtain ⟨k, hk, rfl, rfl, rfl⟩ := hrel
    by_cases hlt : (k : Int) < (n : Int)
    · obtain ⟨ad, rfl, _, c1⟩ := (h.next hb3).at (strCs_at (show k < l.length by rw [Hn.out]; omega))
      go_wp2_with fail
      go_roundw
      case rel => exact ⟨k + 1, by omega, by go_num, rfl, by trivial⟩
      case measure => simp [intOf]; omega
    · have p0 : wr.cell? ⟨w.heap.size, 0, none⟩ = some (.int .i64 0) := kR3.cell 0
      have p1 : wr.cell? ⟨w.heap.size, 1, none⟩ = some (.int .i64 0) := kR3.cell 1
      have p2 : wr.cell? ⟨w.heap.size, 2, none⟩ = some (.slice none 0 0) := kR3.cell 2
      have p3 : wr.cell? ⟨w.heap.size, 3, none⟩ = some (.int .i64 0) := kR3.cell 3
      have f0 := kR3.frozen 0
      have f1 := kR3.frozen 1
      have f2 := kR3.frozen 2
      have f3 := kR3.frozen 3
      have q0 : wr.cell? ⟨w2.heap.size, 0, none⟩ = some (.int .i64 0) := kB3.cell 0
      have q1 : wr.cell? ⟨w2.heap.size, 1, none⟩ = some (.int .i64 0) := kB3.cell 1
      have q2 : wr.cell? ⟨w2.heap.size, 2, none⟩ = some (.slice A2 0 c2) := kB3.cell 2
      have q3 : wr.cell? ⟨w2.heap.size, 3, none⟩ = some (.int .i64 0) := kB3.cell 3
      go_wp2_with fail
      refine bodyPost_ret (v := .tuple #[.agg #[.int .i64 0, .int .i64 0, .slice A2 0 c2, .int .i64 0], .bool false]) (by simp [results, Try.results23, go_sem, *]) rfl (RV.mk ?_)
      obtain ⟨A0, c0, e0', k1, k2, k3, k4, k5⟩ := hI3
      injection e0' with e1' _ e2'
      subst e1' e2'
      exact ⟨A2, c2, rfl, ⟨_, _, rfl, Nat.zero_le _, k2, k3, Has.nil _ _ _, fun x hx => by simp [skZero] at hx⟩, (((hb3.setCell (by simp) _).setCell (by simp) _).setCell (by simp) _).setCell (by simp) _⟩

set_option maxRecDepth 1000000 in
set_option maxHeartbeats 8000000 in
theorem sketchedGood_any (d wd : Nat) (d1 : 1 ≤ d) (d2 : d ≤ 8) (d3 : 1 ≤ wd) (d4 : wd ≤ 200) (A : Option Addr) (n c : Nat) (l : List ByteArray) (hs : ∀ s ∈ l, s.size ≤ maxLen) (hn : l.length = n) (hl : n ≤ 17592186044416) (w : World) (h : Has w w.heap.size A (strCs l)) :
    Calls Try.prog 23 #[.int .i64 d, .int .i64 wd, .slice A n c] w (RV (SbP ⟨d, wd, allC l wd d n, n⟩ true w)) := by
  have Hn := Lib.hid hn; clear hn
  obtain ⟨m, hm⟩ : ∃ m, d * wd = m := ⟨_, rfl⟩
  have hmp : 0 < m := by rw [← hm]; exact Nat.mul_pos (by omega) (by omega)
  have e0 := Lib.hid (show emptyN d wd = (⟨d, wd, allC l wd d 0, 0⟩, 0) by unfold emptyN; rw [if_pos (show szOk (d : Int) (wd : Int) from ⟨by omega, by omega, by omega, by omega⟩), ← Int.natCast_mul, Int.toNat_natCast]; rfl)
  have HL := Lib.hid (fun k => (allC_len l wd d k).trans hm)
  have Hadd := Lib.hid (fun (k : Nat) (hk : k + 1 ≤ 17592186044416) => allC_add (l := l) (k := k) d1 d2 d3 d4 hk)
  clear hm
  have hb1 := one_alloc w (.cells #[.int .i64 0, .int .i64 0, .slice none 0 0, .int .i64 0] 34)
  have kR : Blk (w.alloc (.cells #[.int .i64 0, .int .i64 0, .slice none 0 0, .int .i64 0] 34)) w.heap.size 34 #[.int .i64 0, .int .i64 0, .slice none 0 0, .int .i64 0] := Blk.new _ _ _
  go_enter Try.func23, Try.ntmps23
  go_wp2_with fail
  refine (emptyS_anyF d wd _).mono ?_
  rw [e0.out]
  rintro e w2 ⟨v, rfl, A2, c2, rfl, hI, hb2', hfr⟩
  simp only [HL.out] at hI ⊢
  have hb2 := bnext hb1 hb2'
  have hlt2 := hI.lt hmp
  have hs1 : (w.alloc (.cells #[.int .i64 0, .int .i64 0, .slice none 0 0, .int .i64 0] 34)).heap.size = w.heap.size + 1 := by simp
  have hs2 := hb2'.size
  have kR2 := kR.next hb2'
  have kR3 := kR2.next (one_alloc w2 (.cells #[.int .i64 d, .int .i64 wd, .slice A2 m c2, .int .i64 0] 34))
  have kB3 : Blk (w2.alloc (.cells #[.int .i64 d, .int .i64 wd, .slice A2 m c2, .int .i64 0] 34)) w2.heap.size 34 #[.int .i64 d, .int .i64 wd, .slice A2 m c2, .int .i64 0] := Blk.new _ _ _
  have hb3 := bnext hb2 (one_alloc w2 (.cells #[.int .i64 d, .int .i64 wd, .slice A2 m c2, .int .i64 0] 34))
  have hI3 := hI.next (one_alloc w2 (.cells #[.int .i64 d, .int .i64 wd, .slice A2 m c2, .int .i64 0] 34))
  go_wp2_with fail
  obtain ⟨w3, hw3⟩ : ∃ w3, w2.alloc (.cells #[.int .i64 d, .int .i64 wd, .slice A2 m c2, .int .i64 0] 34) = w3 := ⟨_, rfl⟩
  rw [hw3] at kR3 kB3 hb3 hI3 ⊢
  clear hw3
  go_loopw [9, 20] (fun f i wr => ∃ (k : Nat) (A' : Option Addr) (c' : Nat), k ≤ n ∧ i = .int .i64 (k : Nat) ∧ f = .int .i64 0 ∧ Blk wr w.heap.size 34 #[.int .i64 0, .int .i64 0, .slice none 0 0, .int .i64 0] ∧ Blk wr w2.heap.size 34 #[.int .i64 d, .int .i64 wd, .slice A' m c', .int .i64 (k : Int)] ∧ IntAt wr (.slice A' m c') (allC l wd d k) ∧ (∀ ad, A' = some ad → ad.block ≠ w2.heap.size ∧ ad.block ≠ w.heap.size) ∧ Below w.heap.size w wr) (fun _ i _ => n - (intOf i).toNat)
  case atStart => exact ⟨0, A2, c2, by omega, rfl, rfl, kR3, kB3, hI3, fun ad e => by have h1 := hlt2 ad e; have h2 := hfr ad e; omega, hb3⟩
  case round =>
    obtain ⟨k, A', c', hkn, rfl, rfl, kRr, kBr, hIr, hne, hbr⟩ := hrel
    have q0 : wr.cell? ⟨w2.heap.size, 0, none⟩ = some (.int .i64 d) := kBr.cell 0
    have q1 : wr.cell? ⟨w2.heap.size, 1, none⟩ = some (.int .i64 wd) := kBr.cell 1
    have q2 : wr.cell? ⟨w2.heap.size, 2, none⟩ = some (.slice A' m c') := kBr.cell 2
    have q3 : wr.cell? ⟨w2.heap.size, 3, none⟩ = some (.int .i64 (k : Int)) := kBr.cell 3
    by_cases hlt : (k : Int) < (n : Int)
    · have hkl : k < l.length := by rw [Hn.out]; omega
      obtain ⟨ad, rfl, _, c1⟩ := (h.next hbr).at (strCs_at hkl)
      obtain ⟨x, hx⟩ : ∃ x, at_ l k = x := ⟨_, rfl⟩
      have hxs : x.size ≤ maxLen := by rw [← hx]; exact hs _ (at_mem hkl)
      have e1 := Hadd.out k (by omega)
      rw [hx] at e1 c1
      have hadd := add_anyF d wd A' c' (allC l wd d k) (k : Int) x hxs 1 (by unfold in64; omega) wr (by rw [HL.out]; exact hIr)
      rw [e1, HL.out] at hadd
      have HA := Lib.hid hadd
      have hltb := kBr.lt
      have hltr := kRr.lt
      clear hadd e1 hx
      go_wp2_with fail
      refine HA.out.mono ?_
      rintro e w8 ⟨v, rfl, A6, c6, rfl, hI6, hb8, hfr8⟩
      simp only [HL.out] at hI6 ⊢
      have kB8 := kBr.next hb8
      have kR8 := kRr.next hb8
      have hne6 : ∀ ad, A6 = some ad → ad.block ≠ w2.heap.size ∧ ad.block ≠ w.heap.size := fun ad e => by have := hfr8 ad e; omega
      have hne6' : ∀ ad, A6 = some ad → ad.block ≠ w2.heap.size := fun ad e => (hne6 ad e).1
      clear q0 q1 q2 q3
      have q0 : w8.cell? ⟨w2.heap.size, 0, none⟩ = some (.int .i64 d) := kB8.cell 0
      have q1 : w8.cell? ⟨w2.heap.size, 1, none⟩ = some (.int .i64 wd) := kB8.cell 1
      have q2 : w8.cell? ⟨w2.heap.size, 2, none⟩ = some (.slice A' m c') := kB8.cell 2
      have q3 : w8.cell? ⟨w2.heap.size, 3, none⟩ = some (.int .i64 (k : Int)) := kB8.cell 3
      have f0 := kB8.frozen 0
      have f1 := kB8.frozen 1
      have f2 := kB8.frozen 2
      have f3 := kB8.frozen 3
      go_wp2_with fail
      go_roundw
      case rel =>
        refine ⟨k + 1, A6, c6, by omega, by go_num, rfl, ((((kR8.far ⟨w2.heap.size, 0, none⟩ _ (by show w2.heap.size ≠ w.heap.size; omega)).far ⟨w2.heap.size, 1, none⟩ _ (by show w2.heap.size ≠ w.heap.size; omega)).far ⟨w2.heap.size, 2, none⟩ _ (by show w2.heap.size ≠ w.heap.size; omega)).far ⟨w2.heap.size, 3, none⟩ _ (by show w2.heap.size ≠ w.heap.size; omega)), ?_, ((((hI6.far ⟨w2.heap.size, 0, none⟩ _ hne6').far ⟨w2.heap.size, 1, none⟩ _ hne6').far ⟨w2.heap.size, 2, none⟩ _ hne6').far ⟨w2.heap.size, 3, none⟩ _ hne6'), hne6, ((((hbr.trans (hb8.mono hbr.size)).setCell (by show w.heap.size ≤ w2.heap.size; omega) _).setCell (by show w.heap.size ≤ w2.heap.size; omega) _).setCell (by show w.heap.size ≤ w2.heap.size; omega) _).setCell (by show w.heap.size ≤ w2.heap.size; omega) _⟩
        have h1 := (((kB8.set 0 (.int .i64 d)).set 1 (.int .i64 wd)).set 2 (.slice A6 m c6)).set 3 (.int .i64 ((k : Int) + 1))
        rw [show ((k + 1 : Nat) : Int) = (k : Int) + 1 by omega]
        exact h1
      case measure => simp [intOf]; omega
    · have hkl : k = n := by omega
      subst hkl
      have p0 : wr.cell? ⟨w.heap.size, 0, none⟩ = some (.int .i64 0) := kRr.cell 0
      have p1 : wr.cell? ⟨w.heap.size, 1, none⟩ = some (.int .i64 0) := kRr.cell 1
      have p2 : wr.cell? ⟨w.heap.size, 2, none⟩ = some (.slice none 0 0) := kRr.cell 2
      have p3 : wr.cell? ⟨w.heap.size, 3, none⟩ = some (.int .i64 0) := kRr.cell 3
      have f0 := kRr.frozen 0
      have f1 := kRr.frozen 1
      have f2 := kRr.frozen 2
      have f3 := kRr.frozen 3
      go_wp2_with fail
      refine bodyPost_ret (v := .tuple #[.agg #[.int .i64 d, .int .i64 wd, .slice A' m c', .int .i64 (k : Int)], .bool true]) (by simp [results, Try.results23, go_sem, *]) rfl (RV.mk ?_)
      have hne0 : ∀ ad, A' = some ad → ad.block ≠ w.heap.size := fun ad e => (hne ad e).2
      exact ⟨A', c', by simp only [HL.out], by simp only [HL.out]; exact ((((hIr.far ⟨w.heap.size, 0, none⟩ _ hne0).far ⟨w.heap.size, 1, none⟩ _ hne0).far ⟨w.heap.size, 2, none⟩ _ hne0).far ⟨w.heap.size, 3, none⟩ _ hne0), (((hbr.setCell (by simp) _).setCell (by simp) _).setCell (by simp) _).setCell (by simp) _⟩
end Go.Proofs.Ytkkadfjcnocopaa
