/- Tallies in their cells; what find and Check of package heavy tell. Conditions: rows lie in their cells; a tally is as the document wants it. -/
import Derived.Test.YtnppgocedokioaaHeavyMrg
import Derived.Test.YtnppgocedokioaaInsH
import Derived.Test.YtnppgocedokioaaOpenS
namespace Go.Proofs.Ytnppgocedokioaa
open Go.RowKit

theorem one_alloc (w : World) (o : Obj) : Below w.heap.size w (w.alloc o) := (Below.refl _ _).alloc (Nat.le_refl _) _
theorem two_allocs (w : World) (o p : Obj) : Below w.heap.size w ((w.alloc o).alloc p) := ((Below.refl _ _).alloc (Nat.le_refl _) _).alloc (by simp) _
theorem toList_eq' {a b : ByteArray} (h : a.toList = b.toList) : a = b := bytes_ext h
def cnC (c : Cn) : List Value := [.string c.k, .int .i64 c.n]
def cnCs (l : List Cn) : List Value := l.flatMap cnC
theorem cnCs_len (l : List Cn) : (cnCs l).length = l.length * 2 := flat_len (f := cnC) (C := 2) (fun _ => rfl) l
theorem cnCs_0 {l : List Cn} {k : Nat} (h : k < l.length) : (cnCs l)[k * 2]? = some (.string (at_ l k).k) := flat_at (f := cnC) (C := 2) (fun _ => rfl) h (r := 0) (by decide)
theorem cnCs_1 {l : List Cn} {k : Nat} (h : k < l.length) : (cnCs l)[k * 2 + 1]? = some (.int .i64 (at_ l k).n) := flat_at (f := cnC) (C := 2) (fun _ => rfl) h (r := 1) (by decide)
theorem cnCs_one (l : List Cn) : ∀ u ∈ cnCs l, u.oneCell' = true := by
  intro u hu
  simp only [cnCs, List.mem_flatMap] at hu
  obtain ⟨b, _, hb⟩ := hu
  simp [cnC] at hb
  rcases hb with rfl | rfl <;> rfl
theorem cnCs_app (l m : List Cn) : cnCs (l ++ m) = cnCs l ++ cnCs m := by simp [cnCs]
theorem cnCs_take (l : List Cn) : ∀ i, (cnCs l).take (i * 2) = cnCs (l.take i) := by
  induction l with
  | nil => intro i; simp [cnCs]
  | cons c l ih =>
    intro i
    cases i with
    | zero => rfl
    | succ i =>
      rw [show (i + 1) * 2 = i * 2 + 1 + 1 from by omega]
      show (Value.string c.k :: Value.int .i64 c.n :: cnCs l).take (i * 2 + 1 + 1) = Value.string c.k :: Value.int .i64 c.n :: cnCs (l.take i)
      rw [List.take_succ_cons, List.take_succ_cons, ih]
theorem cnCs_drop (l : List Cn) : ∀ i, (cnCs l).drop (i * 2) = cnCs (l.drop i) := by
  induction l with
  | nil => intro i; simp [cnCs]
  | cons c l ih =>
    intro i
    cases i with
    | zero => rfl
    | succ i =>
      rw [show (i + 1) * 2 = i * 2 + 1 + 1 from by omega]
      show (Value.string c.k :: Value.int .i64 c.n :: cnCs l).drop (i * 2 + 1 + 1) = cnCs (l.drop i)
      rw [List.drop_succ_cons, List.drop_succ_cons, ih]
theorem cnCs_set1 (l : List Cn) (k : Nat) (x : Int) : (cnCs l).set (k * 2 + 1) (.int .i64 x) = cnCs (l.set k ⟨(at_ l k).k, x⟩) := by
  induction l generalizing k with
  | nil => rfl
  | cons c l ih =>
    cases k with
    | zero => rfl
    | succ k =>
      rw [List.set_cons_succ, show (k + 1) * 2 + 1 = k * 2 + 1 + 1 + 1 from by omega]
      show (Value.string c.k :: Value.int .i64 c.n :: cnCs l).set (k * 2 + 1 + 1 + 1) _ = Value.string c.k :: Value.int .i64 c.n :: cnCs (l.set k ⟨(at_ l k).k, x⟩)
      rw [List.set_cons_succ, List.set_cons_succ, ih]
theorem Has.cnAt {w : World} {B : Nat} {A : Option Addr} {L : List Cn} (h : Has w B A (cnCs L)) {j : Nat} (hj : j < L.length) : ∃ ad, A = some ad ∧ ad.block < B ∧
    w.cell? (ad.add (j * 2)) = some (.string (at_ L j).k) ∧ w.cell? ⟨(ad.add (j * 2)).block, (ad.add (j * 2)).off + 1, none⟩ = some (.int .i64 (at_ L j).n) := by
  obtain ⟨ad, rfl, had, c0⟩ := h.at (cnCs_0 hj)
  obtain ⟨ad', e, _, c1⟩ := h.at (cnCs_1 hj)
  injection e with e
  subst e
  exact ⟨_, rfl, had, c0, cell_off c1 (by decide)⟩

def cmpS (a b : ByteArray) : Int := if nlt a b then -1 else if nlt b a then 1 else 0
set_option maxRecDepth 1000000 in
theorem isNaNS_any (x : ByteArray) (w : World) : Calls Try.prog 78 #[.string x] w (R1 (.bool false) (fun w' => w' = w)) := by
  have e : (x.toList == x.toList) = true := by simp
  go_enter Try.func78, Try.ntmps78
  go_wp2_with fail
  go_ret
  exact R1.mk (by simp) rfl
set_option maxRecDepth 1000000 in
set_option maxHeartbeats 1000000 in
theorem compareS_any (x y : ByteArray) (w : World) : Calls Try.prog 53 #[.string x, .string y] w (R1 (.int .i64 (cmpS x y)) (fun w' => w' = w)) := by
  by_cases h : nlt x y
  · have e := Lib.hid (show cmpS x y = -1 by unfold cmpS; rw [if_pos h])
    have o1 : Op.bytesLess x.toList y.toList = true := by rw [nlt_bytes, decide_eq_true h]
    clear h
    go_enter Try.func53, Try.ntmps53
    go_wp2_with fail
    refine (isNaNS_any _ _).mono ?_
    rintro e1 w1 ⟨rfl, rfl⟩
    go_wp2_with fail
    refine (isNaNS_any _ _).mono ?_
    rintro e1 w2 ⟨rfl, rfl⟩
    go_wp2_with fail
    go_ret
    exact R1.mk (int_eq e.out.symm) rfl
  · have o1 : Op.bytesLess x.toList y.toList = false := by rw [nlt_bytes, decide_eq_false h]
    by_cases h' : nlt y x
    · have e := Lib.hid (show cmpS x y = 1 by unfold cmpS; rw [if_neg h, if_pos h'])
      have o2 : (x.toList == y.toList) = false := by rw [beq_eq_false_iff_ne]; exact fun e => nlt_ne h' (toList_eq' e).symm
      clear h h'
      go_enter Try.func53, Try.ntmps53
      go_wp2_with fail
      refine (isNaNS_any _ _).mono ?_
      rintro e1 w1 ⟨rfl, rfl⟩
      go_wp2_with fail
      refine (isNaNS_any _ _).mono ?_
      rintro e1 w2 ⟨rfl, rfl⟩
      go_wp2_with fail
      go_ret
      exact R1.mk (int_eq e.out.symm) rfl
    · have e := Lib.hid (show cmpS x y = 0 by unfold cmpS; rw [if_neg h, if_neg h'])
      have o2 : (x.toList == y.toList) = true := by rw [nlt_tri h h', beq_self_eq_true]
      clear h h'
      go_enter Try.func53, Try.ntmps53
      go_wp2_with fail
      refine (isNaNS_any _ _).mono ?_
      rintro e1 w1 ⟨rfl, rfl⟩
      go_wp2_with fail
      refine (isNaNS_any _ _).mono ?_
      rintro e1 w2 ⟨rfl, rfl⟩
      go_wp2_with fail
      go_ret
      exact R1.mk (int_eq e.out.symm) rfl
theorem cmpS_neg {a b : ByteArray} : (cmpS a b < 0) ↔ nlt a b := by
  unfold cmpS
  split
  · rename_i h; exact ⟨fun _ => h, fun _ => by decide⟩
  · rename_i h; split <;> exact ⟨fun g => by omega, fun g => absurd g h⟩
theorem cmpS_zero {a b : ByteArray} : (cmpS a b = 0) ↔ a = b := by
  unfold cmpS
  split
  · rename_i h; exact ⟨fun g => by omega, fun g => absurd g (nlt_ne h)⟩
  · rename_i h
    split
    · rename_i h'; exact ⟨fun g => by omega, fun g => absurd g.symm (nlt_ne h')⟩
    · rename_i h'; exact ⟨fun _ => nlt_tri h h', fun _ => rfl⟩
set_option maxRecDepth 1000000 in
theorem find1_any (x : ByteArray) (n : Int) (key : ByteArray) (w : World) : Calls Try.prog 52 #[.agg #[.string x, .int .i64 n], .string key] w (R1 (.int .i64 (cmpS x key)) (Below w.heap.size w)) := by
  have kb : Blk (w.alloc (.cells #[.string x, .int .i64 n] 72)) w.heap.size 72 #[.string x, .int .i64 n] := Blk.new _ _ _
  go_enter Try.func52, Try.ntmps52
  go_wp2_with fail
  refine (compareS_any _ _ _).mono ?_
  rintro e1 w1 ⟨rfl, hw⟩
  rw [hw]
  go_wp2_with fail
  go_ret
  exact R1.mk rfl (one_alloc _ _)

def PlaceH (l : List Cn) (x : ByteArray) (i : Nat) : Prop := i ≤ l.length ∧ (∀ j, j < i → nlt (at_ l j).k x) ∧ (i < l.length → ¬ nlt (at_ l i).k x)
theorem at_RiseH {l : List Cn} (h : RiseH l) {i j : Nat} (hij : i < j) (hj : j < l.length) : nlt (at_ l i).k (at_ l j).k := by
  rw [at_eq hj, at_eq (Nat.lt_trans hij hj)]
  exact List.pairwise_iff_getElem.1 h i j _ hj hij
theorem PlaceH.mem {l : List Cn} (hu : RiseH l) {x : ByteArray} {i : Nat} (h : PlaceH l x i) : hasH l x ↔ i < l.length ∧ (at_ l i).k = x := by
  obtain ⟨h1, h2, h3⟩ := h
  constructor
  · rintro ⟨c, hc, rfl⟩
    obtain ⟨q, hq, rfl⟩ := List.getElem_of_mem hc
    rw [← at_eq hq] at h2 h3 ⊢
    rcases Nat.lt_trichotomy q i with g | g | g
    · exact absurd (h2 q g) (nlt_irrefl _)
    · subst g; exact ⟨hq, rfl⟩
    · exact absurd (at_RiseH hu g hq) (h3 (by omega))
  · rintro ⟨g1, rfl⟩; exact ⟨_, at_mem g1, rfl⟩

set_option maxRecDepth 1000000 in
set_option maxHeartbeats 4000000 in
theorem binsH_any (A : Option Addr) (n c : Nat) (l : List Cn) (hn : l.length = n) (hl : n ≤ 2000) (hu : RiseH l) (x : ByteArray) (w : World) (h : Has w w.heap.size A (cnCs l)) :
    Calls Try.prog 51 #[.slice A n c, .string x, .func (.func 52) #[] #[]] w (RV fun v w' => (∃ i : Nat, v = .tuple #[.int .i64 i, .bool (decide (hasH l x))] ∧ PlaceH l x i) ∧ Below w.heap.size w w') := by
  have Hn := Lib.hid hn; clear hn
  have HU := Lib.hid hu; clear hu
  go_enter Try.func51, Try.ntmps51
  go_wp2_with fail
  go_loopw [9, 10] (fun a b wr => ∃ i j : Nat, i ≤ j ∧ j ≤ n ∧ a = .int .i64 (i : Nat) ∧ b = .int .i64 (j : Nat) ∧ Hid ((∀ q, q < i → nlt (at_ l q).k x) ∧ ∀ q, j ≤ q → q < n → ¬ nlt (at_ l q).k x) ∧ Below w.heap.size w wr) (fun a b _ => (intOf b).toNat - (intOf a).toNat)
  case atStart => exact ⟨0, n, by omega, by omega, rfl, rfl, Lib.hid ⟨fun q hq => by omega, fun q h1 h2 => by omega⟩, Below.refl _ _⟩
  case round =>
    obtain ⟨i, j, hij, hjn, rfl, rfl, hq, hbr⟩ := hrel
    by_cases hlt : (i : Int) < (j : Int)
    · obtain ⟨m, hm⟩ : ∃ m, (i + j) / 2 = m := ⟨_, rfl⟩
      have h1 : i ≤ m := by omega
      have h2 : m < j := by omega
      have e1 : Hid (((i : Int) + (j : Int)) / 2 = (m : Int)) := Lib.hid (by omega)
      have Hm := Lib.hid hm
      clear hm
      obtain ⟨ad, rfl, had, c0, c1⟩ := (h.next hbr).cnAt (show m < l.length by rw [Hn.out]; omega)
      obtain ⟨y, hy⟩ : ∃ y, at_ l m = y := ⟨_, rfl⟩
      rw [hy, ← Hm.out] at c0 c1
      have Hy := Lib.hid hy
      clear hy
      obtain ⟨yk, yn⟩ := y
      simp only [] at c0 c1
      obtain ⟨z, hz⟩ : ∃ z, cmpS yk x = z := ⟨_, rfl⟩
      have Hz := Lib.hid hz
      clear hz
      by_cases hyx : z < 0
      · go_wp2_with fail
        rw [e1.out]
        go_wp2_with fail
        refine (find1_any _ _ _ _).mono ?_
        rw [Hz.out]
        rintro e w1 ⟨rfl, hb1⟩
        go_wp2_with fail
        go_roundw
        case rel =>
          refine ⟨m + 1, j, by omega, hjn, by go_num, rfl, Lib.hid ⟨fun q hq2 => ?_, hq.out.2⟩, bnext hbr hb1⟩
          have hyk : nlt yk x := cmpS_neg.1 (by rw [Hz.out]; exact hyx)
          rcases Nat.lt_or_ge q m with g | g
          · have := at_RiseH HU.out g (show m < l.length by rw [Hn.out]; omega)
            rw [Hy.out] at this
            exact nlt_trans this hyk
          · rw [show q = m by omega, Hy.out]; exact hyk
        case measure => simp [intOf]; omega
      · go_wp2_with fail
        rw [e1.out]
        go_wp2_with fail
        refine (find1_any _ _ _ _).mono ?_
        rw [Hz.out]
        rintro e w1 ⟨rfl, hb1⟩
        go_wp2_with fail
        go_roundw
        case rel =>
          refine ⟨i, m, h1, by omega, rfl, rfl, Lib.hid ⟨hq.out.1, fun q h3 h4 => ?_⟩, bnext hbr hb1⟩
          have hyk : ¬ nlt yk x := fun g => by have := cmpS_neg.2 g; rw [Hz.out] at this; omega
          rcases Nat.lt_or_ge m q with g | g
          · have := at_RiseH HU.out g (show q < l.length by rw [Hn.out]; exact h4)
            rw [Hy.out] at this
            exact fun g2 => hyk (nlt_trans this g2)
          · rw [show q = m by omega, Hy.out]; exact hyk
        case measure => simp [intOf]; omega
    · have hij2 : j = i := by omega
      subst hij2
      have hp := Lib.hid (show PlaceH l x j from ⟨by rw [Hn.out]; exact hjn, hq.out.1, fun g => hq.out.2 j (Nat.le_refl _) (by rw [← Hn.out]; exact g)⟩)
      by_cases hjl : (j : Int) < (n : Int)
      · obtain ⟨ad, rfl, had, c0, c1⟩ := (h.next hbr).cnAt (show j < l.length by rw [Hn.out]; omega)
        obtain ⟨y, hy⟩ : ∃ y, at_ l j = y := ⟨_, rfl⟩
        rw [hy] at c0 c1
        have Hy := Lib.hid hy
        clear hy
        obtain ⟨yk, yn⟩ := y
        simp only [] at c0 c1
        obtain ⟨z, hz⟩ : ∃ z, cmpS yk x = z := ⟨_, rfl⟩
        have Hz := Lib.hid hz
        clear hz
        by_cases hyx : z = 0
        · have hm := Lib.hid (show decide (hasH l x) = true from decide_eq_true ((hp.out.mem HU.out).2 ⟨by rw [Hn.out]; omega, by rw [Hy.out]; exact cmpS_zero.1 (by rw [Hz.out]; exact hyx)⟩))
          subst hyx
          have hv := Lib.hid (show Value.tuple #[.int .i64 j, .bool true] = Value.tuple #[.int .i64 j, .bool (decide (hasH l x))] by rw [hm.out])
          clear hlt
          go_wp2_with ((refine (find1_any _ _ _ _).mono ?_; rw [Hz.out]; rintro e w1 ⟨rfl, hb1⟩))
          go_ret2
          exact RV.mk ⟨⟨j, hv.out, hp.out⟩, bnext hbr hb1⟩
        · have hm := Lib.hid (show decide (hasH l x) = false from decide_eq_false (fun g => hyx (by rw [← Hz.out]; have := ((hp.out.mem HU.out).1 g).2; rw [Hy.out] at this; exact cmpS_zero.2 this)))
          have hv := Lib.hid (show Value.tuple #[.int .i64 j, .bool false] = Value.tuple #[.int .i64 j, .bool (decide (hasH l x))] by rw [hm.out])
          have hyb : (z == 0) = false := by rw [beq_eq_false_iff_ne]; exact hyx
          clear hlt
          go_wp2_with ((refine (find1_any _ _ _ _).mono ?_; rw [Hz.out]; rintro e w1 ⟨rfl, hb1⟩))
          go_ret2
          exact RV.mk ⟨⟨j, hv.out, hp.out⟩, bnext hbr hb1⟩
      · have hm := Lib.hid (show decide (hasH l x) = false from decide_eq_false (fun g => by have := ((hp.out.mem HU.out).1 g).1; rw [Hn.out] at this; omega))
        have hv := Lib.hid (show Value.tuple #[.int .i64 j, .bool false] = Value.tuple #[.int .i64 j, .bool (decide (hasH l x))] by rw [hm.out])
        clear hlt
        go_wp2_with fail
        go_ret2
        exact RV.mk ⟨⟨j, hv.out, hp.out⟩, hbr⟩
set_option maxRecDepth 1000000 in
set_option maxHeartbeats 1000000 in
theorem findH_any (A : Option Addr) (n c : Nat) (l : List Cn) (hn : l.length = n) (hl : n ≤ 2000) (hu : RiseH l) (x : ByteArray) (w : World) (h : Has w w.heap.size A (cnCs l)) :
    Calls Try.prog 37 #[.slice A n c, .string x] w (RV fun v w' => (∃ i : Nat, v = .tuple #[.int .i64 i, .bool (decide (hasH l x))] ∧ PlaceH l x i) ∧ Below w.heap.size w w') := by
  have H := Lib.hid (fun (w : World) (h : Has w w.heap.size A (cnCs l)) => binsH_any A n c l hn hl hu x w h)
  clear hn hu
  go_enter Try.func37, Try.ntmps37
  go_wp2_with fail
  refine (H.out _ (by exact h)).mono ?_
  rintro e w1 ⟨v, rfl, ⟨i, rfl, hp⟩, hb1⟩
  obtain ⟨b, hb⟩ : ∃ b, decide (hasH l x) = b := ⟨_, rfl⟩
  rw [hb]
  have Hb := Lib.hid hb
  have Hp := Lib.hid hp
  have hv := Lib.hid (show Value.tuple #[.int .i64 i, .bool b] = Value.tuple #[.int .i64 i, .bool (decide (hasH l x))] by rw [Hb.out])
  clear hb hp
  go_wp2_with fail
  go_ret2
  exact RV.mk ⟨⟨i, hv.out, Hp.out⟩, hb1⟩
end Go.Proofs.Ytnppgocedokioaa
