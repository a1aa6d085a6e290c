/- Where a number falls among a ring's places. Conditions: the places lie in their cells, and rise. -/
import Derived.Test.YtmbpgenjjgepiaaRgPlc
namespace Go.Proofs.Ytmbpgenjjgepiaa
open Go.RowKit Go.Sort

theorem plcCs_0 {l : List Plc} {k : Nat} (h : k < l.length) : (plcCs l)[k * 2]? = some (.int .u64 (at_ l k).t) := flat_at (f := encP) (C := 2) (fun _ => rfl) h (r := 0) (by decide)
theorem plcCs_1 {l : List Plc} {k : Nat} (h : k < l.length) : (plcCs l)[k * 2 + 1]? = some (.string (at_ l k).nm) := flat_at (f := encP) (C := 2) (fun _ => rfl) h (r := 1) (by decide)
def sideP (x : Plc) (a : Nat) : Int := if x.t < a then -1 else 1
set_option maxRecDepth 1000000 in
set_option maxHeartbeats 4000000 in
theorem owners1_any (x : Plc) (a : Nat) (w : World) : Calls Try.prog 25 #[.agg #[.int .u64 (x.t : Nat), .string x.nm], .int .u64 (a : Nat)] w (R1 (.int .i64 (sideP x a)) (Below w.heap.size w)) := by
  have hb0 : Below w.heap.size w (w.alloc (.cells #[.int .u64 (x.t : Nat), .string x.nm] 57)) := one_alloc w _
  have ka : Blk (w.alloc (.cells #[.int .u64 (x.t : Nat), .string x.nm] 57)) w.heap.size 57 #[.int .u64 (x.t : Nat), .string x.nm] := Blk.new _ _ _
  have p0 := ka.cell 0
  have p1 := ka.cell 1
  by_cases h : (x.t : Int) < (a : Int)
  · have e := Lib.hid (show sideP x a = -1 by unfold sideP; rw [if_pos (by omega)])
    rw [e.out]
    go_enter Try.func25, Try.ntmps25
    go_wp2_with fail
    go_ret
    exact R1.mk rfl hb0
  · have e := Lib.hid (show sideP x a = 1 by unfold sideP; rw [if_neg (by omega)])
    rw [e.out]
    go_enter Try.func25, Try.ntmps25
    go_wp2_with fail
    go_ret
    exact R1.mk rfl hb0
/-- i is where a falls -/
def FallP (l : List Plc) (a i : Nat) : Prop := i ≤ l.length ∧ (∀ q, q < i → (at_ l q).t < a) ∧ ∀ q, i ≤ q → q < l.length → a ≤ (at_ l q).t
def UpP (l : List Plc) : Prop := ∀ q r, q < r → r < l.length → (at_ l q).t ≤ (at_ l r).t

set_option maxRecDepth 1000000 in
set_option maxHeartbeats 4000000 in
theorem bsfP_any (A : Option Addr) (n c : Nat) (l : List Plc) (hn : l.length = n) (hl : n ≤ 4000000000000000000) (hu : UpP l) (x : Nat) (w : World) (h : Has w w.heap.size A (plcCs l)) :
    Calls Try.prog 24 #[.slice A n c, .int .u64 (x : Nat), .func (.func 25) #[] #[]] w (RV fun v w' => (∃ (i : Nat) (b : Bool), v = .tuple #[.int .i64 i, .bool b] ∧ FallP l x i) ∧ Below w.heap.size w w') := by
  have Hn := Lib.hid hn; clear hn
  have HU := Lib.hid hu; clear hu
  have Hh := Lib.hid h; clear h
  go_enter Try.func24, Try.ntmps24
  go_wp2_with fail
  go_loopw [9, 10] (fun a b wr => ∃ i j : Nat, i ≤ j ∧ j ≤ n ∧ a = .int .i64 (i : Nat) ∧ b = .int .i64 (j : Nat) ∧ Hid ((∀ q, q < i → (at_ l q).t < x) ∧ ∀ q, j ≤ q → q < n → x ≤ (at_ l q).t) ∧ Below w.heap.size w wr) (fun a b _ => (intOf b).toNat - (intOf a).toNat)
  case atStart => exact ⟨0, n, by omega, by omega, rfl, rfl, Lib.hid ⟨fun q hq => by omega, fun q h1 h2 => by omega⟩, Below.refl _ _⟩
  case round =>
    obtain ⟨i, j, hij, hjn, rfl, rfl, hq, hbr⟩ := hrel
    have hbs := hbr.size
    by_cases hlt : (i : Int) < (j : Int)
    · obtain ⟨m, hm⟩ : ∃ m, (i + j) / 2 = m := ⟨_, rfl⟩
      have h1 : i ≤ m := by omega
      have h2 : m < j := by omega
      have e1 : Hid (((i : Int) + (j : Int)) / 2 = (m : Int)) := Lib.hid (by omega)
      have Hm := Lib.hid hm
      clear hm
      have hml : m < l.length := by rw [Hn.out]; omega
      obtain ⟨ad, rfl, had, c0⟩ := (Hh.out.next hbr).at (plcCs_0 hml)
      obtain ⟨ad', e', _, c1⟩ := (Hh.out.next hbr).at (plcCs_1 hml)
      injection e' with e'
      subst e'
      have c1 := cell_off c1 (by decide)
      obtain ⟨y, hy⟩ : ∃ y, at_ l m = y := ⟨_, rfl⟩
      rw [hy, ← Hm.out] at c0 c1
      have Hy := Lib.hid hy
      clear hy hml
      by_cases hyx : y.t < x
      · have E := Lib.hid (show sideP y x = -1 by unfold sideP; rw [if_pos hyx])
        go_wp2_with fail
        refine (owners1_any y x _).mono ?_
        rw [E.out]
        rintro e w1 ⟨rfl, hb1⟩
        go_wp2_with fail
        rw [e1.out]
        go_roundw
        case rel =>
          refine ⟨m + 1, j, by omega, hjn, by go_num, rfl, Lib.hid ⟨fun q hq2 => ?_, hq.out.2⟩, bnext hbr hb1⟩
          rcases Nat.lt_or_ge q m with g | g
          · have := HU.out q m g (by rw [Hn.out]; omega)
            rw [Hy.out] at this
            omega
          · rw [show q = m by omega, Hy.out]; exact hyx
        case measure => simp [intOf]; omega
      · have E := Lib.hid (show sideP y x = 1 by unfold sideP; rw [if_neg hyx])
        go_wp2_with fail
        refine (owners1_any y x _).mono ?_
        rw [E.out]
        rintro e w1 ⟨rfl, hb1⟩
        go_wp2_with fail
        rw [e1.out]
        go_roundw
        case rel =>
          refine ⟨i, m, h1, by omega, rfl, by go_num, Lib.hid ⟨hq.out.1, fun q h3 h4 => ?_⟩, bnext hbr hb1⟩
          rcases Nat.lt_or_ge m q with g | g
          · have := HU.out m q g (by rw [Hn.out]; exact h4)
            rw [Hy.out] at this
            omega
          · rw [show q = m by omega, Hy.out]; omega
        case measure => simp [intOf]; omega
    · have hij2 : j = i := by omega
      subst hij2
      have hp := Lib.hid (show FallP l x j from ⟨by rw [Hn.out]; exact hjn, hq.out.1, fun q h1 h2 => hq.out.2 q h1 (by rw [← Hn.out]; exact h2)⟩)
      by_cases hjl : (j : Int) < (n : Int)
      · have hml : j < l.length := by rw [Hn.out]; omega
        obtain ⟨ad, rfl, had, c0⟩ := (Hh.out.next hbr).at (plcCs_0 hml)
        obtain ⟨ad', e', _, c1⟩ := (Hh.out.next hbr).at (plcCs_1 hml)
        injection e' with e'
        subst e'
        have c1 := cell_off c1 (by decide)
        obtain ⟨y, hy⟩ : ∃ y, at_ l j = y := ⟨_, rfl⟩
        rw [hy] at c0 c1
        clear hy hml hlt
        obtain ⟨sd, hsd⟩ : ∃ sd, sideP y x = sd := ⟨_, rfl⟩
        have h0 : ((sd : Int) == 0) = false := by rw [← hsd]; unfold sideP; split <;> rfl
        have E := Lib.hid hsd
        clear hsd
        go_wp2_with ((refine (owners1_any y x _).mono ?_; rw [E.out]; rintro e w1 ⟨rfl, hb1⟩))
        go_ret2
        exact RV.mk ⟨⟨j, _, rfl, hp.out⟩, bnext hbr hb1⟩
      · clear hlt
        go_wp2_with fail
        go_ret2
        exact RV.mk ⟨⟨j, .inl rfl, hp.out⟩, hbr⟩
end Go.Proofs.Ytmbpgenjjgepiaa
