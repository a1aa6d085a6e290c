/- Texts of the proof of ExprOne, joined (by merge.py). Conditions: each theorem's own hypotheses. -/
import Derived.Test.YtnicbhmeigpjkaaGreatDoorExprOneP4
import Derived.Test.YtnicbhmeigpjkaaGreatDoorExprOneP10
import Derived.Test.YtnicbhmeigpjkaaGreatDoorExprOneP19
import Derived.Deep.RegionHeldLaw
namespace Go.Proofs.YtnicbhmeigpjkaaGreatDoor
open Go.RowKit

theorem labCs_takeX (L : List Lab) (k : Nat) : (labCs L).take (k * 2) = labCs (L.take k) := by
  induction L generalizing k with
  | nil => simp [labCs]
  | cons x L ih =>
    cases k with
    | zero => simp [labCs]
    | succ k =>
      rw [List.take_succ_cons, show labCs (x :: L) = labC x ++ labCs L from rfl, show labCs (x :: L.take k) = labC x ++ labCs (L.take k) from rfl, ← ih, List.take_append]
      have : (labC x).length = 2 := rfl
      rw [this, show (k + 1) * 2 - 2 = k * 2 by omega, List.take_of_length_le (by rw [this]; omega)]
theorem labCs_setX (L : List Lab) (k : Nat) (x : Lab) : ((labCs L).set (k * 2) (.string x.nm)).set (k * 2 + 1) (.string x.v) = labCs (L.set k x) := by
  induction L generalizing k with
  | nil => rfl
  | cons y L ih =>
    cases k with
    | zero => rfl
    | succ k =>
      rw [List.set_cons_succ]
      show ((Value.string y.nm :: Value.string y.v :: labCs L).set ((k + 1) * 2) _).set ((k + 1) * 2 + 1) _ = Value.string y.nm :: Value.string y.v :: labCs (L.set k x)
      rw [← ih, show (k + 1) * 2 = k * 2 + 1 + 1 from by omega]
      rfl
theorem below_onlyX {g : Nat} {a w w' : World} (h : Only g a w) (hb : Below w.heap.size w w') : Only g a w' :=
  h.trans ⟨hb.os, hb.tape, hb.output, hb.size, fun k hk _ => hb.block k hk⟩
theorem run_clear_lab (w : World) (b o m c : Nat) (ty : TypeId) (h0 : ∀ j, j < m * 2 → (w.cell? ⟨b, o + j, none⟩).isSome = true) (f0 : ∀ j, w.frozen? ⟨b, o + j, none⟩ = false) :
    ∃ vs : List Value, (Builtin.clear_ #[34] ty #[.slice (some ⟨b, o, none⟩) m c]).run Tryz.prog w = .ok (.tuple #[]) (w.setCells b o vs) := by
  obtain ⟨vs, hvs⟩ : ∃ vs, (Builtin.zeroCells (Value.agg #[.string ⟨#[]⟩, .string ⟨#[]⟩]).cells m).toList = vs := ⟨_, rfl⟩
  have hl : vs.length = m * 2 := by rw [← hvs]; simp [Builtin.zeroCells, Value.cells]
  have h1 : ∀ v ∈ vs, v.oneCell' = true := by
    intro v hv
    rw [← hvs] at hv
    simp only [Builtin.zeroCells, Array.toList_map, List.mem_map] at hv
    obtain ⟨i, _, rfl⟩ := hv
    rcases (show i % 2 = 0 ∨ i % 2 = 1 by omega) with h | h <;> simp [Value.cells, h] <;> rfl
  have hst := run_storeCells_cells (P := Tryz.prog) b o vs 0 w (by intro j hj; simpa using h0 j (by omega)) (by intro j _; simp [f0]) h1
  simp only [Nat.add_zero] at hst
  cases m with
  | zero =>
    have hn : vs = [] := List.length_eq_zero_iff.1 (by omega)
    subst hn
    exact ⟨[], by simp [Builtin.clear_, run_underlying Tryz.underlying34, World.setCells]⟩
  | succ m => exact ⟨vs, by simp [Builtin.clear_, run_underlying Tryz.underlying34, hvs, hst]⟩
/-- where the first one stands -/
def IdxPX (l : List Lab) (p : Lab → Bool) (v : Value) : Prop :=
  (∃ i : Nat, v = .int .i64 (i : Nat) ∧ i < l.length ∧ p (at_ l i) = true ∧ ∀ q, q < i → p (at_ l q) = false) ∨ (v = .int .i64 (-1) ∧ ∀ q, q < l.length → p (at_ l q) = false)
set_option maxRecDepth 1000000 in
set_option maxHeartbeats 4000000 in
theorem idxFX_any (l : List Lab) (n : Nat) (hl : l.length = n) (A : Option Addr) (c : Nat) (p : Lab → Bool) (xa : Addr) (hn : n ≤ maxLen) (w : World) (h : Has w w.heap.size A (labCs l))
    (HF : Hid (∀ W x, x ∈ l → Below w.heap.size w W → Calls Tryz.prog 77 #[.agg #[.string x.nm, .string x.v], .pointer (some xa)] W (R1 (.bool (p x)) (Below W.heap.size W)))) :
    Calls Tryz.prog 101 #[.slice A n c, .func (.func 77) #[] #[.pointer (some xa)]] w (RV fun v w' => IdxPX l p v ∧ Below w.heap.size w w') := by
  unfold maxLen at hn
  have Hl := Lib.hid hl
  have Hh := Lib.hid h
  clear hl h
  go_enter Tryz.func101, Tryz.ntmps101
  go_wp2_with fail
  go_loopw [8] (fun iv wr => ∃ k : Nat, k ≤ n ∧ iv = .int .i64 (k : Nat) ∧ Hid (∀ q, q < k → p (at_ l q) = false) ∧ Below w.heap.size w wr) (fun iv _ => n + 5 - (intOf iv).toNat)
  case atStart => exact ⟨0, by omega, rfl, Lib.hid (fun q hq => by omega), Below.refl _ _⟩
  case round =>
    obtain ⟨k, hk, rfl, hq, hbr⟩ := hrel
    by_cases hlt : (k : Int) < (n : Int)
    · have hkL : k < l.length := by rw [Hl.out]; omega
      obtain ⟨ad, rfl, _, c0⟩ := (Hh.out.next hbr).at (labCs_0 hkL)
      obtain ⟨ad', e', _, c1⟩ := (Hh.out.next hbr).at (labCs_1 hkL)
      injection e' with e'
      subst e'
      have c1 := cell_off c1 (by decide)
      have hm := at_mem hkL
      obtain ⟨x, hx⟩ : ∃ x, at_ l k = x := ⟨_, rfl⟩
      rw [hx] at c0 c1 hm
      have Hx := Lib.hid hx
      have h0k : (0 : Int) ≤ (k : Int) := by omega
      have HC := Lib.hid (HF.out wr x hm hbr)
      have hbs := hbr.size
      clear hx hm
      obtain ⟨b, hb⟩ : ∃ b, p x = b := ⟨_, rfl⟩
      rw [hb] at HC
      have Hb := Lib.hid hb
      clear hb
      go_wp2_with fail
      refine HC.out.mono ?_
      rintro e9 w2 ⟨rfl, hb2⟩
      have hb02 := hbr.trans (hb2.mono hbs)
      cases b
      · go_wp2_with fail
        go_roundw
        case rel => exact ⟨k + 1, by omega, by go_num, Lib.hid (fun q hq2 => by
          rcases Nat.lt_or_ge q k with g | g
          · exact hq.out q g
          · obtain rfl : q = k := by omega
            rw [Hx.out]; exact Hb.out), hb02⟩
        case measure => simp [intOf]; omega
      · have HP := Lib.hid (show IdxPX l p (.int .i64 (k : Nat)) from .inl ⟨k, rfl, hkL, by rw [Hx.out]; exact Hb.out, hq.out⟩)
        go_wp2_with fail
        go_ret
        exact RV.mk ⟨HP.out, hb02⟩
    · obtain rfl : k = n := by omega
      have HP := Lib.hid (show IdxPX l p (.int .i64 (-1)) from .inr ⟨rfl, fun q hq2 => hq.out q (by rw [← Hl.out]; exact hq2)⟩)
      go_wp2_with fail
      go_ret
      exact RV.mk ⟨HP.out, hbr⟩
/-- what DeleteFunc leaves -/
def DelPX (r : List Lab) (base : Nat) (v0 : Value) (w : World) (v : Value) (w' : World) : Prop :=
  ∃ A n c, v = .slice A n c ∧ r.length = n ∧ w'.ownsRow base 78 2 (.slice A n c) n (labCs r) ∧ Below base w w' ∧ w.grownBy w' v0.ownBlock
theorem filter_noneX {l : List Lab} {p : Lab → Bool} (h : ∀ q, q < l.length → p (at_ l q) = false) : l.filter (fun x => !p x) = l := by
  rw [List.filter_eq_self]
  intro x hx
  obtain ⟨j, hj, rfl⟩ := List.mem_iff_getElem.1 hx
  rw [← at_eq hj, h j hj]; rfl
theorem take_atX {l : List Lab} {i : Nat} (hi : i < l.length) : l.take (i + 1) = l.take i ++ [at_ l i] := by
  rw [List.take_add_one, List.getElem?_eq_getElem hi, at_eq hi]; rfl
theorem filter_takeX {l : List Lab} {p : Lab → Bool} {i : Nat} (hi : i < l.length) (h1 : p (at_ l i) = true) (h : ∀ q, q < i → p (at_ l q) = false) : (l.take (i + 1)).filter (fun x => !p x) = l.take i := by
  rw [take_atX hi, List.filter_append]
  have e1 : [at_ l i].filter (fun x => !p x) = [] := by simp [h1]
  have e2 : (l.take i).filter (fun x => !p x) = l.take i := by
    refine filter_noneX (fun q hq => ?_)
    rw [List.length_take] at hq
    have hq1 : q < i := by omega
    have : at_ (l.take i) q = at_ l q := by
      rw [at_eq (by rw [List.length_take]; omega), at_eq (by omega), List.getElem_take]
    rw [this]; exact h q hq1
  rw [e1, e2, List.append_nil]
theorem filter_take1X (l : List Lab) (p : Lab → Bool) {j : Nat} (hj : j < l.length) : (l.take (j + 1)).filter (fun x => !p x) = (l.take j).filter (fun x => !p x) ++ if p (at_ l j) = true then [] else [at_ l j] := by
  rw [take_atX hj, List.filter_append]
  congr 1
  cases h : p (at_ l j) <;> simp [h]
set_option maxRecDepth 1000000 in
set_option maxHeartbeats 4000000 in
theorem delFX_any (l : List Lab) (n : Nat) (hl : l.length = n) (base : Nat) (A : Option Addr) (c : Nat) (p : Lab → Bool) (xa : Addr) (hn : n ≤ 1000000) (w : World) (hown : w.ownsRow base 78 2 (.slice A n c) n (labCs l)) (hbase : base ≤ w.heap.size)
    (HF : Hid (∀ W x, x ∈ l → w.grownBy W (Value.slice A n c).ownBlock → Calls Tryz.prog 77 #[.agg #[.string x.nm, .string x.v], .pointer (some xa)] W (R1 (.bool (p x)) (Below W.heap.size W)))) :
    Calls Tryz.prog 75 #[.slice A n c, .func (.func 77) #[] #[.pointer (some xa)]] w (RV (DelPX (l.filter fun x => !p x) base (.slice A n c) w)) := by
  have hI := idxFX_any l n hl A c p xa (by unfold maxLen; omega) w (Has.of_own hown) (Lib.hid (fun W x hx hb => HF.out W x hx ⟨hb.os, hb.tape, hb.output, hb.size, fun k hk _ => hb.block k hk⟩))
  have HI := Lib.hid hI
  have Hl := Lib.hid hl
  have Hown := Lib.hid hown
  clear hI hl hown
  go_enter Tryz.func75, Tryz.ntmps75
  go_wp2_with fail
  refine HI.out.mono ?_
  rintro e w1 ⟨v, rfl, hP, hb1⟩
  rcases hP with ⟨i0, rfl, hi0, hp0, hq0⟩ | ⟨rfl, hq⟩
  · have hn0 : 0 < n := by rw [← Hl.out]; omega
    obtain ⟨g, cap, ev, hg, hgs⟩ := Hown.out.form hn0
    injection ev with e1 _ e3
    subst e1 e3
    obtain ⟨hnc, hcm⟩ := own_len Hown.out
    have hi0n : i0 < n := by rw [← Hl.out]; exact hi0
    have hft := Lib.hid (filter_takeX hi0 hp0 hq0)
    have hO1 : Only g w w1 := ⟨hb1.os, hb1.tape, hb1.output, hb1.size, fun k hk _ => hb1.block k hk⟩
    have Hown1 := Lib.hid (own_next Hown.out hb1)
    have hne : ((i0 : Int) == -1) = false := by rw [beq_eq_false_iff_ne]; omega
    clear hi0 hp0 hq0 hb1 HI
    go_wp2_with fail
    go_loopw [5, 6] (fun iv jv wr => ∃ (i j : Nat) (X : List Lab), iv = .int .i64 (i : Nat) ∧ jv = .int .i64 (j : Nat) ∧ i < j ∧ j ≤ n ∧ Hid (X.length = n) ∧ Hid (X.take i = (l.take j).filter (fun x => !p x)) ∧ Hid (X.drop j = l.drop j) ∧ Hid (wr.ownsRow base 78 2 (.slice (some ⟨g, 0, none⟩) n c) n (labCs X)) ∧ Only g w wr) (fun _ jv _ => n + 5 - (intOf jv).toNat)
    case atStart => exact ⟨i0, i0 + 1, l, by first | rfl | go_num, by go_num, by omega, by omega, Hl, Lib.hid hft.out.symm, Lib.hid rfl, Hown1, hO1⟩
    case round =>
      obtain ⟨i, j, X, rfl, rfl, hij, hjn, hX, hXi, hXj, hXo, hOr⟩ := hrel
      have hsz := hOr.size
      by_cases hlt : (j : Int) < (n : Int)
      · have hjl : j < l.length := by rw [Hl.out]; omega
        have hjX : j < X.length := by rw [hX.out]; omega
        have hiX : i < X.length := by rw [hX.out]; omega
        have hat : at_ X j = at_ l j := by
          have h3 := congrArg (fun l : List Lab => l[0]?) hXj.out
          simp only [List.getElem?_drop, Nat.add_zero] at h3
          rw [at_eq hjl, at_eq hjX]
          rw [List.getElem?_eq_getElem hjl, List.getElem?_eq_getElem hjX] at h3
          exact Option.some.inj h3
        obtain ⟨ad, e1, _, c0⟩ := (Has.of_own hXo.out).at (labCs_0 hjX)
        injection e1 with e1
        subst e1
        obtain ⟨ad, e1, _, c1⟩ := (Has.of_own hXo.out).at (labCs_1 hjX)
        injection e1 with e1
        subst e1
        have hadd : (⟨g, 0, none⟩ : Addr).add (j * 2) = ⟨g, j * 2, none⟩ := by unfold Addr.add; split <;> simp_all <;> omega
        have hadd1 : (⟨g, 0, none⟩ : Addr).add (j * 2 + 1) = ⟨g, j * 2 + 1, none⟩ := by unfold Addr.add; split <;> simp_all
        rw [hadd, hat] at c0
        rw [hadd1, hat] at c1
        have hm := at_mem hjl
        have hft1 := filter_take1X l p hjl
        have hdr := Lib.hid (show X.drop (j + 1) = l.drop (j + 1) by
          have h3 := congrArg (fun l : List Lab => l.drop 1) hXj.out
          simp only [List.drop_drop] at h3
          exact h3)
        obtain ⟨x, hx⟩ : ∃ x, at_ l j = x := ⟨_, rfl⟩
        rw [hx] at c0 c1 hm hft1
        have HC := Lib.hid (HF.out (wr.alloc (.cells #[.string x.nm, .string x.v] 78)) x hm (hOr.trans ⟨rfl, rfl, rfl, by simp, fun k hk _ => (one_allocB wr _).block k hk⟩))
        have hXa := own_next hXo.out (one_allocB wr (.cells #[.string x.nm, .string x.v] 78))
        have hOa := below_onlyX hOr (one_allocB wr (.cells #[.string x.nm, .string x.v] 78))
        have kx := Blk.new wr 78 #[.string x.nm, .string x.v]
        obtain ⟨b, hb⟩ : ∃ b, p x = b := ⟨_, rfl⟩
        rw [hb] at HC hft1
        have h0j : (0 : Int) ≤ (j : Int) := by omega
        have h0i : (0 : Int) ≤ (i : Int) := by omega
        have hin : (i : Int) < (n : Int) := by omega
        have Hft1 := Lib.hid hft1
        clear hb hx hm hat hadd hadd1 hft1 hjX hjl
        go_wp2_with fail
        refine HC.out.mono ?_
        rintro e9 w2 ⟨rfl, hb2⟩
        have hO2 := below_onlyX hOa hb2
        have hX2 := own_next hXa hb2
        have kx2 := kx.next hb2
        have x0 : w2.cell? ⟨wr.heap.size, 0, none⟩ = some (.string x.nm) := kx2.cell 0
        have x1 : w2.cell? ⟨wr.heap.size, 1, none⟩ = some (.string x.v) := kx2.cell 1
        cases b
        · obtain ⟨⟨u0, r0⟩, r1⟩ := own_room hX2 (k := i * 2) (by omega)
          obtain ⟨⟨u2, r2⟩, r3⟩ := own_room hX2 (k := i * 2 + 1) (by omega)
          obtain ⟨s1, _⟩ := hX2.stored (i * 2) (.string x.nm)
          obtain ⟨s2, _⟩ := s1.stored (i * 2 + 1) (.string x.v)
          rw [labCs_setX] at s2
          have hXi2 := Lib.hid (show (X.set i x).take (i + 1) = (l.take (j + 1)).filter (fun x => !p x) by
            rw [Hft1.out, ← hXi.out, List.take_succ_eq_append_getElem (by rw [List.length_set]; exact hiX), List.getElem_set_self, List.take_set_of_le (Nat.le_refl _)]; rfl)
          have hdr2 := Lib.hid (show (X.set i x).drop (j + 1) = l.drop (j + 1) by rw [List.drop_set_of_lt (by omega)]; exact hdr.out)
          have hXl2 := Lib.hid (show (X.set i x).length = n by rw [List.length_set]; exact hX.out)
          have HS := Lib.hid s2
          have hO3 := (hO2.set (i * 2) (.string x.nm)).set (i * 2 + 1) (.string x.v)
          clear s1 s2 hX2 c0 c1
          go_wp2_with fail
          go_roundw
          case rel => exact ⟨i + 1, j + 1, X.set i x, by go_num, by go_num, by omega, by omega, hXl2, hXi2, hdr2, HS, hO3⟩
          case measure => simp [intOf]; omega
        · have hXi2 := Lib.hid (show X.take i = (l.take (j + 1)).filter (fun x => !p x) by
            rw [Hft1.out, ← hXi.out, if_pos rfl, List.append_nil])
          have HX2 := Lib.hid hX2
          clear hX2 c0 c1
          go_wp2_with fail
          go_roundw
          case rel => exact ⟨i, j + 1, X, rfl, by go_num, by omega, by omega, hX, hXi2, hdr, HX2, hO2⟩
          case measure => simp [intOf]; omega
      · obtain rfl : j = n := by omega
        have hin : i < j := hij
        have hck2 : ¬ c = i := by omega
        have hic : (i : Int) ≤ (c : Int) := by omega
        have hin' : (i : Int) ≤ (j : Int) := by omega
        obtain ⟨m2, hm2⟩ : ∃ m2, j - i = m2 := ⟨_, rfl⟩
        obtain ⟨vs, hcl⟩ := run_clear_lab wr g (i * 2) m2 (c - i) 0 (fun q hq => by
          obtain ⟨⟨u, hu⟩, _⟩ := own_room hXo.out (k := i * 2 + q) (by omega)
          rw [hu]; rfl) (fun q => hXo.out.frozenAt _)
        have hof := own_front hXo.out (k := i) (by omega)
        rw [labCs_takeX, hXi.out, List.take_of_length_le (l := l) (by rw [Hl.out]; exact Nat.le_refl _)] at hof
        have hrl : (l.filter fun x => !p x).length = i := by
          have := congrArg List.length hXi.out
          rw [List.length_take, hX.out, List.take_of_length_le (by rw [Hl.out]; exact Nat.le_refl _)] at this
          omega
        have hF := Lib.hid (show DelPX (l.filter fun x => !p x) base (.slice (some ⟨g, 0, none⟩) j c) w (.slice (some ⟨g, 0, none⟩) i c) (wr.setCells g (i * 2) vs) from
          ⟨_, i, c, rfl, hrl, own_behinds vs (i * 2) _ hof (by omega), (only_setCells vs (i * 2) _ hOr).below hbase hg, only_setCells vs (i * 2) _ hOr⟩)
        clear hof hXo hrl
        go_wp2_with fail
        go_ret
        exact RV.mk hF.out
  · have hF := Lib.hid (show DelPX (l.filter fun x => !p x) base (.slice A n c) w (.slice A n c) w1 from
      ⟨A, n, c, rfl, by rw [filter_noneX hq]; exact Hl.out, by rw [filter_noneX hq]; exact own_next Hown.out hb1, hb1.mono hbase, hb1.os, hb1.tape, hb1.output, hb1.size, fun k hk _ => hb1.block k hk⟩)
    clear hq
    go_wp2_with fail
    go_ret
    exact RV.mk hF.out
end Go.Proofs.YtnicbhmeigpjkaaGreatDoor
namespace Go.Proofs.YtnicbhmeigpjkaaGreatDoor
open Go.RowKit

theorem hasS_inB (b : List ByteArray) (s : ByteArray) : hasS s b = inB b s := by
  unfold hasS inB
  congr 1
  funext y
  rw [decide_eq_decide]
  exact ⟨Eq.symm, Eq.symm⟩
set_option maxRecDepth 100000 in
theorem group1_any (qx : Nat) (ba : Option Addr) (bn bc : Nat) (b : List ByteArray) (hn : b.length = bn) (hl : bn ≤ maxLen) (hbc : bn ≤ bc ∧ bc ≤ maxLen) (x : Lab) (w : World) (hx : w.cell? ⟨qx, 4, none⟩ = some (.slice ba bn bc)) (hB : Has w w.heap.size ba (strCs b)) :
    Calls Tryz.prog 77 #[.agg #[.string x.nm, .string x.v], .pointer (some ⟨qx, 0, none⟩)] w (R1 (.bool (!inB b x.nm)) (Below w.heap.size w)) := by
  obtain ⟨W0, hW0⟩ : ∃ W0, w.alloc (.cells #[.string x.nm, .string x.v] 78) = W0 := ⟨_, rfl⟩
  obtain ⟨q, hq⟩ : ∃ q, w.heap.size = q := ⟨_, rfl⟩
  have hb0 : Below w.heap.size w W0 := by rw [← hW0]; exact one_allocB _ _
  have kx : Blk W0 q 78 #[.string x.nm, .string x.v] := by rw [← hW0]; exact Blk.newM _ _ _ _ hq
  have y0 : W0.cell? ⟨q, 0, none⟩ = some (.string x.nm) := kx.cell 0
  have y4 : W0.cell? ⟨qx, 4, none⟩ = some (.slice ba bn bc) := (hb0.cell (World.block_lt_of_cell? w _ hx)).trans hx
  have hC := containsS_any ba bn bc b hn (by unfold maxLen at hl; omega) x.nm W0 (hB.next hb0)
  rw [hasS_inB] at hC
  obtain ⟨r, hr⟩ : ∃ r, inB b x.nm = r := ⟨_, rfl⟩
  rw [hr] at hC ⊢
  have hC := Lib.hid hC
  have HW0 := Lib.hid hW0
  have Hq := Lib.hid hq
  have hb0 := Lib.hid hb0
  obtain ⟨hbc1, hbc2⟩ := hbc
  unfold maxLen at hl
  clear hr hW0 hq kx hn hx hB
  go_enter Tryz.func77, Tryz.ntmps77
  go_upto_region 1 with fail
  rw [HW0.out, Hq.out]
  go_wp2_with fail
  refine hC.out.mono ?_
  rintro e w' ⟨rfl, rfl⟩
  cases r
  · go_wp2_with fail
    go_ret
    exact R1.mk rfl hb0.out
  · go_wp2_with fail
    go_ret
    exact R1.mk rfl hb0.out
theorem bytes_extX {a b : ByteArray} (h : a.toList = b.toList) : a = b := bytes_ext h
set_option maxRecDepth 100000 in
theorem group2_any (qz : Nat) (key : ByteArray) (o : ByteArray) (A : Option Addr) (n c : Nat) (v : Int) (hnc : n ≤ c ∧ c ≤ maxLen) (w : World) (hz : w.cell? ⟨qz, 0, none⟩ = some (.string key)) :
    Calls Tryz.prog 79 #[.agg #[.string o, .slice A n c, .int .i64 v], .pointer (some ⟨qz, 0, none⟩)] w (R1 (.bool (decide (o = key))) (Below w.heap.size w)) := by
  obtain ⟨W0, hW0⟩ : ∃ W0, w.alloc (.cells #[.string o, .slice A n c, .int .i64 v] 72) = W0 := ⟨_, rfl⟩
  obtain ⟨q, hq⟩ : ∃ q, w.heap.size = q := ⟨_, rfl⟩
  have hb0 : Below w.heap.size w W0 := by rw [← hW0]; exact one_allocB _ _
  have kx : Blk W0 q 72 #[.string o, .slice A n c, .int .i64 v] := by rw [← hW0]; exact Blk.newM _ _ _ _ hq
  have y0 : W0.cell? ⟨q, 0, none⟩ = some (.string o) := kx.cell 0
  have z0 : W0.cell? ⟨qz, 0, none⟩ = some (.string key) := (hb0.cell (World.block_lt_of_cell? w _ hz)).trans hz
  have hd : (o.toList == key.toList) = decide (o = key) := by
    by_cases h : o = key
    · subst h; rw [decide_eq_true rfl, beq_iff_eq]
    · rw [decide_eq_false h, beq_eq_false_iff_ne]; exact fun g => h (bytes_extX g)
  obtain ⟨r, hr⟩ : ∃ r, decide (o = key) = r := ⟨_, rfl⟩
  rw [hr] at hd ⊢
  have HW0 := Lib.hid hW0
  have Hq := Lib.hid hq
  have hb0 := Lib.hid hb0
  obtain ⟨hbc1, hbc2⟩ := hnc
  clear hr hW0 hq kx hz
  go_enter Tryz.func79, Tryz.ntmps79
  go_upto_region 1 with fail
  rw [HW0.out, Hq.out]
  cases r
  · go_wp2_with fail
    go_ret
    exact R1.mk rfl hb0.out
  · go_wp2_with fail
    go_ret
    exact R1.mk rfl hb0.out
def keyE (e : RowE) : ByteArray := txK e.r.1
/-- where the first row with a key stands -/
def IdxRP (l : List RowE) (key : ByteArray) (v : Value) : Prop :=
  (∃ i : Nat, v = .int .i64 (i : Nat) ∧ i < l.length ∧ keyE (at_ l i) = key ∧ ∀ q, q < i → keyE (at_ l q) ≠ key) ∨ (v = .int .i64 (-1) ∧ ∀ q, q < l.length → keyE (at_ l q) ≠ key)
set_option maxRecDepth 1000000 in
set_option maxHeartbeats 4000000 in
theorem idxR_any (l : List RowE) (n : Nat) (hl : l.length = n) (A : Option Addr) (c : Nat) (qz : Nat) (key : ByteArray) (hn : n ≤ maxLen) (w : World) (h : Has w w.heap.size A (rowCs l)) (hok : ∀ e ∈ l, e.r.1.length ≤ e.c ∧ e.c ≤ maxLen) (hz : w.cell? ⟨qz, 0, none⟩ = some (.string key)) :
    Calls Tryz.prog 78 #[.slice A n c, .func (.func 79) #[] #[.pointer (some ⟨qz, 0, none⟩)]] w (RV fun v w' => IdxRP l key v ∧ Below w.heap.size w w') := by
  unfold maxLen at hn
  have Hl := Lib.hid hl
  have Hh := Lib.hid h
  have hok := Lib.hid hok
  have hz := Lib.hid hz
  clear hl h
  go_enter Tryz.func78, Tryz.ntmps78
  go_wp2_with fail
  go_loopw [8] (fun iv wr => ∃ k : Nat, k ≤ n ∧ iv = .int .i64 (k : Nat) ∧ Hid (∀ q, q < k → keyE (at_ l q) ≠ key) ∧ Below w.heap.size w wr) (fun iv _ => n + 5 - (intOf iv).toNat)
  case atStart => exact ⟨0, by omega, rfl, Lib.hid (fun q hq => by omega), Below.refl _ _⟩
  case round =>
    obtain ⟨k, hk, rfl, hq, hbr⟩ := hrel
    by_cases hlt : (k : Int) < (n : Int)
    · have hkL : k < l.length := by rw [Hl.out]; omega
      obtain ⟨ad, had, _, c0, c1, c2⟩ := rowCs_cells (Hh.out.next hbr) hkL
      obtain ⟨o1, o2⟩ := hok.out _ (at_mem hkL)
      obtain ⟨x, hx⟩ : ∃ x, at_ l k = x := ⟨_, rfl⟩
      rw [hx] at c0 c1 c2 o1 o2
      have Hx := Lib.hid hx
      have h0k : (0 : Int) ≤ (k : Int) := by omega
      have HC := group2_any qz key (txK x.r.1) x.A x.r.1.length x.c x.r.2 ⟨o1, o2⟩ wr ((hbr.cell (World.block_lt_of_cell? w _ hz.out)).trans hz.out)
      have hbs := hbr.size
      subst had
      clear hx
      obtain ⟨b, hb⟩ : ∃ b, decide (txK x.r.1 = key) = b := ⟨_, rfl⟩
      rw [hb] at HC
      have Hb := Lib.hid hb
      have HC := Lib.hid HC
      clear hb
      go_wp2_with fail
      refine HC.out.mono ?_
      rintro e9 w2 ⟨rfl, hb2⟩
      have hb02 := hbr.trans (hb2.mono hbs)
      cases b
      · go_wp2_with fail
        go_roundw
        case rel => exact ⟨k + 1, by omega, by go_num, Lib.hid (fun q hq2 => by
          rcases Nat.lt_or_ge q k with g | g
          · exact hq.out q g
          · obtain rfl : q = k := by omega
            rw [Hx.out]; exact of_decide_eq_false Hb.out), hb02⟩
        case measure => simp [intOf]; omega
      · have HP := Lib.hid (show IdxRP l key (.int .i64 (k : Nat)) from .inl ⟨k, rfl, hkL, by rw [Hx.out]; exact of_decide_eq_true Hb.out, hq.out⟩)
        go_wp2_with fail
        go_ret
        exact RV.mk ⟨HP.out, hb02⟩
    · obtain rfl : k = n := by omega
      have HP := Lib.hid (show IdxRP l key (.int .i64 (-1)) from .inr ⟨rfl, fun q hq2 => hq.out q (by rw [← Hl.out]; exact hq2)⟩)
      go_wp2_with fail
      go_ret
      exact RV.mk ⟨HP.out, hbr⟩
end Go.Proofs.YtnicbhmeigpjkaaGreatDoor
