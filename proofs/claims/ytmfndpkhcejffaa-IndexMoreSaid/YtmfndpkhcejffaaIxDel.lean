/- slices.IndexFunc and slices.DeleteFunc over int, at the closure of Find. Conditions: the row lies in its cells, or is the call's own; what the closure tells of each number, in whatever world that leaves all else as it was. -/
import Derived.Test.YtmfndpkhcejffaaOwnC
import Derived.Test.YtmfndpkhcejffaaI64s
import Derived.Deep.RegionHeldLaw
namespace Go.Proofs.Ytmfndpkhcejffaa
open Go.RowKit

theorem i64s_get (l : List Int) {k : Nat} (h : k < l.length) : (i64s l)[k]? = some (.int .i64 (at_ l k)) := by
  simp [i64s, get?_at h, i64v]
theorem i64s_take (l : List Int) (k : Nat) : (i64s l).take (k * 1) = i64s (l.take k) := by rw [Nat.mul_one]; simp [i64s]
theorem i64s_set (l : List Int) (k : Nat) (x : Int) : (i64s l).set k (.int .i64 x) = i64s (l.set k x) := by simp [i64s, i64v, List.map_set]
theorem below_only {g : Nat} {a w w' : World} (h : Only g a w) (hb : Below w.heap.size w w') : Only g a w' :=
  h.trans ⟨hb.os, hb.tape, hb.output, hb.size, fun k hk _ => hb.block k hk⟩
theorem run_clear_int (w : World) (b o m c : Nat) (ty : TypeId) (h0 : ∀ j, j < m → (w.cell? ⟨b, o + j, none⟩).isSome = true) (f0 : ∀ j, w.frozen? ⟨b, o + j, none⟩ = false) :
    ∃ vs : List Value, (Builtin.clear_ #[31] ty #[.slice (some ⟨b, o, none⟩) m c]).run Try.prog w = .ok (.tuple #[]) (w.setCells b o vs) := by
  obtain ⟨vs, hvs⟩ : ∃ vs, (Builtin.zeroCells (Value.int .i64 0).cells m).toList = vs := ⟨_, rfl⟩
  have hl : vs.length = m := by rw [← hvs]; simp [Builtin.zeroCells, Value.cells]
  have h1 : ∀ v ∈ vs, v.oneCell' = true := by
    intro v hv
    rw [← hvs] at hv
    simp only [Builtin.zeroCells, Array.toList_map, List.mem_map] at hv
    obtain ⟨i, _, rfl⟩ := hv
    simp [Value.cells, Nat.mod_one]; rfl
  have hst := run_storeCells_cells (P := Try.prog) b o vs 0 w (by intro j hj; simpa using h0 j (by omega)) (by intro j _; simp [f0]) h1
  simp only [Nat.add_zero] at hst
  cases m with
  | zero =>
    have hn : vs = [] := List.length_eq_zero_iff.1 hl
    subst hn
    exact ⟨[], by simp [Builtin.clear_, run_underlying Try.underlying31, World.setCells]⟩
  | succ m => exact ⟨vs, by simp [Builtin.clear_, run_underlying Try.underlying31, hvs, hst]⟩
/-- where the first one stands -/
def IdxP (l : List Int) (p : Int → Bool) (v : Value) : Prop :=
  (∃ i : Nat, v = .int .i64 (i : Nat) ∧ i < l.length ∧ p (at_ l i) = true ∧ ∀ q, q < i → p (at_ l q) = false) ∨ (v = .int .i64 (-1) ∧ ∀ q, q < l.length → p (at_ l q) = false)
set_option maxRecDepth 1000000 in
set_option maxHeartbeats 4000000 in
theorem idxF_any (l : List Int) (n : Nat) (hl : l.length = n) (A : Option Addr) (c : Nat) (p : Int → Bool) (xa ya : Addr) (hn : n ≤ maxLen) (w : World) (h : Has w w.heap.size A (i64s l))
    (HF : Hid (∀ W x, x ∈ l → Below w.heap.size w W → Calls Try.prog 23 #[.int .i64 x, .pointer (some xa), .pointer (some ya)] W (R1 (.bool (p x)) (Below W.heap.size W)))) :
    Calls Try.prog 36 #[.slice A n c, .func (.func 23) #[] #[.pointer (some xa), .pointer (some ya)]] w (RV fun v w' => IdxP l p v ∧ Below w.heap.size w w') := by
  unfold maxLen at hn
  have Hl := Lib.hid hl
  have Hh := Lib.hid h
  clear hl h
  go_enter Try.func36, Try.ntmps36
  go_wp2_with fail
  go_loopw [8] (fun iv wr => ∃ k : Nat, k ≤ n ∧ iv = .int .i64 (k : Nat) ∧ Hid (∀ q, q < k → p (at_ l q) = false) ∧ Below w.heap.size w wr) (fun iv _ => n + 5 - (intOf iv).toNat)
  case atStart => exact ⟨0, by omega, rfl, Lib.hid (fun q hq => by omega), Below.refl _ _⟩
  case round =>
    obtain ⟨k, hk, rfl, hq, hbr⟩ := hrel
    by_cases hlt : (k : Int) < (n : Int)
    · have hkL : k < l.length := by rw [Hl.out]; omega
      obtain ⟨ad, rfl, _, c0⟩ := (Hh.out.next hbr).at (i64s_get l hkL)
      have hm := at_mem hkL
      obtain ⟨x, hx⟩ : ∃ x, at_ l k = x := ⟨_, rfl⟩
      rw [hx] at c0 hm
      have Hx := Lib.hid hx
      have h0k : (0 : Int) ≤ (k : Int) := by omega
      have HC := Lib.hid (HF.out wr x hm hbr)
      have hbs := hbr.size
      clear hx hm
      obtain ⟨b, hb⟩ : ∃ b, p x = b := ⟨_, rfl⟩
      rw [hb] at HC
      have Hb := Lib.hid hb
      clear hb
      go_wp2_with fail
      refine HC.out.mono ?_
      rintro e9 w2 ⟨rfl, hb2⟩
      have hb02 := hbr.trans (hb2.mono hbs)
      cases b
      · go_wp2_with fail
        go_roundw
        case rel => exact ⟨k + 1, by omega, by go_num, Lib.hid (fun q hq2 => by
          rcases Nat.lt_or_ge q k with g | g
          · exact hq.out q g
          · obtain rfl : q = k := by omega
            rw [Hx.out]; exact Hb.out), hb02⟩
        case measure => simp [intOf]; omega
      · have HP := Lib.hid (show IdxP l p (.int .i64 (k : Nat)) from .inl ⟨k, rfl, hkL, by rw [Hx.out]; exact Hb.out, hq.out⟩)
        go_wp2_with fail
        go_ret
        exact RV.mk ⟨HP.out, hb02⟩
    · obtain rfl : k = n := by omega
      have HP := Lib.hid (show IdxP l p (.int .i64 (-1)) from .inr ⟨rfl, fun q hq2 => hq.out q (by rw [← Hl.out]; exact hq2)⟩)
      go_wp2_with fail
      go_ret
      exact RV.mk ⟨HP.out, hbr⟩
/-- what DeleteFunc leaves -/
def DelP (r : List Int) (base : Nat) (v0 : Value) (w : World) (v : Value) (w' : World) : Prop :=
  ∃ A n c, v = .slice A n c ∧ w'.ownsRow base 3 1 (.slice A n c) n (i64s r) ∧ Below base w w' ∧ w.grownBy w' v0.ownBlock
theorem filter_none {l : List Int} {p : Int → Bool} (h : ∀ q, q < l.length → p (at_ l q) = false) : l.filter (fun x => !p x) = l := by
  rw [List.filter_eq_self]
  intro x hx
  obtain ⟨j, hj, rfl⟩ := List.mem_iff_getElem.1 hx
  rw [← at_eq hj, h j hj]; rfl
theorem filter_take {l : List Int} {p : Int → Bool} {i : Nat} (hi : i < l.length) (h1 : p (at_ l i) = true) (h : ∀ q, q < i → p (at_ l q) = false) : (l.take (i + 1)).filter (fun x => !p x) = l.take i := by
  rw [take_at hi, List.filter_append]
  have e1 : [at_ l i].filter (fun x => !p x) = [] := by simp [h1]
  have e2 : (l.take i).filter (fun x => !p x) = l.take i := by
    refine filter_none (fun q hq => ?_)
    rw [List.length_take] at hq
    have hq1 : q < i := by omega
    have : at_ (l.take i) q = at_ l q := by
      rw [at_eq (by rw [List.length_take]; omega), at_eq (by omega), List.getElem_take]
    rw [this]; exact h q hq1
  rw [e1, e2, List.append_nil]
theorem filter_take1 (l : List Int) (p : Int → Bool) {j : Nat} (hj : j < l.length) : (l.take (j + 1)).filter (fun x => !p x) = (l.take j).filter (fun x => !p x) ++ if p (at_ l j) = true then [] else [at_ l j] := by
  rw [take_at hj, List.filter_append]
  congr 1
  cases h : p (at_ l j) <;> simp [h]
set_option maxRecDepth 1000000 in
set_option maxHeartbeats 4000000 in
theorem delF_any (l : List Int) (n : Nat) (hl : l.length = n) (base : Nat) (A : Option Addr) (c : Nat) (p : Int → Bool) (xa ya : Addr) (hn : n ≤ 1000000) (w : World) (hown : w.ownsRow base 3 1 (.slice A n c) n (i64s l)) (hbase : base ≤ w.heap.size)
    (HF : Hid (∀ W x, x ∈ l → w.grownBy W (Value.slice A n c).ownBlock → Calls Try.prog 23 #[.int .i64 x, .pointer (some xa), .pointer (some ya)] W (R1 (.bool (p x)) (Below W.heap.size W)))) :
    Calls Try.prog 22 #[.slice A n c, .func (.func 23) #[] #[.pointer (some xa), .pointer (some ya)]] w (RV (DelP (l.filter fun x => !p x) base (.slice A n c) w)) := by
  have hI := idxF_any l n hl A c p xa ya (by unfold maxLen; omega) w (Has.of_own hown) (Lib.hid (fun W x hx hb => HF.out W x hx ⟨hb.os, hb.tape, hb.output, hb.size, fun k hk _ => hb.block k hk⟩))
  have HI := Lib.hid hI
  have Hl := Lib.hid hl
  have Hown := Lib.hid hown
  clear hI hl hown
  go_enter Try.func22, Try.ntmps22
  go_wp2_with fail
  refine HI.out.mono ?_
  rintro e w1 ⟨v, rfl, hP, hb1⟩
  rcases hP with ⟨i0, rfl, hi0, hp0, hq0⟩ | ⟨rfl, hq⟩
  · have hn0 : 0 < n := by rw [← Hl.out]; omega
    obtain ⟨g, cap, ev, hg, hgs⟩ := Hown.out.form hn0
    injection ev with e1 _ e3
    subst e1 e3
    obtain ⟨hnc, hcm⟩ := own_len Hown.out
    have hi0n : i0 < n := by rw [← Hl.out]; exact hi0
    have hft := Lib.hid (filter_take hi0 hp0 hq0)
    have hO1 : Only g w w1 := ⟨hb1.os, hb1.tape, hb1.output, hb1.size, fun k hk _ => hb1.block k hk⟩
    have Hown1 := Lib.hid (own_next Hown.out hb1)
    have hne : ((i0 : Int) == -1) = false := by rw [beq_eq_false_iff_ne]; omega
    clear hi0 hp0 hq0 hb1 HI
    go_wp2_with fail
    go_loopw [5, 6] (fun iv jv wr => ∃ (i j : Nat) (X : List Int), iv = .int .i64 (i : Nat) ∧ jv = .int .i64 (j : Nat) ∧ i < j ∧ j ≤ n ∧ Hid (X.length = n) ∧ Hid (X.take i = (l.take j).filter (fun x => !p x)) ∧ Hid (X.drop j = l.drop j) ∧ Hid (wr.ownsRow base 3 1 (.slice (some ⟨g, 0, none⟩) n c) n (i64s X)) ∧ Only g w wr) (fun _ jv _ => n + 5 - (intOf jv).toNat)
    case atStart => exact ⟨i0, i0 + 1, l, by first | rfl | go_num, by go_num, by omega, by omega, Hl, Lib.hid hft.out.symm, Lib.hid rfl, Hown1, hO1⟩
    case round =>
      obtain ⟨i, j, X, rfl, rfl, hij, hjn, hX, hXi, hXj, hXo, hOr⟩ := hrel
      have hsz := hOr.size
      by_cases hlt : (j : Int) < (n : Int)
      · have hjl : j < l.length := by rw [Hl.out]; omega
        have hjX : j < X.length := by rw [hX.out]; omega
        have hiX : i < X.length := by rw [hX.out]; omega
        have hat : at_ X j = at_ l j := by
          have h3 := congrArg (fun l : List Int => l[0]?) hXj.out
          simp only [List.getElem?_drop, Nat.add_zero] at h3
          rw [at_eq hjl, at_eq hjX]
          rw [List.getElem?_eq_getElem hjl, List.getElem?_eq_getElem hjX] at h3
          exact Option.some.inj h3
        obtain ⟨ad, e1, _, c0⟩ := (Has.of_own hXo.out).at (i64s_get X hjX)
        injection e1 with e1
        subst e1
        have hadd : (⟨g, 0, none⟩ : Addr).add j = ⟨g, j, none⟩ := by unfold Addr.add; split <;> simp_all
        rw [hadd, hat] at c0
        have hm := at_mem hjl
        have hft1 := filter_take1 l p hjl
        have hdr := Lib.hid (show X.drop (j + 1) = l.drop (j + 1) by
          have h3 := congrArg (fun l : List Int => l.drop 1) hXj.out
          simp only [List.drop_drop] at h3
          exact h3)
        obtain ⟨x, hx⟩ : ∃ x, at_ l j = x := ⟨_, rfl⟩
        rw [hx] at c0 hm hft1
        have HC := Lib.hid (HF.out wr x hm hOr)
        obtain ⟨b, hb⟩ : ∃ b, p x = b := ⟨_, rfl⟩
        rw [hb] at HC hft1
        have h0j : (0 : Int) ≤ (j : Int) := by omega
        have h0i : (0 : Int) ≤ (i : Int) := by omega
        have hin : (i : Int) < (n : Int) := by omega
        have Hft1 := Lib.hid hft1
        clear hb hx hm hat hadd hft1 hjX hjl
        go_wp2_with fail
        refine HC.out.mono ?_
        rintro e9 w2 ⟨rfl, hb2⟩
        have hO2 := below_only hOr hb2
        have hX2 := own_next hXo.out hb2
        cases b
        · obtain ⟨⟨u0, r0⟩, r1⟩ := own_room hX2 (k := i) (by omega)
          obtain ⟨s1, _⟩ := hX2.stored i (.int .i64 x)
          rw [i64s_set] at s1
          have hXi2 := Lib.hid (show (X.set i x).take (i + 1) = (l.take (j + 1)).filter (fun x => !p x) by
            rw [Hft1.out, ← hXi.out, List.take_succ_eq_append_getElem (by rw [List.length_set]; exact hiX), List.getElem_set_self, List.take_set_of_le (Nat.le_refl _)]; rfl)
          have hdr2 := Lib.hid (show (X.set i x).drop (j + 1) = l.drop (j + 1) by rw [List.drop_set_of_lt (by omega)]; exact hdr.out)
          have hXl2 := Lib.hid (show (X.set i x).length = n by rw [List.length_set]; exact hX.out)
          have HS := Lib.hid s1
          have hO3 := hO2.set i (.int .i64 x)
          clear s1 hX2 c0
          go_wp2_with fail
          go_roundw
          case rel => exact ⟨i + 1, j + 1, X.set i x, by go_num, by go_num, by omega, by omega, hXl2, hXi2, hdr2, HS, hO3⟩
          case measure => simp [intOf]; omega
        · have hXi2 := Lib.hid (show X.take i = (l.take (j + 1)).filter (fun x => !p x) by
            rw [Hft1.out, ← hXi.out, if_pos rfl, List.append_nil])
          have HX2 := Lib.hid hX2
          clear hX2 c0
          go_wp2_with fail
          go_roundw
          case rel => exact ⟨i, j + 1, X, rfl, by go_num, by omega, by omega, hX, hXi2, hdr, HX2, hO2⟩
          case measure => simp [intOf]; omega
      · obtain rfl : j = n := by omega
        have hin : i < j := hij
        have hck2 : ¬ c = i := by omega
        have hic : (i : Int) ≤ (c : Int) := by omega
        have hin' : (i : Int) ≤ (j : Int) := by omega
        obtain ⟨m2, hm2⟩ : ∃ m2, j - i = m2 := ⟨_, rfl⟩
        obtain ⟨vs, hcl⟩ := run_clear_int wr g i m2 (c - i) 0 (fun q hq => by
          obtain ⟨⟨u, hu⟩, _⟩ := own_room hXo.out (k := i + q) (by omega)
          rw [hu]; rfl) (fun q => hXo.out.frozenAt _)
        have hof := own_front hXo.out (k := i) (by omega)
        rw [i64s_take, hXi.out, List.take_of_length_le (l := l) (by rw [Hl.out]; exact Nat.le_refl _)] at hof
        have hF := Lib.hid (show DelP (l.filter fun x => !p x) base (.slice (some ⟨g, 0, none⟩) j c) w (.slice (some ⟨g, 0, none⟩) i c) (wr.setCells g i vs) from
          ⟨_, i, c, rfl, own_behinds vs i _ hof (by omega), (only_setCells vs i _ hOr).below hbase hg, only_setCells vs i _ hOr⟩)
        clear hof hXo
        go_wp2_with fail
        go_ret
        exact RV.mk hF.out
  · have hF := Lib.hid (show DelP (l.filter fun x => !p x) base (.slice A n c) w (.slice A n c) w1 from
      ⟨A, n, c, rfl, by rw [filter_none hq]; exact own_next Hown.out hb1, hb1.mono hbase, hb1.os, hb1.tape, hb1.output, hb1.size, fun k hk _ => hb1.block k hk⟩)
    clear hq
    go_wp2_with fail
    go_ret
    exact RV.mk hF.out
end Go.Proofs.Ytmfndpkhcejffaa
