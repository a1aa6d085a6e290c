/- slices.CompactFunc over a ring's places: the walk. Conditions: the row is the call's own. -/
import Derived.Test.YtmbpgenjjgepiaaRgCpt
namespace Go.Proofs.Ytmbpgenjjgepiaa
open Go.RowKit Go.Sort

theorem plcCs_set (X : List Plc) (k : Nat) (x : Plc) : ((plcCs X).set (k * 2) (.int .u64 (x.t : Nat))).set (k * 2 + 1) (.string x.nm) = plcCs (X.set k x) := by
  induction X generalizing k with
  | nil => simp [plcCs]
  | cons y X ih =>
    cases k with
    | zero => rfl
    | succ k =>
      rw [show (y :: X).set (k + 1) x = y :: X.set k x from rfl, show plcCs (y :: X) = .int .u64 (y.t : Nat) :: .string y.nm :: plcCs X from rfl, show plcCs (y :: X.set k x) = .int .u64 (y.t : Nat) :: .string y.nm :: plcCs (X.set k x) from rfl, ← ih]
      rw [show (k + 1) * 2 = k * 2 + 1 + 1 by omega, show k * 2 + 1 + 1 + 1 = (k * 2 + 1) + 1 + 1 by omega]
      rfl
theorem plcCs_take (X : List Plc) (k : Nat) : (plcCs X).take (k * 2) = plcCs (X.take k) := by
  induction X generalizing k with
  | nil => simp [plcCs]
  | cons y X ih =>
    cases k with
    | zero => simp [plcCs]
    | succ k =>
      rw [List.take_succ_cons, show plcCs (y :: X) = .int .u64 (y.t : Nat) :: .string y.nm :: plcCs X from rfl, show plcCs (y :: X.take k) = .int .u64 (y.t : Nat) :: .string y.nm :: plcCs (X.take k) from rfl, ← ih, show (k + 1) * 2 = k * 2 + 1 + 1 by omega]
      rfl
theorem plcCs_oneP (X : List Plc) : ∀ u ∈ plcCs X, u.oneCell' = true := by
  intro u hu
  obtain ⟨x, _, h⟩ := List.mem_flatMap.1 hu
  simp [encP] at h
  rcases h with rfl | rfl <;> rfl
/-- cells behind the row's end, many -/
theorem own_behinds {base size n c g : Nat} {e : TypeId} {xs : List Value} : ∀ (vs : List Value) (o : Nat) (w : World), w.ownsRow base e size (.slice (some ⟨g, 0, none⟩) n c) n xs → n * size ≤ o → (w.setCells g o vs).ownsRow base e size (.slice (some ⟨g, 0, none⟩) n c) n xs
  | [], _, _, h, _ => h
  | v :: r, o, _, h, ho => own_behinds r (o + 1) _ (own_behind h ho v) (by omega)
theorem below_setCells {B : Nat} {a : World} {g : Nat} (hg : B ≤ g) : ∀ (vs : List Value) (o : Nat) (w : World), Below B a w → Below B a (w.setCells g o vs)
  | [], _, _, h => h
  | v :: r, o, w, h => below_setCells hg r (o + 1) _ (h.setCell hg v)
theorem run_clear_plc (w : World) (b o m c : Nat) (ty : TypeId) (h0 : ∀ j, j < m * 2 → (w.cell? ⟨b, o + j, none⟩).isSome = true) (f0 : ∀ j, w.frozen? ⟨b, o + j, none⟩ = false) :
    ∃ vs : List Value, (Builtin.clear_ #[52] ty #[.slice (some ⟨b, o, none⟩) m c]).run Try.prog w = .ok (.tuple #[]) (w.setCells b o vs) := by
  obtain ⟨vs, hvs⟩ : ∃ vs, (Builtin.zeroCells (Value.agg #[.int .u64 0, .string ⟨#[]⟩]).cells m).toList = vs := ⟨_, rfl⟩
  have hl : vs.length = m * 2 := by rw [← hvs]; simp [Builtin.zeroCells, Value.cells]
  have h1 : ∀ v ∈ vs, v.oneCell' = true := by
    intro v hv
    rw [← hvs] at hv
    simp only [Builtin.zeroCells, Array.toList_map, List.mem_map] at hv
    obtain ⟨i, _, rfl⟩ := hv
    have : i % 2 < 2 := Nat.mod_lt _ (by decide)
    rcases (show i % 2 = 0 ∨ i % 2 = 1 by omega) with h | h <;> simp [Value.cells, h] <;> rfl
  have hst := run_storeCells_cells (P := Try.prog) b o vs 0 w (by intro j hj; simpa using h0 j (by omega)) (by intro j _; simp [f0]) h1
  simp only [Nat.add_zero] at hst
  cases m with
  | zero =>
    have hn : vs = [] := List.length_eq_zero_iff.1 hl
    subst hn
    exact ⟨[], by simp [Builtin.clear_, run_underlying Try.underlying52, World.setCells]⟩
  | succ m => exact ⟨vs, by simp [Builtin.clear_, run_underlying Try.underlying52, hvs, hst]⟩

/-- what CompactFunc makes -/
def CptP (P : List Plc) (n base : Nat) (w : World) (v : Value) (w' : World) : Prop :=
  ∃ A' q c', v = .slice A' q c' ∧ q = (ddP P n).length ∧ w'.ownsRow base 57 2 (.slice A' q c') q (plcCs (ddP P n)) ∧ Below base w w'

set_option maxRecDepth 1000000 in
set_option maxHeartbeats 8000000 in
theorem compact_any (P : List Plc) (n : Nat) (hP : P.length = n) (base : Nat) (A : Option Addr) (c : Nat) (w : World) (hown : w.ownsRow base 57 2 (.slice A n c) n (plcCs P)) (hbase : base ≤ w.heap.size) (hn : n ≤ 1000000) :
    Calls Try.prog 28 #[.slice A n c, .func (.func 29) #[] #[]] w (RV (CptP P n base w)) := by
  have HP := Lib.hid hP
  by_cases h2 : n < 2
  · have hF := Lib.hid (show CptP P n base w (.slice A n c) w from by
      have e : ddP P n = P := by
        rcases (show n = 0 ∨ n = 1 by omega) with rfl | rfl
        · rw [List.length_eq_zero_iff.1 hP]; rfl
        · match P, hP with
          | [x], _ => rfl
      exact ⟨A, n, c, rfl, by rw [e, hP], by rw [e]; exact hown, Below.refl _ _⟩)
    clear hown hP
    go_enter Try.func28, Try.ntmps28
    go_wp2_with fail
    go_ret
    exact RV.mk hF.out
  · obtain ⟨g, cap, ev, hg, hgs⟩ := hown.form (by omega)
    injection ev with e1 _ e3
    subst e1 e3
    obtain ⟨hnc, hcm⟩ := own_len hown
    have Hown := Lib.hid hown
    clear hown hP
    go_enter Try.func28, Try.ntmps28
    go_wp2_with fail
    go_loopw [5] (fun kv wr => ∃ k z : Nat, k ≤ n ∧ 1 ≤ k ∧ Hid (z + 1 = k) ∧ kv = .int .i64 (k : Nat) ∧ Hid (ddP P k = P.take k) ∧ Below w.heap.size w wr) (fun kv _ => n + 5 - (intOf kv).toNat)
    case atStart => exact ⟨1, 0, by omega, by omega, Lib.hid rfl, rfl, Lib.hid (by cases hPc : P with
      | nil => have := HP.out; rw [hPc] at this; simp at this; omega
      | cons x l => rfl), Below.refl _ _⟩
    case round =>
      obtain ⟨k, z, hk, hk1, hz, rfl, hq, hbr⟩ := hrel
      have hbs := hbr.size
      have hz2 := hz.out
      by_cases hlt : (k : Int) < (n : Int)
      · have hkP : k < P.length := by rw [HP.out]; omega
        have hzP : z < P.length := by rw [HP.out]; omega
        have hH := (Has.of_own Hown.out).next hbr
        obtain ⟨ad, e1, _, c0⟩ := hH.at (plcCs_0 hkP)
        obtain ⟨ad', e2, _, c1⟩ := hH.at (plcCs_1 hkP)
        obtain ⟨ae, e3, _, d0⟩ := hH.at (plcCs_0 hzP)
        obtain ⟨ae', e4, _, d1⟩ := hH.at (plcCs_1 hzP)
        injection e1 with e1
        injection e2 with e2
        injection e3 with e3
        injection e4 with e4
        subst e1 e2 e3 e4
        have hadd : ∀ j, (⟨g, 0, none⟩ : Addr).add j = ⟨g, j, none⟩ := fun j => by unfold Addr.add; split <;> simp_all
        rw [hadd] at c0 c1 d0 d1
        obtain ⟨x, hx⟩ : ∃ x, at_ P k = x := ⟨_, rfl⟩
        obtain ⟨y, hy⟩ : ∃ y, at_ P z = y := ⟨_, rfl⟩
        rw [hx] at c0 c1
        rw [hy] at d0 d1
        have hdd : Hid (ddP P (k + 1) = if x.t ≠ y.t then ddP P k ++ [x] else ddP P k) := Lib.hid (by
          rw [show ddP P (k + 1) = if k = 0 ∨ (at_ P k).t ≠ (at_ P (k - 1)).t then ddP P k ++ [at_ P k] else ddP P k from rfl, show k - 1 = z by omega, hx, hy]
          have : ¬ k = 0 := by omega
          simp only [this, false_or])
        have htk := Lib.hid (take_at (l := P) (k := k) hkP)
        have Hx := Lib.hid hx
        have Hy := Lib.hid hy
        have ez : IntKind.i64.wrap ((k : Int) - 1) = (z : Int) := (IntWalk.i64_in _ (by omega)).trans (by omega)
        have q0 : (0 : Int) ≤ (z : Int) := by omega
        have q1 : (z : Int) < (n : Int) := by omega
        have q2 : (0 : Int) ≤ (k : Int) := by omega
        have q3 : (1 : Int) ≤ (k : Int) := by omega
        clear hx hy hadd hkP hzP hH hz2
        go_wp2_with fail
        go_still_tail 10, (by kernel_rfl)
        change wpList _ _ _ _ _ (wr.drewN 1)
        go_wp2_with fail
        refine (share1_any x y _).mono ?_
        rintro e w2 ⟨rfl, hb2⟩
        have hb02 : Below w.heap.size w w2 := bnext (below_drewN hbr 1) hb2
        clear c0 c1 d0 d1 hb2 ez q0 q1
        by_cases hxy : x.t = y.t
        · have E := Lib.hid (show decide (x.t = y.t) = true from decide_eq_true hxy)
          rw [E.out]
          have hdd2 := Lib.hid (show ddP P (k + 1) = P.take k by rw [hdd.out, if_neg (fun g => g hxy)]; exact hq.out)
          have hown2 := own_next Hown.out hb02
          have hb2 : Below base w w2 := hb02.mono hbase
          have hck : ¬ c = k := by omega
          have hkc : (k : Int) ≤ (c : Int) := by omega
          have hkn : (k : Int) ≤ (n : Int) := by omega
          obtain ⟨m, hm⟩ : ∃ m, n - k = m := ⟨_, rfl⟩
          have hkm : k + m = n := by omega
          have HO2 := Lib.hid hown2
          clear hxy hown2
          go_wp2_with fail
          go_loopw [5, 7] (fun kv jv wq => ∃ (k2 j y2 : Nat) (X : List Plc), 1 ≤ j ∧ j ≤ m ∧ k2 + 1 ≤ k + j ∧ Hid (y2 + 1 = j) ∧ kv = .int .i64 (k2 : Nat) ∧ jv = .int .i64 (j : Nat) ∧ Hid (X.length = n) ∧ Hid (X.take k2 = ddP P (k + j)) ∧ Hid (X.drop (k + y2) = P.drop (k + y2)) ∧ Hid (wq.ownsRow base 57 2 (.slice (some ⟨g, 0, none⟩) n c) n (plcCs X)) ∧ Below base w wq) (fun _ jv _ => n + 5 - (intOf jv).toNat)
          case atStart => exact ⟨k, 1, 0, P, by omega, by omega, by omega, Lib.hid rfl, rfl, rfl, HP, Lib.hid hdd2.out.symm, Lib.hid rfl, HO2, hb2⟩
          case round =>
            obtain ⟨k2, j, y2, X, hj1, hjm, hk2, hy2, rfl, rfl, hXl, hXt, hXd, hXo, hbq⟩ := hrel
            have hbqs := hbq.size
            have hy3 := hy2.out
            by_cases hlt2 : (j : Int) < (m : Int)
            · have hjP : k + j < P.length := by rw [HP.out]; omega
              have hyP : k + y2 < P.length := by rw [HP.out]; omega
              have hjX : k + j < X.length := by rw [hXl.out]; omega
              have hyX : k + y2 < X.length := by rw [hXl.out]; omega
              have eX : ∀ i, k + y2 ≤ i → i < P.length → at_ X i = at_ P i := fun i h1 h2 => by
                have h3 := congrArg (fun l : List Plc => l[i - (k + y2)]?) hXd.out
                simp only [List.getElem?_drop] at h3
                rw [show k + y2 + (i - (k + y2)) = i by omega] at h3
                rw [at_eq h2, at_eq (show i < X.length by rw [hXl.out, ← HP.out]; exact h2)]
                rw [List.getElem?_eq_getElem h2, List.getElem?_eq_getElem (show i < X.length by rw [hXl.out, ← HP.out]; exact h2)] at h3
                exact Option.some.inj h3
              have hH : ∀ w', Below wr.heap.size wr w' → Has w' w'.heap.size (some ⟨g, 0, none⟩) (plcCs X) := fun w' hb => (Has.of_own hXo.out).next hb
              have cells : ∀ w', Below wr.heap.size wr w' → w'.cell? ⟨g, k * 2 + j * 2, none⟩ = some (.int .u64 (at_ P (k + j)).t) ∧ w'.cell? ⟨g, k * 2 + j * 2 + 1, none⟩ = some (.string (at_ P (k + j)).nm) ∧ w'.cell? ⟨g, k * 2 + y2 * 2, none⟩ = some (.int .u64 (at_ P (k + y2)).t) ∧ w'.cell? ⟨g, k * 2 + y2 * 2 + 1, none⟩ = some (.string (at_ P (k + y2)).nm) := fun w' hb => by
                have hadd : ∀ j, (⟨g, 0, none⟩ : Addr).add j = ⟨g, j, none⟩ := fun j => by unfold Addr.add; split <;> simp_all
                obtain ⟨a1, e1, _, f1⟩ := (hH w' hb).at (plcCs_0 hjX)
                obtain ⟨a2, e2, _, f2⟩ := (hH w' hb).at (plcCs_1 hjX)
                obtain ⟨a3, e3, _, f3⟩ := (hH w' hb).at (plcCs_0 hyX)
                obtain ⟨a4, e4, _, f4⟩ := (hH w' hb).at (plcCs_1 hyX)
                injection e1 with e1
                injection e2 with e2
                injection e3 with e3
                injection e4 with e4
                subst e1 e2 e3 e4
                rw [hadd, eX _ (by omega) hjP, Nat.add_mul] at f1 f2
                rw [hadd, eX _ (Nat.le_refl _) hyP, Nat.add_mul] at f3 f4
                exact ⟨f1, f2, f3, f4⟩
              obtain ⟨c0, c1, d0, d1⟩ := cells _ (Below.refl _ _)
              obtain ⟨x, hx⟩ : ∃ x, at_ P (k + j) = x := ⟨_, rfl⟩
              obtain ⟨y, hy⟩ : ∃ y, at_ P (k + y2) = y := ⟨_, rfl⟩
              have hdd : Hid (ddP P (k + j + 1) = if x.t ≠ y.t then ddP P (k + j) ++ [x] else ddP P (k + j)) := Lib.hid (by
                rw [show ddP P (k + j + 1) = if k + j = 0 ∨ (at_ P (k + j)).t ≠ (at_ P (k + j - 1)).t then ddP P (k + j) ++ [at_ P (k + j)] else ddP P (k + j) from rfl, show k + j - 1 = k + y2 by omega, hx, hy]
                have : ¬ k + j = 0 := by omega
                simp only [this, false_or])
              rw [hx] at c0 c1
              rw [hy] at d0 d1
              have Hcells := Lib.hid (fun w' hb => (cells w' hb).1.trans (by rw [hx]))
              have Hcells1 := Lib.hid (fun w' hb => (cells w' hb).2.1.trans (by rw [hx]))
              have hXd2 : Hid (X.drop (k + j) = P.drop (k + j)) := Lib.hid (by
                have h3 := congrArg (fun l : List Plc => l.drop 1) hXd.out
                simp only [List.drop_drop] at h3
                rw [show k + y2 + 1 = k + j by omega] at h3
                exact h3)
              have ez : IntKind.i64.wrap ((j : Int) - 1) = (y2 : Int) := (IntWalk.i64_in _ (by omega)).trans (by omega)
              have q0 : (0 : Int) ≤ (y2 : Int) := by omega
              have q1 : (y2 : Int) < (m : Int) := by omega
              have q2 : (0 : Int) ≤ (j : Int) := by omega
              have q4 : (0 : Int) ≤ (k2 : Int) := by omega
              have q5 : (k2 : Int) < (n : Int) := by omega
              clear hx hy cells hH eX hjP hyP hjX hyX hy3
              go_wp2_with fail
              go_still_tail 10, (by kernel_rfl)
              change wpList _ _ _ _ _ (wr.drewN 1)
              go_wp2_with fail
              refine (share1_any x y _).mono ?_
              rintro e w3 ⟨rfl, hb3⟩
              have hb3r : Below wr.heap.size wr w3 := bnext (below_drewN (Below.refl _ _) 1) hb3
              have hb03 : Below base w w3 := hbq.trans (hb3r.mono (Nat.le_trans hbase hbqs))
              have x0 := Hcells.out w3 hb3r
              have x1 := Hcells1.out w3 hb3r
              have hXo3 := own_next hXo.out hb3r
              clear c0 c1 d0 d1 hb3 ez q0 q1
              by_cases hxy : x.t = y.t
              · have E := Lib.hid (show decide (x.t = y.t) = true from decide_eq_true hxy)
                rw [E.out]
                have hdd2 := Lib.hid (show X.take k2 = ddP P (k + (j + 1)) by rw [show k + (j + 1) = k + j + 1 by omega, hdd.out, if_neg (fun g => g hxy)]; exact hXt.out)
                have HX3 := Lib.hid hXo3
                clear hxy hXo3 x0 x1
                go_wp2_with fail
                exact ⟨⟨k2, j + 1, j, X, by omega, by omega, by omega, Lib.hid rfl, rfl, by go_num, hXl, hdd2, hXd2, HX3, hb03⟩, by simp [intOf]; omega⟩
              · have E := Lib.hid (show decide (x.t = y.t) = false from decide_eq_false hxy)
                rw [E.out]
                have hk2X : k2 < X.length := by rw [hXl.out]; omega
                have hk2n : k2 < n := by omega
                obtain ⟨⟨u0, r0⟩, r1⟩ := own_room hXo3 (k := k2 * 2) (by omega)
                obtain ⟨⟨u2, r2⟩, r3⟩ := own_room hXo3 (k := k2 * 2 + 1) (by omega)
                obtain ⟨s1, _⟩ := hXo3.stored (k2 * 2) (.int .u64 (x.t : Nat))
                obtain ⟨s2, _⟩ := s1.stored (k2 * 2 + 1) (.string x.nm)
                rw [plcCs_set] at s2
                have hb04 : Below base w ((w3.setCell ⟨g, k2 * 2, none⟩ (.int .u64 (x.t : Nat))).setCell ⟨g, k2 * 2 + 1, none⟩ (.string x.nm)) := (hb03.setCell hg _).setCell hg _
                have HX4 := Lib.hid s2
                have HB4 := Lib.hid hb04
                have hdd2 := Lib.hid (show (X.set k2 x).take (k2 + 1) = ddP P (k + (j + 1)) by
                  rw [show k + (j + 1) = k + j + 1 by omega, hdd.out, if_pos hxy, ← hXt.out, List.take_succ_eq_append_getElem (by rw [List.length_set]; exact hk2X), List.getElem_set_self, List.take_set_of_le (Nat.le_refl _)])
                have hXd3 := Lib.hid (show (X.set k2 x).drop (k + j) = P.drop (k + j) by rw [List.drop_set_of_lt (by omega)]; exact hXd2.out)
                have hXl2 := Lib.hid (show (X.set k2 x).length = n by rw [List.length_set]; exact hXl.out)
                clear hxy hXo3 s1 s2 hb04 hk2X
                go_wp2_with fail
                exact ⟨⟨k2 + 1, j + 1, j, X.set k2 x, by omega, by omega, by omega, Lib.hid rfl, by go_num, by go_num, hXl2, hdd2, hXd3, HX4, HB4.out⟩, by simp [intOf]; omega⟩
            · obtain rfl : j = m := by omega
              have hk2n : k2 < n := by omega
              have hck2 : ¬ c = k2 := by omega
              have hk2c : (k2 : Int) ≤ (c : Int) := by omega
              have hk2n' : (k2 : Int) ≤ (n : Int) := by omega
              obtain ⟨m2, hm2⟩ : ∃ m2, n - k2 = m2 := ⟨_, rfl⟩
              have hHn := Has.of_own hXo.out
              obtain ⟨vs, hcl⟩ := run_clear_plc wr g (k2 * 2) m2 (c - k2) 0 (fun j hj => by
                obtain ⟨⟨u, hu⟩, _⟩ := own_room hXo.out (k := k2 * 2 + j) (by omega)
                rw [hu]; rfl) (fun j => hXo.out.frozenAt _)
              have hof := own_front hXo.out (k := k2) (by omega)
              rw [plcCs_take, hXt.out, hkm] at hof
              have hlen : k2 = (ddP P n).length := by
                rw [← hkm, ← hXt.out, List.length_take, hXl.out]; omega
              have hF := Lib.hid (show CptP P n base w (.slice (some ⟨g, 0, none⟩) k2 c) (wr.setCells g (k2 * 2) vs) from
                ⟨_, k2, c, rfl, hlen, own_behinds vs (k2 * 2) _ hof (Nat.le_refl _), below_setCells hg vs _ _ hbq⟩)
              clear hHn hof hlen
              go_wp2_with fail
              go_ret
              exact RV.mk hF.out
        · have E := Lib.hid (show decide (x.t = y.t) = false from decide_eq_false hxy)
          rw [E.out]
          have hdd2 := Lib.hid (show ddP P (k + 1) = P.take (k + 1) by rw [hdd.out, if_pos hxy, hq.out, htk.out, Hx.out])
          clear hxy
          go_wp2_with fail
          go_roundw
          case rel => exact ⟨k + 1, k, by omega, by omega, Lib.hid rfl, by go_num, hdd2, hb02⟩
          case measure => simp [intOf]; omega
      · obtain rfl : k = n := by omega
        have hown2 := own_next Hown.out hbr
        have hF := Lib.hid (show CptP P k base w (.slice (some ⟨g, 0, none⟩) k c) wr from by
          have e : ddP P k = P := by rw [hq.out, List.take_of_length_le (by rw [HP.out]; omega)]
          exact ⟨_, k, c, rfl, by rw [e, HP.out], by rw [e]; exact hown2, hbr.mono hbase⟩)
        clear hown2
        go_wp2_with fail
        go_ret
        exact RV.mk hF.out
end Go.Proofs.Ytmbpgenjjgepiaa
