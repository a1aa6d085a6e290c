/- What Share of package ring answers. Conditions: nodes lie in their cells. -/
import Derived.Test.YtmbpgenjjgepiaaRgCpf
import Derived.Test.YtmbpgenjjgepiaaRgOwn2
import Derived.Test.YtmbpgenjjgepiaaRgFind
import Derived.Deep.QuietTactic
import Derived.BigQuiet
namespace Go.Proofs.Ytmbpgenjjgepiaa
open Go.RowKit Go.Sort

/-- a number less another one, as 64 bits have it -/
def sub64 (a b : Nat) : Nat := (a + 18446744073709551616 - b) % 18446744073709551616
/-- what of the first k places is a node's: so much of the numbers, and so many places -/
def shN (Q : List Plc) (name : ByteArray) : Nat → Nat
  | 0 => 0
  | k + 1 => if (at_ Q k).nm = name then (shN Q name k + sub64 (at_ Q k).t (at_ Q ((k + Q.length - 1) % Q.length)).t) % 18446744073709551616 else shN Q name k
def owN (Q : List Plc) (name : ByteArray) : Nat → Nat
  | 0 => 0
  | k + 1 => if (at_ Q k).nm = name then owN Q name k + 1 else owN Q name k
theorem owN_le (Q : List Plc) (name : ByteArray) (k : Nat) : owN Q name k ≤ k := by
  induction k with
  | zero => exact Nat.le_refl _
  | succ k ih => unfold owN; split <;> omega
theorem shN_lt (Q : List Plc) (name : ByteArray) (k : Nat) : shN Q name k < 18446744073709551616 := by
  induction k with
  | zero => exact (by decide : 0 < 18446744073709551616)
  | succ k ih => unfold shN; split; exact Nat.mod_lt _ (by decide); exact ih
def shareN (Q : List Plc) (name : ByteArray) : Nat := if 0 < owN Q name Q.length ∧ owN Q name Q.length = Q.length then 18446744073709551615 else shN Q name Q.length
/-- the ring's places, each token once -/
def ddAll (l : List Nod) : List Plc := ddP (plcs (plAll l)) (plAll l).length
theorem tk_lt {l : List Nod} (h : ∀ x ∈ l, ∀ t ∈ x.tk, t < 18446744073709551616) : ∀ y ∈ ddAll l, y.t < 18446744073709551616 := by
  have h1 : ∀ y ∈ plcs (plAll l), y.t < 18446744073709551616 := fun y hy => by
    have hy := (List.mergeSort_perm _ _).mem_iff.1 hy
    unfold plAll at hy
    obtain ⟨x, hx, h4⟩ := List.mem_flatMap.1 hy
    unfold ndPl at h4
    obtain ⟨t, ht, rfl⟩ := List.mem_map.1 h4
    exact h x hx t ht
  have h2 : ∀ k, k ≤ (plcs (plAll l)).length → ∀ y ∈ ddP (plcs (plAll l)) k, y ∈ plcs (plAll l) := by
    intro k
    induction k with
    | zero => intro _ y hy; cases hy
    | succ k ih =>
      intro hk y hy
      unfold ddP at hy
      split at hy
      · rcases List.mem_append.1 hy with hy | hy
        · exact ih (by omega) y hy
        · rw [List.mem_singleton.1 hy]; exact at_mem (by omega)
      · exact ih (by omega) y hy
  exact fun y hy => h1 y (h2 _ (by rw [plcs_len]; exact Nat.le_refl _) y hy)

set_option maxRecDepth 1000000 in
set_option maxHeartbeats 8000000 in
theorem share_any (A : Option Addr) (n c : Nat) (L : List NodE) (hn : L.length = n) (hl : n ≤ maxLen) (name : ByteArray) (w : World) (h : Has w w.heap.size A (nodCs L)) (hL : ∀ e ∈ L, NodOk w e)
    (hc : chkR (L.map NodE.x) = 0) (hnm : ∃ q, q < L.length ∧ (at_ L q).nm = name) :
    Calls Try.prog 15 #[.slice A n c, .string name] w (R1 (.tuple #[.int .u64 (shareN (ddAll (L.map NodE.x)) name : Nat), .int .i64 0]) (Below w.heap.size w)) := by
  have hC := rcheckN_any A n c L hn hl w h hL
  rw [hc] at hC
  have HC := Lib.hid hC
  have HF := Lib.hid (fun (w' : World) (hb : Below w.heap.size w w') => find_any A n c L hn hl name w' (h.next hb))
  obtain ⟨hl1, hs⟩ := nodOk_tk hL hc
  have HPl := Lib.hid (fun (w' : World) (hb : Below w.heap.size w w') => places_any A n c L hn (by rw [← hn]; exact hl1) w' (h.next hb) (fun e he => (hL e he).next hb) hs)
  have hlt : ∀ x ∈ L.map NodE.x, ∀ t ∈ x.tk, t < 18446744073709551616 := fun x hx t ht => by
    obtain ⟨e, he, rfl⟩ := List.mem_map.1 hx
    exact (hL e he).2.2 t ht
  have HT := Lib.hid (tk_lt hlt)
  have Hnm := Lib.hid hnm
  have hpb : (plAll (L.map NodE.x)).length ≤ 1000000 := by
    have h1 := plAll_le (L.map NodE.x) (b := 1000) (fun x hx => by
      obtain ⟨e, he, rfl⟩ := List.mem_map.1 hx
      exact hs e he)
    rw [List.length_map] at h1
    have := Nat.mul_le_mul_right 1000 hl1
    omega
  clear hC hnm hlt h hL hs hc hl1 hn
  go_enter Try.func15, Try.ntmps15
  go_wp2_with fail
  refine HC.out.mono ?_
  rintro e w1 ⟨rfl, hb1⟩
  have HF1 := Lib.hid (HF.out w1 hb1)
  go_wp2_with fail
  refine HF1.out.mono ?_
  rintro e w2 ⟨v, rfl, hf, hb2⟩
  have hb02 := bnext hb1 hb2
  have hfi : ∃ i : Nat, v = .int .i64 (i : Nat) := by
    rcases hf with ⟨i, h1, _⟩ | ⟨_, h2⟩
    · exact ⟨i, h1⟩
    · obtain ⟨q, h3, h4⟩ := Hnm.out
      exact absurd h4 (h2 q h3)
  obtain ⟨i0, rfl⟩ := hfi
  have hi0 : ¬ (i0 : Int) < 0 := by omega
  have HP2 := Lib.hid (HPl.out w2 hb02)
  clear hf hb1 hb2 HF HC HPl HF1
  go_wp2_with fail
  refine HP2.out.mono ?_
  rintro e w3 ⟨v, rfl, A3, c3, p, rfl, hp, hown3, hb3⟩
  have hb03 := bnext hb02 hb3
  have hpl : (plcs (plAll (L.map NodE.x))).length = p := by rw [plcs_len, hp]
  have HCp := Lib.hid (compact_any (plcs (plAll (L.map NodE.x))) p hpl w2.heap.size A3 c3 w3 hown3 hb3.size (by omega))
  have Hp := Lib.hid hp
  have hs2 := hb02.size
  have hs3 := hb3.size
  clear hown3 hp hpl hb3 HP2
  go_wp2_with fail
  refine HCp.out.mono ?_
  rintro e w4 ⟨v, rfl, A4, q, c4, rfl, hq, hown4, hb4⟩
  have hb04 : Below w.heap.size w w4 := hb03.trans (hb4.mono hs2)
  have hqd : ddP (plcs (plAll (L.map NodE.x))) p = ddAll (L.map NodE.x) := by unfold ddAll; rw [Hp.out]
  rw [hqd] at hq hown4
  have hql : q ≤ 1000000 := by
    rw [hq, ← hqd]
    have := ddP_le (plcs (plAll (L.map NodE.x))) p
    have h9 : p ≤ 1000000 := by rw [Hp.out]; exact hpb
    omega
  obtain ⟨Q, hQ⟩ : ∃ Q, ddAll (L.map NodE.x) = Q := ⟨_, rfl⟩
  rw [hQ] at hq hown4
  have HT2 := HT.out
  rw [hQ] at HT2
  have HT3 := Lib.hid HT2
  have HQ := Lib.hid hQ
  have Hq := Lib.hid hq.symm
  have HR := Lib.hid (Has.of_own hown4)
  clear hq hown4 hb4 hb03 hb02 HCp HT HT2 hqd hQ hs2 hs3
  go_wp2_with fail
  go_loopw [8, 9, 26] (fun sv ov iv wr => ∃ k : Nat, k ≤ q ∧ iv = .int .i64 (k : Nat) ∧ sv = .int .u64 (shN Q name k : Nat) ∧ ov = .int .i64 (owN Q name k : Nat) ∧ Below w4.heap.size w4 wr) (fun _ _ iv _ => q + 5 - (intOf iv).toNat)
  case atStart => exact ⟨0, by omega, rfl, rfl, rfl, Below.refl _ _⟩
  case round =>
    obtain ⟨k, hk, rfl, rfl, rfl, hbr⟩ := hrel
    have hbs := hbr.size
    have how := owN_le Q name k
    by_cases hlt : (k : Int) < (q : Int)
    · have hkQ : k < Q.length := by rw [Hq.out]; omega
      obtain ⟨r, hr⟩ : ∃ r, (k + q - 1) % q = r := ⟨_, rfl⟩
      have hrq : r < q := by rw [← hr]; exact Nat.mod_lt _ (by omega)
      have hrQ : r < Q.length := by rw [Hq.out]; exact hrq
      obtain ⟨ad, rfl, _, c0⟩ := (HR.out.next hbr).at (plcCs_0 hkQ)
      obtain ⟨ad', e', _, c1⟩ := (HR.out.next hbr).at (plcCs_1 hkQ)
      injection e' with e'
      subst e'
      have c1 := cell_off c1 (by decide)
      have hsh : Hid (shN Q name (k + 1) = if (at_ Q k).nm = name then (shN Q name k + sub64 (at_ Q k).t (at_ Q r).t) % 18446744073709551616 else shN Q name k) := Lib.hid (by rw [← hr, ← Hq.out]; rfl)
      have how2 : Hid (owN Q name (k + 1) = if (at_ Q k).nm = name then owN Q name k + 1 else owN Q name k) := Lib.hid rfl
      have hxl := HT3.out _ (at_mem hkQ)
      have hyl := HT3.out _ (at_mem hrQ)
      have HRr := Lib.hid (fun w' (hb : Below w4.heap.size w4 w') => (HR.out.next hb).at (plcCs_0 hrQ))
      obtain ⟨x, hx⟩ : ∃ x, at_ Q k = x := ⟨_, rfl⟩
      obtain ⟨y, hy⟩ : ∃ y, at_ Q r = y := ⟨_, rfl⟩
      obtain ⟨s, hs⟩ : ∃ s, shN Q name k = s := ⟨_, rfl⟩
      obtain ⟨o, ho⟩ : ∃ o, owN Q name k = o := ⟨_, rfl⟩
      have hsl : s < 18446744073709551616 := by rw [← hs]; exact shN_lt _ _ _
      rw [hx] at c0 c1 hsh how2 hxl
      rw [hy] at hsh HRr hyl
      rw [hs] at hsh ⊢
      rw [ho] at how2 how ⊢
      obtain ⟨xt, xn⟩ := x
      simp only [] at c0 c1 hsh how2 hxl
      obtain ⟨W1, hW1⟩ : ∃ W1, wr.alloc (.cells #[.int .u64 (xt : Nat), .string xn] 57) = W1 := ⟨_, rfl⟩
      obtain ⟨g, hgs⟩ : ∃ g, wr.heap.size = g := ⟨_, rfl⟩
      have hk1 : Blk W1 g 57 #[.int .u64 (xt : Nat), .string xn] := by rw [← hW1, ← hgs]; exact Blk.new _ _ _
      have hb1 : Below wr.heap.size wr W1 := by rw [← hW1]; exact one_alloc wr _
      have hb01 := bnext hbr hb1
      obtain ⟨ae, e2, _, d0⟩ := HRr.out W1 hb01
      injection e2 with e2
      subst e2
      have y0 : W1.cell? ⟨g, 0, none⟩ = some (.int .u64 (xt : Nat)) := hk1.cell 0
      have y1 : W1.cell? ⟨g, 1, none⟩ = some (.string xn) := hk1.cell 1
      have HW := Lib.hid hW1
      have HG := Lib.hid hgs
      have Hr := Lib.hid hr
      clear hx hy hs ho hW1 hgs hkQ hrQ hr hb1
      by_cases e : xn = name
      · have f1 : (xn.toList == name.toList) = true := by rw [name_eq, decide_eq_true e]
        obtain ⟨dd, hdd⟩ : ∃ dd, sub64 xt y.t = dd := ⟨_, rfl⟩
        obtain ⟨s2, hs2⟩ : ∃ s2, (s + dd) % 18446744073709551616 = s2 := ⟨_, rfl⟩
        have E1 := Lib.hid (show shN Q name (k + 1) = s2 by rw [hsh.out, if_pos e, hdd, hs2])
        have E2 := Lib.hid (show owN Q name (k + 1) = o + 1 by rw [how2.out, if_pos e])
        have g1 : IntKind.u64.wrap ((xt : Int) - (y.t : Int)) = (dd : Int) := by rw [IntKind.wrap_u64, ← hdd]; unfold sub64; omega
        have g2 : IntKind.u64.wrap ((s : Int) + (dd : Int)) = (s2 : Int) := by rw [IntKind.wrap_u64, ← hs2]; omega
        have g3 : IntKind.i64.wrap ((k : Int) + (q : Int)) = (k : Int) + (q : Int) := IntWalk.i64_in _ (by omega)
        have g4 : IntKind.i64.wrap ((k : Int) + (q : Int) - 1) = (k : Int) + (q : Int) - 1 := IntWalk.i64_in _ (by omega)
        have g5 : ((k : Int) + (q : Int) - 1).tmod (q : Int) = (r : Int) := by
          rw [show (k : Int) + (q : Int) - 1 = ((k + q - 1 : Nat) : Int) by omega, ← Hr.out]; rfl
        have g6 : ((q : Int) == 0) = false := by rw [beq_eq_false_iff_ne]; omega
        have g7 : (0 : Int) ≤ (r : Int) := by omega
        have g8 : (r : Int) < (q : Int) := by omega
        have g9 : (0 : Int) ≤ (k : Int) := by omega
        clear e hdd hs2 hsh how2
        go_wp2_with fail
        rw [HW.out, HG.out]
        go_quiet (fail)
        have hbq := below_drewN hb01 nq
        clear g1 g2 g3 g4 g5 g6 g7 g8 g9 hb01
        go_wp2_with fail
        go_roundw
        case rel => exact ⟨k + 1, by omega, by go_num, by rw [E1.out], by rw [E2.out]; go_num, hbq⟩
        case measure => simp [intOf]; omega
      · have f1 : (xn.toList == name.toList) = false := by rw [name_eq, decide_eq_false e]
        have E1 := Lib.hid (show shN Q name (k + 1) = s by rw [hsh.out, if_neg e])
        have E2 := Lib.hid (show owN Q name (k + 1) = o by rw [how2.out, if_neg e])
        clear e hsh how2
        go_wp2_with fail
        rw [HW.out]
        go_roundw
        case rel => exact ⟨k + 1, by omega, by go_num, by rw [E1.out], by rw [E2.out], hb01⟩
        case measure => simp [intOf]; omega
    · obtain rfl : k = q := by omega
      have hb05 : Below w.heap.size w wr := bnext hb04 hbr
      have hS : Hid (shareN Q name = if 0 < owN Q name k ∧ owN Q name k = k then 18446744073709551615 else shN Q name k) := Lib.hid (by unfold shareN; rw [Hq.out])
      obtain ⟨s, hs⟩ : ∃ s, shN Q name k = s := ⟨_, rfl⟩
      obtain ⟨o, ho⟩ : ∃ o, owN Q name k = o := ⟨_, rfl⟩
      rw [hs] at hS ⊢
      rw [ho] at hS how ⊢
      clear hs ho
      by_cases h1 : 0 < o
      · have d1 : decide ((o : Int) > 0) = true := decide_eq_true (by omega)
        by_cases h2 : o = k
        · have f1 : ((o : Int) == (k : Int)) = true := by rw [beq_iff_eq]; omega
          have E := Lib.hid (show shareN Q name = 18446744073709551615 by rw [hS.out, if_pos ⟨h1, h2⟩])
          clear h2 hS
          go_wp2_with fail
          go_ret2
          exact R1.mk (by rw [HQ.out, E.out]; rfl) hb05
        · have f1 : ((o : Int) == (k : Int)) = false := by rw [beq_eq_false_iff_ne]; omega
          have E := Lib.hid (show shareN Q name = s by rw [hS.out, if_neg (fun g => h2 g.2)])
          clear h2 hS
          go_wp2_with fail
          go_ret2
          exact R1.mk (by rw [HQ.out, E.out]; rfl) hb05
      · have d1 : decide ((o : Int) > 0) = false := decide_eq_false (by omega)
        have d1' : ¬ (0 : Int) < (o : Int) := by omega
        have E := Lib.hid (show shareN Q name = s by rw [hS.out, if_neg (fun g => h1 g.1)])
        clear h1 hS
        go_wp2_with fail
        go_ret2
        exact R1.mk (by rw [HQ.out, E.out]; rfl) hb05
end Go.Proofs.Ytmbpgenjjgepiaa
