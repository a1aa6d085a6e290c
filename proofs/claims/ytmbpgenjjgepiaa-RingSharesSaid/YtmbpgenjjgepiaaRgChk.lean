/- What Check of package ring tells. Conditions: nodes lie in their cells. -/
import Derived.Test.YtmbpgenjjgepiaaNods
import Derived.Test.YtmbpgenjjgepiaaNameLaw
import Derived.Deep.QuietTactic
namespace Go.Proofs.Ytmbpgenjjgepiaa
open Go.RowKit

/-- tokens that rise, as far as the m-th step -/
def upT (l : List Nat) : Nat → Bool
  | 0 => true
  | m + 1 => upT l m && decide (at_ l m < at_ l (m + 1))
def noName : ByteArray := ⟨#[]⟩
def ndErr (last : ByteArray) (x : Nod) : Int :=
  if x.nm = noName ∨ 20 < x.nm.size then 4 else if ¬ nlt last x.nm then 5 else if 20 < x.tk.length then 2 else if upT x.tk (x.tk.length - 1) = false then 5 else 0
def orE (e r : Int) : Int := if e ≠ 0 then e else r
def chkGo : ByteArray → List Nod → Int
  | _, [] => 0
  | last, x :: l => orE (ndErr last x) (chkGo x.nm l)
def chkR (l : List Nod) : Int := if 20 < l.length then 2 else chkGo noName l
theorem upT_step {l : List Nat} {m : Nat} (h : upT l m = true) {k : Nat} (hk : k < m) : at_ l k < at_ l (k + 1) := by
  induction m with
  | zero => omega
  | succ m ih =>
    rw [upT, Bool.and_eq_true, decide_eq_true_eq] at h
    rcases Nat.lt_or_ge k m with g | g
    · exact ih h.1 g
    · obtain rfl : k = m := by omega
      exact h.2
theorem upT_all {l : List Nat} {m : Nat} (h : ∀ k, k < m → at_ l k < at_ l (k + 1)) : upT l m = true := by
  induction m with
  | zero => rfl
  | succ m ih => rw [upT, ih (fun k hk => h k (by omega)), decide_eq_true (h m (by omega))]; rfl
theorem empty_false {a : ByteArray} (h : a ≠ ⟨#[]⟩) : a.toList.isEmpty = false := by
  cases hl : a.toList with
  | nil => exact absurd (bytes_ext (by rw [hl, Lib.toList_data])) h
  | cons x l => rfl
def NodOk (w : World) (e : NodE) : Prop := e.t.ok w ∧ e.nm.size ≤ maxLen ∧ ∀ x ∈ e.t.l, x < 18446744073709551616
theorem NodOk.next {w w' : World} {e : NodE} (h : NodOk w e) (hb : Below w.heap.size w w') : NodOk w' e := ⟨h.1.next hb, h.2⟩
def lastN (L : List NodE) (k : Nat) : ByteArray := if k = 0 then noName else (at_ L (k - 1)).nm

set_option maxRecDepth 1000000 in
set_option maxHeartbeats 4000000 in
theorem rcheckN_any (A : Option Addr) (n c : Nat) (L : List NodE) (hn : L.length = n) (hl : n ≤ maxLen) (w : World) (h : Has w w.heap.size A (nodCs L)) (hL : ∀ e ∈ L, NodOk w e) :
    Calls Try.prog 14 #[.slice A n c] w (R1 (.int .i64 (chkR (L.map NodE.x))) (Below w.heap.size w)) := by
  unfold maxLen at hl
  have Hn := Lib.hid hn
  by_cases h20 : (20 : Int) < (n : Int)
  · have E := Lib.hid (show chkR (L.map NodE.x) = 2 by unfold chkR; rw [if_pos (by rw [List.length_map]; omega)])
    rw [E.out]
    clear hL h
    go_enter Try.func14, Try.ntmps14
    go_wp2_with fail
    go_ret
    exact R1.mk rfl (Below.refl _ _)
  · obtain ⟨r, hr⟩ : ∃ r, chkR (L.map NodE.x) = r := ⟨_, rfl⟩
    have hr0 : chkGo noName (L.map NodE.x) = r := by rw [← hr]; unfold chkR; rw [if_neg (by rw [List.length_map]; omega)]
    have HR := Lib.hid hr0
    rw [hr]
    have HL := Lib.hid hL
    have Hh := Lib.hid h
    clear hr hr0 hL h hn
    go_enter Try.func14, Try.ntmps14
    go_wp2_with fail
    go_loopw [3, 12] (fun lv iv wr => ∃ k : Nat, k ≤ n ∧ iv = .int .i64 (k : Nat) ∧ lv = .string (lastN L k) ∧ Hid (chkGo (lastN L k) ((L.drop k).map NodE.x) = r) ∧ Below w.heap.size w wr) (fun _ iv _ => n + 5 - (intOf iv).toNat)
    case atStart => exact ⟨0, by omega, rfl, rfl, HR, Below.refl _ _⟩
    case round =>
      obtain ⟨k, hk, rfl, rfl, hg, hbr⟩ := hrel
      have hbs := hbr.size
      by_cases hlt : (k : Int) < (n : Int)
      · have hkL : k < L.length := by rw [Hn.out]; omega
        obtain ⟨ad, rfl, _, c0⟩ := (Hh.out.next hbr).at (nodCs_0 hkL)
        obtain ⟨ad', e', _, c1⟩ := (Hh.out.next hbr).at (nodCs_1 hkL)
        injection e' with e'
        subst e'
        have c1 := cell_off c1 (by decide)
        obtain ⟨⟨o1, o2, o3, o4⟩, o5, o6⟩ := (HL.out _ (at_mem hkL)).next hbr
        have hd : L.drop k = at_ L k :: L.drop (k + 1) := by rw [at_eq hkL]; exact List.drop_eq_getElem_cons hkL
        have hlast : lastN L (k + 1) = (at_ L k).nm := by unfold lastN; rw [if_neg (by omega)]; rfl
        have hg2 := hg.out
        rw [hd, List.map_cons, chkGo] at hg2
        obtain ⟨x, hx⟩ : ∃ x, at_ L k = x := ⟨_, rfl⟩
        rw [hx] at c0 c1 o1 o2 o3 o4 o5 o6 hg2 hlast
        obtain ⟨nm, ⟨T, tc, tl⟩⟩ := x
        simp only [NodE.x] at c0 c1 o1 o2 o3 o4 o5 o6 hg2 hlast
        obtain ⟨p, hp⟩ : ∃ p, tl.length = p := ⟨_, rfl⟩
        rw [hp] at c1 o1
        obtain ⟨last, hla⟩ : ∃ last, lastN L k = last := ⟨_, rfl⟩
        rw [hla] at hg2 ⊢
        have Hg2 := Lib.hid hg2
        have Hlast := Lib.hid hlast
        have Hp := Lib.hid hp
        have hk1 : Blk (wr.alloc (.cells #[.string nm, .slice T p tc] 34)) wr.heap.size 34 #[.string nm, .slice T p tc] := Blk.new _ _ _
        have hb1 : Below wr.heap.size wr (wr.alloc (.cells #[.string nm, .slice T p tc] 34)) := (Below.refl _ _).alloc (Nat.le_refl _) _
        have hb01 := bnext hbr hb1
        have HT := Lib.hid (o4.next hb1)
        clear hg hg2 hlast hla hd hp o4 o3
        by_cases n1 : nm = noName ∨ 20 < nm.size
        · have E := Lib.hid (show r = 4 by
            have hz : ndErr last ⟨nm, tl⟩ = 4 := by unfold ndErr; simp only []; rw [if_pos n1]
            rw [← Hg2.out, hz]; rfl)
          rcases Decidable.em (nm = ⟨#[]⟩) with m1 | m1
          · subst m1
            clear n1
            go_wp2_with fail
            go_ret
            rw [E.out]
            exact R1.mk rfl hb01
          · have s20 : (20 : Int) < (nm.size : Int) := by rcases n1 with h | h; exact absurd h m1; omega
            have e0 : nm.toList.isEmpty = false := empty_false m1
            clear n1
            go_wp2_with fail
            go_ret
            rw [E.out]
            exact R1.mk rfl hb01
        · have e0 : nm.toList.isEmpty = false := empty_false (fun h => n1 (.inl h))
          have s20 : ¬ (20 : Int) < (nm.size : Int) := by have : ¬ 20 < nm.size := fun h => n1 (.inr h); omega
          have Hn1 := Lib.hid n1
          clear n1
          by_cases n2 : nlt last nm
          · have b1 : Op.bytesLess last.toList nm.toList = true := by rw [nlt_bytes]; exact decide_eq_true n2
            have b2 : Op.bytesLess nm.toList last.toList = false := by rw [nlt_bytes]; exact decide_eq_false (nlt_asymm n2)
            have b3 : (nm.toList == last.toList) = false := by rw [beq_eq_false_iff_ne]; intro h; exact nlt_irrefl nm (by have := n2; rw [bytes_ext h] at this ⊢; exact this)
            have Hn2 := Lib.hid n2
            clear n2
            by_cases n3 : 20 < p
            · have E := Lib.hid (show r = 2 by
                have hz : ndErr last ⟨nm, tl⟩ = 2 := by unfold ndErr; simp only []; rw [if_neg Hn1.out, if_neg (fun h => h Hn2.out), if_pos (by rw [Hp.out]; exact n3)]
                rw [← Hg2.out, hz]; rfl)
              have n3' : (20 : Int) < (p : Int) := by omega
              go_wp2_with fail
              go_ret
              rw [E.out]
              exact R1.mk rfl hb01
            · have n3' : ¬ (20 : Int) < (p : Int) := by omega
              go_wp2_with fail
              obtain ⟨W1, hW1⟩ : ∃ W1, wr.alloc (.cells #[.string nm, .slice T p tc] 34) = W1 := ⟨_, rfl⟩
              obtain ⟨g, hg⟩ : ∃ g, wr.heap.size = g := ⟨_, rfl⟩
              rw [hW1] at hk1 hb01 HT ⊢
              rw [hg] at hk1 ⊢
              clear hW1 hb1 hg c0 c1 hbs
              go_loopw [6] (fun jv wq => ∃ m z : Nat, m ≤ p ∧ jv = .int .i64 (z : Nat) ∧ Hid (z = m + 1) ∧ Hid (upT tl m = true) ∧ Drawn W1 wq) (fun jv _ => p + 5 - (intOf jv).toNat)
              case atStart => exact ⟨0, 1, by omega, rfl, Lib.hid rfl, Lib.hid rfl, Drawn.refl _⟩
              case round =>
                obtain ⟨m, z, hm, rfl, hz1, hup, nd, rfl⟩ := hrel
                have hz2 : m < z ∧ z ≤ m + 1 := by have := hz1.out; omega
                have y0 : W1.cell? ⟨g, 0, none⟩ = some (.string nm) := hk1.cell 0
                have y1 : W1.cell? ⟨g, 1, none⟩ = some (.slice T p tc) := hk1.cell 1
                by_cases hlt2 : (z : Int) < (p : Int)
                · obtain ⟨bd, rfl, _, d1⟩ := HT.out.at (u64s_at (show m < tl.length by rw [Hp.out]; omega))
                  obtain ⟨bd', e2, _, d2⟩ := HT.out.at (u64s_at (show z < tl.length by rw [Hp.out]; omega))
                  injection e2 with e2
                  subst e2
                  obtain ⟨a1, ha1⟩ : ∃ a1, at_ tl m = a1 := ⟨_, rfl⟩
                  obtain ⟨a2, ha2⟩ : ∃ a2, at_ tl z = a2 := ⟨_, rfl⟩
                  rw [ha1] at d1
                  rw [ha2] at d2
                  have Ha1 := Lib.hid ha1
                  have Ha2 := Lib.hid ha2
                  clear ha1 ha2
                  go_wp2_with fail
                  have e1 : IntKind.i64.wrap ((z : Int) - 1) = (m : Int) := (IntWalk.i64_in _ (by omega)).trans (by omega)
                  have q0 : (0 : Int) ≤ (m : Int) := by omega
                  have q1 : (0 : Int) ≤ (z : Int) := by omega
                  have q2 : (m : Int) < (p : Int) := by omega
                  by_cases ht : a1 < a2
                  · have ht' : ¬ (a2 : Int) ≤ (a1 : Int) := by omega
                    go_quiet (fail)
                    clear e1 q0 q1 q2
                    go_wp2_with fail
                    go_roundw
                    case rel => exact ⟨m + 1, z + 1, by omega, by go_num, Lib.hid (by rw [hz1.out]), Lib.hid (by rw [upT, hup.out, Ha1.out, ← hz1.out, Ha2.out, decide_eq_true ht]; rfl), _, rfl⟩
                    case measure => simp [intOf]; omega
                  · have ht' : (a2 : Int) ≤ (a1 : Int) := by omega
                    have E := Lib.hid (show r = 5 by
                      have : upT tl (p - 1) = false := by
                        rw [← Bool.not_eq_true]; intro h
                        have := upT_step h (k := m) (by omega)
                        rw [Ha1.out, ← hz1.out, Ha2.out] at this
                        exact ht this
                      have hz : ndErr last ⟨nm, tl⟩ = 5 := by unfold ndErr; simp only []; rw [if_neg Hn1.out, if_neg (fun h => h Hn2.out), if_neg (by rw [Hp.out]; exact n3), Hp.out, if_pos this]
                      rw [← Hg2.out, hz]; rfl)
                    go_quiet (fail)
                    clear e1 q0 q1 q2
                    go_wp2_with fail
                    go_ret
                    rw [E.out]
                    exact R1.mk rfl (below_drewN (below_drewN hb01 _) _)
                · have hg3 := Hg2.out
                  have hup2 : upT tl (p - 1) = true := upT_all (fun k hk => upT_step hup.out (by omega))
                  have hz : ndErr last ⟨nm, tl⟩ = 0 := by
                    unfold ndErr; simp only []
                    rw [if_neg Hn1.out, if_neg (fun h => h Hn2.out), if_neg (by rw [Hp.out]; exact n3), Hp.out, if_neg (by rw [hup2]; decide)]
                  rw [hz] at hg3
                  have hg3 : chkGo nm (List.map NodE.x (List.drop (k + 1) L)) = r := hg3
                  have Hg3 := Lib.hid hg3
                  clear hg3 hup2 hz
                  go_wp2_with fail
                  go_roundw
                  case rel => exact ⟨k + 1, by omega, by go_num, by rw [Hlast.out], Lib.hid (by rw [Hlast.out]; exact Hg3.out), below_drewN hb01 _⟩
                  case measure => simp [intOf]; omega
          · have E := Lib.hid (show r = 5 by
              have hz : ndErr last ⟨nm, tl⟩ = 5 := by unfold ndErr; simp only []; rw [if_neg Hn1.out, if_pos n2]
              rw [← Hg2.out, hz]; rfl)
            have b1 : Op.bytesLess last.toList nm.toList = false := by rw [nlt_bytes]; exact decide_eq_false n2
            rcases Decidable.em (nlt nm last) with n3 | n3
            · have b2 : Op.bytesLess nm.toList last.toList = true := by rw [nlt_bytes]; exact decide_eq_true n3
              clear n2 n3
              go_wp2_with fail
              go_ret
              rw [E.out]
              exact R1.mk rfl hb01
            · have b3 : (nm.toList == last.toList) = true := by rw [beq_iff_eq, nlt_tri n3 n2]
              have b2 : Op.bytesLess nm.toList last.toList = false := by rw [nlt_bytes]; exact decide_eq_false n3
              clear n2 n3
              go_wp2_with fail
              go_ret
              rw [E.out]
              exact R1.mk rfl hb01
      · obtain rfl : k = n := by omega
        have E := Lib.hid (show r = 0 by rw [← hg.out, List.drop_of_length_le (by rw [Hn.out]; exact Nat.le_refl _)]; rfl)
        go_wp2_with fail
        go_ret
        rw [E.out]
        exact R1.mk rfl hbr
end Go.Proofs.Ytmbpgenjjgepiaa
