/- Texts of the proof of HouseAcks, joined (by merge.py). Conditions: each theorem's own hypotheses. -/
import Derived.Test.YtihjgbhnlejhfaaGreatDoorHouseAcksP12
import Derived.Test.YtihjgbhnlejhfaaGreatDoorHouseAcksP15
import Derived.Deep.QuietTactic
namespace Go.Proofs.YtihjgbhnlejhfaaGreatDoor
open Go.RowKit

/-- tokens that rise, as far as the m-th step -/
def upT (l : List Nat) : Nat → Bool
  | 0 => true
  | m + 1 => upT l m && decide (at_ l m < at_ l (m + 1))
def noName : ByteArray := ⟨#[]⟩
def ndErr (last : ByteArray) (x : Nod) : Int :=
  if x.nm = noName ∨ 20 < x.nm.size then 4 else if ¬ nlt last x.nm then 5 else if 20 < x.tk.length then 2 else if upT x.tk (x.tk.length - 1) = false then 5 else 0
def orE (e r : Int) : Int := if e ≠ 0 then e else r
def chkGo : ByteArray → List Nod → Int
  | _, [] => 0
  | last, x :: l => orE (ndErr last x) (chkGo x.nm l)
def chkR (l : List Nod) : Int := if 20 < l.length then 2 else chkGo noName l
theorem upT_step {l : List Nat} {m : Nat} (h : upT l m = true) {k : Nat} (hk : k < m) : at_ l k < at_ l (k + 1) := by
  induction m with
  | zero => omega
  | succ m ih =>
    rw [upT, Bool.and_eq_true, decide_eq_true_eq] at h
    rcases Nat.lt_or_ge k m with g | g
    · exact ih h.1 g
    · obtain rfl : k = m := by omega
      exact h.2
theorem upT_all {l : List Nat} {m : Nat} (h : ∀ k, k < m → at_ l k < at_ l (k + 1)) : upT l m = true := by
  induction m with
  | zero => rfl
  | succ m ih => rw [upT, ih (fun k hk => h k (by omega)), decide_eq_true (h m (by omega))]; rfl
theorem empty_false {a : ByteArray} (h : a ≠ ⟨#[]⟩) : a.toList.isEmpty = false := by
  cases hl : a.toList with
  | nil => exact absurd (bytes_ext (by rw [hl, Lib.toList_data])) h
  | cons x l => rfl
def NodOk (w : World) (e : NodE) : Prop := e.t.ok w ∧ e.nm.size ≤ maxLen ∧ ∀ x ∈ e.t.l, x < 18446744073709551616
theorem NodOk.next {w w' : World} {e : NodE} (h : NodOk w e) (hb : Below w.heap.size w w') : NodOk w' e := ⟨h.1.next hb, h.2⟩
def lastN (L : List NodE) (k : Nat) : ByteArray := if k = 0 then noName else (at_ L (k - 1)).nm

set_option maxRecDepth 1000000 in
set_option maxHeartbeats 4000000 in
theorem rcheckN_any (A : Option Addr) (n c : Nat) (L : List NodE) (hn : L.length = n) (hl : n ≤ maxLen) (w : World) (h : Has w w.heap.size A (nodCs L)) (hL : ∀ e ∈ L, NodOk w e) :
    Calls Tryz.prog 24 #[.slice A n c] w (R1 (.int .i64 (chkR (L.map NodE.x))) (Below w.heap.size w)) := by
  unfold maxLen at hl
  have Hn := Lib.hid hn
  by_cases h20 : (20 : Int) < (n : Int)
  · have E := Lib.hid (show chkR (L.map NodE.x) = 2 by unfold chkR; rw [if_pos (by rw [List.length_map]; omega)])
    rw [E.out]
    clear hL h
    go_enter Tryz.func24, Tryz.ntmps24
    go_wp2_with fail
    go_ret
    exact R1.mk rfl (Below.refl _ _)
  · obtain ⟨r, hr⟩ : ∃ r, chkR (L.map NodE.x) = r := ⟨_, rfl⟩
    have hr0 : chkGo noName (L.map NodE.x) = r := by rw [← hr]; unfold chkR; rw [if_neg (by rw [List.length_map]; omega)]
    have HR := Lib.hid hr0
    rw [hr]
    have HL := Lib.hid hL
    have Hh := Lib.hid h
    clear hr hr0 hL h hn
    go_enter Tryz.func24, Tryz.ntmps24
    go_wp2_with fail
    go_loopw [3, 12] (fun lv iv wr => ∃ k : Nat, k ≤ n ∧ iv = .int .i64 (k : Nat) ∧ lv = .string (lastN L k) ∧ Hid (chkGo (lastN L k) ((L.drop k).map NodE.x) = r) ∧ Below w.heap.size w wr) (fun _ iv _ => n + 5 - (intOf iv).toNat)
    case atStart => exact ⟨0, by omega, rfl, rfl, HR, Below.refl _ _⟩
    case round =>
      obtain ⟨k, hk, rfl, rfl, hg, hbr⟩ := hrel
      have hbs := hbr.size
      by_cases hlt : (k : Int) < (n : Int)
      · have hkL : k < L.length := by rw [Hn.out]; omega
        obtain ⟨ad, rfl, _, c0⟩ := (Hh.out.next hbr).at (nodCs_0 hkL)
        obtain ⟨ad', e', _, c1⟩ := (Hh.out.next hbr).at (nodCs_1 hkL)
        injection e' with e'
        subst e'
        have c1 := cell_off c1 (by decide)
        obtain ⟨⟨o1, o2, o3, o4⟩, o5, o6⟩ := (HL.out _ (at_mem hkL)).next hbr
        have hd : L.drop k = at_ L k :: L.drop (k + 1) := by rw [at_eq hkL]; exact List.drop_eq_getElem_cons hkL
        have hlast : lastN L (k + 1) = (at_ L k).nm := by unfold lastN; rw [if_neg (by omega)]; rfl
        have hg2 := hg.out
        rw [hd, List.map_cons, chkGo] at hg2
        obtain ⟨x, hx⟩ : ∃ x, at_ L k = x := ⟨_, rfl⟩
        rw [hx] at c0 c1 o1 o2 o3 o4 o5 o6 hg2 hlast
        obtain ⟨nm, ⟨T, tc, tl⟩⟩ := x
        simp only [NodE.x] at c0 c1 o1 o2 o3 o4 o5 o6 hg2 hlast
        obtain ⟨p, hp⟩ : ∃ p, tl.length = p := ⟨_, rfl⟩
        rw [hp] at c1 o1
        obtain ⟨last, hla⟩ : ∃ last, lastN L k = last := ⟨_, rfl⟩
        rw [hla] at hg2 ⊢
        have Hg2 := Lib.hid hg2
        have Hlast := Lib.hid hlast
        have Hp := Lib.hid hp
        have hk1 : Blk (wr.alloc (.cells #[.string nm, .slice T p tc] 36)) wr.heap.size 36 #[.string nm, .slice T p tc] := Blk.new _ _ _
        have hb1 : Below wr.heap.size wr (wr.alloc (.cells #[.string nm, .slice T p tc] 36)) := (Below.refl _ _).alloc (Nat.le_refl _) _
        have hb01 := bnext hbr hb1
        have HT := Lib.hid (o4.next hb1)
        clear hg hg2 hlast hla hd hp o4 o3
        by_cases n1 : nm = noName ∨ 20 < nm.size
        · have E := Lib.hid (show r = 4 by
            have hz : ndErr last ⟨nm, tl⟩ = 4 := by unfold ndErr; simp only []; rw [if_pos n1]
            rw [← Hg2.out, hz]; rfl)
          rcases Decidable.em (nm = ⟨#[]⟩) with m1 | m1
          · subst m1
            clear n1
            go_wp2_with fail
            go_ret
            rw [E.out]
            exact R1.mk rfl hb01
          · have s20 : (20 : Int) < (nm.size : Int) := by rcases n1 with h | h; exact absurd h m1; omega
            have e0 : nm.toList.isEmpty = false := empty_false m1
            clear n1
            go_wp2_with fail
            go_ret
            rw [E.out]
            exact R1.mk rfl hb01
        · have e0 : nm.toList.isEmpty = false := empty_false (fun h => n1 (.inl h))
          have s20 : ¬ (20 : Int) < (nm.size : Int) := by have : ¬ 20 < nm.size := fun h => n1 (.inr h); omega
          have Hn1 := Lib.hid n1
          clear n1
          by_cases n2 : nlt last nm
          · have b1 : Op.bytesLess last.toList nm.toList = true := by rw [nlt_bytes]; exact decide_eq_true n2
            have b2 : Op.bytesLess nm.toList last.toList = false := by rw [nlt_bytes]; exact decide_eq_false (nlt_asymm n2)
            have b3 : (nm.toList == last.toList) = false := by rw [beq_eq_false_iff_ne]; intro h; exact nlt_irrefl nm (by have := n2; rw [bytes_ext h] at this ⊢; exact this)
            have Hn2 := Lib.hid n2
            clear n2
            by_cases n3 : 20 < p
            · have E := Lib.hid (show r = 2 by
                have hz : ndErr last ⟨nm, tl⟩ = 2 := by unfold ndErr; simp only []; rw [if_neg Hn1.out, if_neg (fun h => h Hn2.out), if_pos (by rw [Hp.out]; exact n3)]
                rw [← Hg2.out, hz]; rfl)
              have n3' : (20 : Int) < (p : Int) := by omega
              go_wp2_with fail
              go_ret
              rw [E.out]
              exact R1.mk rfl hb01
            · have n3' : ¬ (20 : Int) < (p : Int) := by omega
              go_wp2_with fail
              obtain ⟨W1, hW1⟩ : ∃ W1, wr.alloc (.cells #[.string nm, .slice T p tc] 36) = W1 := ⟨_, rfl⟩
              obtain ⟨g, hg⟩ : ∃ g, wr.heap.size = g := ⟨_, rfl⟩
              rw [hW1] at hk1 hb01 HT ⊢
              rw [hg] at hk1 ⊢
              clear hW1 hb1 hg c0 c1 hbs
              go_loopw [6] (fun jv wq => ∃ m z : Nat, m ≤ p ∧ jv = .int .i64 (z : Nat) ∧ Hid (z = m + 1) ∧ Hid (upT tl m = true) ∧ Drawn W1 wq) (fun jv _ => p + 5 - (intOf jv).toNat)
              case atStart => exact ⟨0, 1, by omega, rfl, Lib.hid rfl, Lib.hid rfl, Drawn.refl _⟩
              case round =>
                obtain ⟨m, z, hm, rfl, hz1, hup, nd, rfl⟩ := hrel
                have hz2 : m < z ∧ z ≤ m + 1 := by have := hz1.out; omega
                have y0 : W1.cell? ⟨g, 0, none⟩ = some (.string nm) := hk1.cell 0
                have y1 : W1.cell? ⟨g, 1, none⟩ = some (.slice T p tc) := hk1.cell 1
                by_cases hlt2 : (z : Int) < (p : Int)
                · obtain ⟨bd, rfl, _, d1⟩ := HT.out.at (u64s_at (show m < tl.length by rw [Hp.out]; omega))
                  obtain ⟨bd', e2, _, d2⟩ := HT.out.at (u64s_at (show z < tl.length by rw [Hp.out]; omega))
                  injection e2 with e2
                  subst e2
                  obtain ⟨a1, ha1⟩ : ∃ a1, at_ tl m = a1 := ⟨_, rfl⟩
                  obtain ⟨a2, ha2⟩ : ∃ a2, at_ tl z = a2 := ⟨_, rfl⟩
                  rw [ha1] at d1
                  rw [ha2] at d2
                  have Ha1 := Lib.hid ha1
                  have Ha2 := Lib.hid ha2
                  clear ha1 ha2
                  go_wp2_with fail
                  have e1 : IntKind.i64.wrap ((z : Int) - 1) = (m : Int) := (IntWalk.i64_in _ (by omega)).trans (by omega)
                  have q0 : (0 : Int) ≤ (m : Int) := by omega
                  have q1 : (0 : Int) ≤ (z : Int) := by omega
                  have q2 : (m : Int) < (p : Int) := by omega
                  by_cases ht : a1 < a2
                  · have ht' : ¬ (a2 : Int) ≤ (a1 : Int) := by omega
                    go_quiet (fail)
                    clear e1 q0 q1 q2
                    go_wp2_with fail
                    go_roundw
                    case rel => exact ⟨m + 1, z + 1, by omega, by go_num, Lib.hid (by rw [hz1.out]), Lib.hid (by rw [upT, hup.out, Ha1.out, ← hz1.out, Ha2.out, decide_eq_true ht]; rfl), _, rfl⟩
                    case measure => simp [intOf]; omega
                  · have ht' : (a2 : Int) ≤ (a1 : Int) := by omega
                    have E := Lib.hid (show r = 5 by
                      have : upT tl (p - 1) = false := by
                        rw [← Bool.not_eq_true]; intro h
                        have := upT_step h (k := m) (by omega)
                        rw [Ha1.out, ← hz1.out, Ha2.out] at this
                        exact ht this
                      have hz : ndErr last ⟨nm, tl⟩ = 5 := by unfold ndErr; simp only []; rw [if_neg Hn1.out, if_neg (fun h => h Hn2.out), if_neg (by rw [Hp.out]; exact n3), Hp.out, if_pos this]
                      rw [← Hg2.out, hz]; rfl)
                    go_quiet (fail)
                    clear e1 q0 q1 q2
                    go_wp2_with fail
                    go_ret
                    rw [E.out]
                    exact R1.mk rfl (below_drewN (below_drewN hb01 _) _)
                · have hg3 := Hg2.out
                  have hup2 : upT tl (p - 1) = true := upT_all (fun k hk => upT_step hup.out (by omega))
                  have hz : ndErr last ⟨nm, tl⟩ = 0 := by
                    unfold ndErr; simp only []
                    rw [if_neg Hn1.out, if_neg (fun h => h Hn2.out), if_neg (by rw [Hp.out]; exact n3), Hp.out, if_neg (by rw [hup2]; decide)]
                  rw [hz] at hg3
                  have hg3 : chkGo nm (List.map NodE.x (List.drop (k + 1) L)) = r := hg3
                  have Hg3 := Lib.hid hg3
                  clear hg3 hup2 hz
                  go_wp2_with fail
                  go_roundw
                  case rel => exact ⟨k + 1, by omega, by go_num, by rw [Hlast.out], Lib.hid (by rw [Hlast.out]; exact Hg3.out), below_drewN hb01 _⟩
                  case measure => simp [intOf]; omega
          · have E := Lib.hid (show r = 5 by
              have hz : ndErr last ⟨nm, tl⟩ = 5 := by unfold ndErr; simp only []; rw [if_neg Hn1.out, if_pos n2]
              rw [← Hg2.out, hz]; rfl)
            have b1 : Op.bytesLess last.toList nm.toList = false := by rw [nlt_bytes]; exact decide_eq_false n2
            rcases Decidable.em (nlt nm last) with n3 | n3
            · have b2 : Op.bytesLess nm.toList last.toList = true := by rw [nlt_bytes]; exact decide_eq_true n3
              clear n2 n3
              go_wp2_with fail
              go_ret
              rw [E.out]
              exact R1.mk rfl hb01
            · have b3 : (nm.toList == last.toList) = true := by rw [beq_iff_eq, nlt_tri n3 n2]
              have b2 : Op.bytesLess nm.toList last.toList = false := by rw [nlt_bytes]; exact decide_eq_false n3
              clear n2 n3
              go_wp2_with fail
              go_ret
              rw [E.out]
              exact R1.mk rfl hb01
      · obtain rfl : k = n := by omega
        have E := Lib.hid (show r = 0 by rw [← hg.out, List.drop_of_length_le (by rw [Hn.out]; exact Nat.le_refl _)]; rfl)
        go_wp2_with fail
        go_ret
        rw [E.out]
        exact R1.mk rfl hbr
end Go.Proofs.YtihjgbhnlejhfaaGreatDoor
namespace Go.Proofs.YtihjgbhnlejhfaaGreatDoor
open Go.RowKit

theorem strCsI_at {l : List ByteArray} {k : Nat} (h : k < l.length) : (strCs l)[k]? = some (.string (at_ l k)) := by
  have := flat_at (f := strC) (C := 1) (fun _ => rfl) h (r := 0) (by decide)
  rw [Nat.mul_one, Nat.add_zero] at this
  exact this
def hasS (x : ByteArray) (l : List ByteArray) : Bool := l.any fun y => decide (x = y)
theorem hasS_iff (x : ByteArray) (l : List ByteArray) : hasS x l = true ↔ x ∈ l := by simp [hasS]

set_option maxRecDepth 1000000 in
set_option maxHeartbeats 4000000 in
theorem indexS_any (A : Option Addr) (n c : Nat) (l : List ByteArray) (hn : l.length = n) (hl : n ≤ 9223372036854775807) (x : ByteArray) (w : World) (h : Has w w.heap.size A (strCs l)) :
    Calls Tryz.prog 125 #[.slice A n c, .string x] w (RV fun v w' => (∃ i : Int, v = .int .i64 i ∧ (0 ≤ i ↔ x ∈ l) ∧ i ≤ n ∧ (0 ≤ i → i < n ∧ at_ l i.toNat = x)) ∧ w' = w) := by
  have Hn := Lib.hid hn; clear hn
  go_enter Tryz.func125, Tryz.ntmps125
  go_wp2_with fail
  go_loopw [8] (fun a wr => ∃ i : Nat, i ≤ n ∧ a = .int .i64 (i : Nat) ∧ Hid (x ∉ l.take i) ∧ wr = w) (fun a _ => n + 5 - (intOf a).toNat)
  case atStart => exact ⟨0, by omega, rfl, Lib.hid (by simp), rfl⟩
  case round =>
    obtain ⟨i, hi, rfl, hq, rfl⟩ := hrel
    by_cases hlt : (i : Int) < (n : Int)
    · have hil : i < l.length := by rw [Hn.out]; omega
      obtain ⟨ad, rfl, had, c0⟩ := h.at (strCsI_at hil)
      have ht := Lib.hid (take_at (l := l) (k := i) hil)
      have hmem := Lib.hid (at_mem hil)
      obtain ⟨y, hy⟩ : ∃ y, at_ l i = y := ⟨_, rfl⟩
      rw [hy] at c0 ht hmem
      have Hy := Lib.hid hy
      clear hy hil
      by_cases e : x = y
      · subst e
        have E := Lib.hid (show (0 ≤ (i : Int) ↔ x ∈ l) from ⟨fun _ => hmem.out, fun _ => by omega⟩)
        have hb : (x.toList == x.toList) = true := by rw [beq_iff_eq]
        go_wp2_with fail
        go_ret
        exact RV.mk ⟨⟨i, rfl, E.out, by omega, fun _ => ⟨hlt, by rw [Int.toNat_natCast]; exact Hy.out⟩⟩, rfl⟩
      · have hb : (x.toList == y.toList) = false := by rw [beq_eq_false_iff_ne]; exact fun g => e (bytes_ext g)
        have E := Lib.hid (show x ∉ l.take (i + 1) by rw [ht.out, List.mem_append, List.mem_singleton]; exact fun g => g.elim hq.out e)
        clear e
        go_wp2_with fail
        go_roundw
        case rel => exact ⟨i + 1, by omega, by go_num, E, (by first | rfl | trivial)⟩
        case measure => simp [intOf]; omega
    · obtain rfl : i = n := by omega
      have E := Lib.hid (show (0 ≤ (-1 : Int) ↔ x ∈ l) from ⟨fun g => absurd g (by decide), fun g => absurd (by rw [← Hn.out, List.take_length]; exact g) hq.out⟩)
      go_wp2_with fail
      go_ret
      exact RV.mk ⟨⟨-1, rfl, E.out, by omega, fun g => absurd g (by decide)⟩, rfl⟩
set_option maxRecDepth 1000000 in
theorem containsS_any (A : Option Addr) (n c : Nat) (l : List ByteArray) (hn : l.length = n) (hl : n ≤ 9223372036854775807) (x : ByteArray) (w : World) (h : Has w w.heap.size A (strCs l)) :
    Calls Tryz.prog 101 #[.slice A n c, .string x] w (R1 (.bool (hasS x l)) (fun w' => w' = w)) := by
  have hi := Lib.hid (indexS_any A n c l hn hl x w h)
  clear h hn
  go_enter Tryz.func101, Tryz.ntmps101
  go_wp2_with fail
  refine hi.out.mono ?_
  rintro e w1 ⟨v, rfl, ⟨i, rfl, hx, hin, _⟩, hw⟩
  rw [hw]
  have E := Lib.hid (show decide (i ≥ 0) = hasS x l by
    by_cases h0 : (0 : Int) ≤ i
    · rw [(hasS_iff x l).2 (hx.1 h0)]; exact decide_eq_true h0
    · rw [Bool.eq_false_iff.2 (fun g => h0 (hx.2 ((hasS_iff x l).1 g)))]; exact decide_eq_false h0)
  go_wp2_with fail
  go_ret
  exact R1.mk (congrArg Value.bool E.out) rfl
end Go.Proofs.YtihjgbhnlejhfaaGreatDoor
namespace Go.Proofs.YtihjgbhnlejhfaaGreatDoor
open Go.RowKit

theorem name_eq (a b : ByteArray) : (a.toList == b.toList) = decide (a = b) := by
  by_cases h : a = b
  · rw [h, decide_eq_true rfl, beq_iff_eq]
  · rw [decide_eq_false h, beq_eq_false_iff_ne]; exact fun e => h (bytes_ext e)

set_option maxRecDepth 1000000 in
set_option maxHeartbeats 1000000 in
theorem find1_any (nm name : ByteArray) (T : Option Addr) (p tc b : Nat) (w : World) (hb : w.cell? ⟨b, 0, none⟩ = some (.string name)) :
    Calls Tryz.prog 78 #[.agg #[.string nm, .slice T p tc], .pointer (some ⟨b, 0, none⟩)] w (R1 (.bool (decide (nm = name))) (Below w.heap.size w)) := by
  have e := Lib.hid (name_eq nm name)
  have hlt : b < w.heap.size := World.block_lt_of_cell? w ⟨b, 0, none⟩ hb
  have hne : b ≠ w.heap.size := by omega
  have hne2 : w.heap.size ≠ b := by omega
  go_enter Tryz.func78, Tryz.ntmps78
  go_wp2_with fail
  go_ret
  exact R1.mk (by first | (rw [← e.out]; done) | (simp [e.out]) | (rw [← e.out]; rfl)) ((Below.refl _ _).alloc (Nat.le_refl _) _)

/-- where a node of a name stands first -/
def FindP (L : List NodE) (name : ByteArray) (v : Value) : Prop :=
  (∃ i : Nat, v = .int .i64 (i : Nat) ∧ i < L.length ∧ (at_ L i).nm = name ∧ ∀ q, q < i → (at_ L q).nm ≠ name) ∨ (v = .int .i64 (-1) ∧ ∀ q, q < L.length → (at_ L q).nm ≠ name)

set_option maxRecDepth 1000000 in
set_option maxHeartbeats 4000000 in
theorem indexNode_any (A : Option Addr) (n c : Nat) (L : List NodE) (hn : L.length = n) (hl : n ≤ maxLen) (name : ByteArray) (b : Nat) (w : World) (h : Has w w.heap.size A (nodCs L)) (hb : w.cell? ⟨b, 0, none⟩ = some (.string name)) :
    Calls Tryz.prog 77 #[.slice A n c, .func (.func 78) #[] #[.pointer (some ⟨b, 0, none⟩)]] w (RV fun v w' => FindP L name v ∧ Below w.heap.size w w') := by
  unfold maxLen at hl
  have Hn := Lib.hid hn
  have Hh := Lib.hid h
  have Hb := Lib.hid hb
  have hblt : b < w.heap.size := World.block_lt_of_cell? w ⟨b, 0, none⟩ hb
  clear hn h hb
  go_enter Tryz.func77, Tryz.ntmps77
  go_wp2_with fail
  go_loopw [8] (fun iv wr => ∃ k : Nat, k ≤ n ∧ iv = .int .i64 (k : Nat) ∧ Hid (∀ q, q < k → (at_ L q).nm ≠ name) ∧ Below w.heap.size w wr) (fun iv _ => n + 5 - (intOf iv).toNat)
  case atStart => exact ⟨0, by omega, rfl, Lib.hid (fun q hq => by omega), Below.refl _ _⟩
  case round =>
    obtain ⟨k, hk, rfl, hq, hbr⟩ := hrel
    by_cases hlt : (k : Int) < (n : Int)
    · have hkL : k < L.length := by rw [Hn.out]; omega
      obtain ⟨ad, rfl, _, c0⟩ := (Hh.out.next hbr).at (nodCs_0 hkL)
      obtain ⟨ad', e', _, c1⟩ := (Hh.out.next hbr).at (nodCs_1 hkL)
      injection e' with e'
      subst e'
      have c1 := cell_off c1 (by decide)
      obtain ⟨x, hx⟩ : ∃ x, at_ L k = x := ⟨_, rfl⟩
      rw [hx] at c0 c1
      obtain ⟨nm, ⟨T, tc, tl⟩⟩ := x
      simp only [] at c0 c1
      have Hx := Lib.hid hx
      have h0k : (0 : Int) ≤ (k : Int) := by omega
      have HF := Lib.hid (find1_any nm name T tl.length tc b wr ((hbr.cell (p := ⟨b, 0, none⟩) hblt).trans Hb.out))
      have hbs := hbr.size
      clear hx
      go_wp2_with fail
      refine HF.out.mono ?_
      rintro e9 w2 ⟨rfl, hb2⟩
      have hb02 := hbr.trans (hb2.mono hbs)
      by_cases hnm : nm = name
      · have HP := Lib.hid (show FindP L name (.int .i64 (k : Nat)) from .inl ⟨k, rfl, hkL, by rw [Hx.out]; exact hnm, hq.out⟩)
        have hd : decide (nm = name) = true := decide_eq_true hnm
        clear hnm
        rw [hd]
        go_wp2_with fail
        go_ret
        exact RV.mk ⟨HP.out, hb02⟩
      · have hd : decide (nm = name) = false := decide_eq_false hnm
        have Hnm := Lib.hid hnm
        clear hnm
        rw [hd]
        go_wp2_with fail
        go_roundw
        case rel => exact ⟨k + 1, by omega, by go_num, Lib.hid (fun q hq2 => by
          rcases Nat.lt_or_ge q k with g | g
          · exact hq.out q g
          · obtain rfl : q = k := by omega
            rw [Hx.out]; exact Hnm.out), hb02⟩
        case measure => simp [intOf]; omega
    · obtain rfl : k = n := by omega
      have HP := Lib.hid (show FindP L name (.int .i64 (-1)) from .inr ⟨rfl, fun q hq2 => hq.out q (by rw [← Hn.out]; exact hq2)⟩)
      go_wp2_with fail
      go_ret
      exact RV.mk ⟨HP.out, hbr⟩

set_option maxRecDepth 1000000 in
set_option maxHeartbeats 1000000 in
theorem find_any (A : Option Addr) (n c : Nat) (L : List NodE) (hn : L.length = n) (hl : n ≤ maxLen) (name : ByteArray) (w : World) (h : Has w w.heap.size A (nodCs L)) :
    Calls Tryz.prog 45 #[.slice A n c, .string name] w (RV fun v w' => FindP L name v ∧ Below w.heap.size w w') := by
  have hb1 : Below w.heap.size w (w.alloc (.cells #[.string name] 9)) := (Below.refl _ _).alloc (Nat.le_refl _) _
  have hk1 : Blk (w.alloc (.cells #[.string name] 9)) w.heap.size 9 #[.string name] := Blk.new _ _ _
  have HI := Lib.hid (indexNode_any A n c L hn hl name w.heap.size _ (h.next hb1) (hk1.cell 0))
  clear hn h hk1
  go_enter Tryz.func45, Tryz.ntmps45
  go_wp2_with fail
  refine HI.out.mono ?_
  rintro e9 w2 ⟨v, rfl, hp, hb2⟩
  have HP := Lib.hid hp
  clear hp
  go_wp2_with fail
  go_ret
  exact RV.mk ⟨HP.out, bnext hb1 hb2⟩
end Go.Proofs.YtihjgbhnlejhfaaGreatDoor
namespace Go.Proofs.YtihjgbhnlejhfaaGreatDoor
open Go.RowKit

theorem eq_at_S {l m : List ByteArray} (hl : l.length = m.length) (h : ∀ i, i < l.length → at_ l i = at_ m i) : l = m := by
  apply List.ext_getElem hl
  intro i h1 h2
  have := h i h1
  rwa [at_eq h1, at_eq h2] at this
theorem nameS_eq (a b : ByteArray) : (a.toList == b.toList) = decide (a = b) := by
  by_cases h : a = b
  · rw [h, decide_eq_true rfl, beq_iff_eq]
  · rw [decide_eq_false h, beq_eq_false_iff_ne]; exact fun e => h (bytes_ext e)

end Go.Proofs.YtihjgbhnlejhfaaGreatDoor
namespace Go.Proofs.YtihjgbhnlejhfaaGreatDoor
open Go.RowKit Go.ChangeShapes Go.WideShapes Go.Deep

theorem flat_u64N (l : List Nat) : l.flatMap (fun n : Nat => [Value.int .u64 n]) = u64s l := by
  induction l with
  | nil => rfl
  | cons b l ih => rw [List.flatMap_cons, ih]; rfl
section
variable {H : Type} {enc : TypeId × Value → H} {P : Program} {w : World} {base : Nat} {spare : Nat → Bool} {held : Bool}
theorem elem_u64N {e : TypeId} (he : P.underlying e = some (.int .u64)) : ∀ n cs x, cs.length = 1 → DataW.trod enc P w base spare held n e cs = some x → ∃ el : Nat, cs = [Value.int .u64 (el : Int)] ∧ el < 18446744073709551616 := by
  intro n cs x _ h
  obtain ⟨m, rfl, _, hw⟩ := DataW.trod_int he h
  have hb := bounds_u64 hw
  obtain ⟨q, rfl⟩ := Int.eq_ofNat_of_zero_le hb.1
  exact ⟨q, rfl, by omega⟩
theorem elem_rowN {t e : TypeId} (ht : P.underlying t = some (.slice e)) (he : P.underlying e = some (.int .u64)) (hC : P.cellsOf e = 1) {n : Nat} {cs : List Value} {x : DataW H × List MemPlace} (h : DataW.trod enc P w base spare held n t cs = some x) :
    ∃ r : Row, cs = [.slice r.A r.l.length r.c] ∧ r.ok w ∧ ∀ x ∈ r.l, x < 18446744073709551616 := by
  obtain ⟨A, c, l, h1, h2, h3, h4, h5, h6, _⟩ := open_cells (fun n : Nat => [Value.int .u64 n]) _ ht hC (by omega) (fun _ => rfl) (elem_u64N he) h
  exact ⟨⟨A, c, l⟩, h1, ⟨h3, h4, h5, by rw [← flat_u64N]; exact h6⟩, h2⟩
theorem list2N {α : Type} {l : List α} (h : l.length = 2) : ∃ a b, l = [a, b] := by
  match l, h with
  | [a, b], _ => exact ⟨a, b, rfl⟩
theorem elem_node {t eu : TypeId} {g0 g1 : Field} (hn : P.underlying t = some (.struct #[g0, g1])) (i0 : P.underlying g0.type = some .string) (i1 : P.underlying g1.type = some (.slice eu)) (hu : P.underlying eu = some (.int .u64))
    (o : (g0.offset, g1.offset) = (0, 1)) (c : (P.cellsOf g0.type, P.cellsOf g1.type, P.cellsOf eu) = (1, 1, 1)) :
    ∀ n cs x, cs.length = 2 → DataW.trod enc P w base spare held n t cs = some x → ∃ el : NodE, cs = nodC el ∧ NodOk w el := by
  intro n cs x hl h
  obtain ⟨p0, p1⟩ : g0.offset = 0 ∧ g1.offset = 1 := by simpa using o
  obtain ⟨d0, d1, d2⟩ : P.cellsOf g0.type = 1 ∧ P.cellsOf g1.type = 1 ∧ P.cellsOf eu = 1 := by simpa using c
  obtain ⟨v2, v3, rfl⟩ := list2N hl
  obtain ⟨zs, q, _, _, _, hzl, hgg⟩ := DataW.trod_struct hn h
  match zs, hzl with
  | [z0, z1], _ =>
    have u0 := hgg 0 g0 rfl
    have u1 := hgg 1 g1 rfl
    rw [p0, d0] at u0
    rw [p1, d1] at u1
    have u0 : DataW.trod enc P w base spare held q g0.type [v2] = some z0 := u0
    have u1 : DataW.trod enc P w base spare held q g1.type [v3] = some z1 := u1
    obtain ⟨s, e2, _, w2⟩ := DataW.trod_string i0 u0
    obtain ⟨r, e3, w3, w4⟩ := elem_rowN i1 hu d2 u1
    injection e2 with e2
    injection e3 with e3
    subst e2 e3
    exact ⟨⟨s, r⟩, rfl, w3, w2, w4⟩
theorem open_node {t eu : TypeId} {g0 g1 : Field} (hn : P.underlying t = some (.struct #[g0, g1])) (i0 : P.underlying g0.type = some .string) (i1 : P.underlying g1.type = some (.slice eu)) (hu : P.underlying eu = some (.int .u64))
    (o : (g0.offset, g1.offset) = (0, 1)) (c : (P.cellsOf g0.type, P.cellsOf g1.type, P.cellsOf eu) = (1, 1, 1)) (hC : P.cellsOf t = 2)
    {r : Reach} {b0 : Nat} {v : Value} {d : DataW H} {p : List MemPlace} (hval : Value.okWide P w r b0 t v) (h : DataW.Trod enc P w base spare held t v d p) :
    ∃ (a : ByteArray) (x : Row), v = .agg #[.string a, .slice x.A x.l.length x.c] ∧ NodOk w ⟨a, x⟩ := by
  obtain ⟨cs, rfl, hsz⟩ := okWide_struct hn hval
  obtain ⟨fuel, hf⟩ := h
  obtain ⟨l⟩ := cs
  obtain ⟨e, h2, h3⟩ := elem_node hn i0 i1 hu o c fuel _ _ (by exact hsz.trans hC) hf
  have h2 : l = nodC e := h2
  subst h2
  exact ⟨e.nm, e.t, rfl, h3⟩
theorem open_nodes {lt t eu : TypeId} {g0 g1 : Field} (ht : P.underlying lt = some (.slice t)) (hn : P.underlying t = some (.struct #[g0, g1])) (i0 : P.underlying g0.type = some .string) (i1 : P.underlying g1.type = some (.slice eu)) (hu : P.underlying eu = some (.int .u64))
    (o : (g0.offset, g1.offset) = (0, 1)) (c : (P.cellsOf g0.type, P.cellsOf g1.type, P.cellsOf eu) = (1, 1, 1)) (hC : P.cellsOf t = 2) (hB : P.bytesOf t = 40)
    {r : Reach} {b0 : Nat} {v : Value} {d : DataW H} {p : List MemPlace} (hval : Value.okWide P w r b0 lt v) (h : DataW.Trod enc P w base spare held lt v d p) (hsz : ∀ n ∈ d.weights P lt, n ≤ reachBytes) :
    ∃ (A : Option Addr) (k : Nat) (l : List NodE), v = .slice A l.length k ∧ (∀ e ∈ l, NodOk w e) ∧ l.length ≤ k ∧ k ≤ maxLen ∧ (A = none → k = 0) ∧ Has w w.heap.size A (nodCs l) ∧ l.length * 40 ≤ 140737488351232 :=
  open_list nodC (fun e => NodOk w e) ht hC hB (by omega) (fun _ => rfl) (elem_node hn i0 i1 hu o c) hval h hsz
end
end Go.Proofs.YtihjgbhnlejhfaaGreatDoor
