/- Texts of the proof of HouseAcks, joined (by merge.py). Conditions: each theorem's own hypotheses. -/
import Derived.Test.YtihjgbhnlejhfaaGreatDoorHouseAcksP17
import Derived.Test.YtihjgbhnlejhfaaGreatDoorHouseAcksP19
import Derived.Test.YtihjgbhnlejhfaaGreatDoorHouseAcksP24
import Derived.Test.YtihjgbhnlejhfaaGreatDoorHouseAcksP27
import Derived.Sort.LotA
import Derived.Shelf.SlSortCmp.NoneTotal
namespace Go.Proofs.YtihjgbhnlejhfaaGreatDoor
open Go.RowKit Go.Sort

theorem places1_lays (blk off size : Nat) (w : World) : CmpLays Tryz.prog 121 #[] encP 2 cfP blk off size w := fun _ _ _ _ x y => places1_any x y _
theorem encP_one (x : Plc) : ∀ v ∈ encP x, v.oneCell' = true := by
  intro v hv
  simp [encP] at hv
  rcases hv with rfl | rfl <;> rfl
theorem sortC : SortC Tryz.prog := by
  intro w base A n c M hM hn hown hb
  rcases hown.2 with ⟨hv, hn0⟩ | ⟨g, cap, cur, hv, hbg, hgc, h1, h2, h3, h4⟩
  · injection hv with e1 e2 e3
    subst e1 hn0 e3
    obtain rfl : M = [] := List.length_eq_zero_iff.1 hM
    refine (AnyF.slices_SortFunc_none Tryz.laysSortP none 0 (.func (.func 121) #[] #[]) w).mono ?_
    rintro e w' ⟨rfl, rfl⟩
    exact ⟨rfl, by rw [show plcs [] = [] from List.length_eq_zero_iff.1 (plcs_len [])]; exact hown, Below.refl _ _⟩
  · injection hv with e1 e2 e3
    subst e1 e3
    have eg : ∀ args w, (callFunc 121 args).run Tryz.prog w = .ok (.enter 121 args) w := enters_of Tryz.func121 (by kernel_rfl) rfl
    have hH : HoldsK encP 2 w g 0 M.toArray := sortP_holds hM hgc h4
    have hcon := AnyQ.slices_SortFunc Tryz.laysSortP 2 Tryz.isAgg166 Tryz.sizeOf166 encP (fun _ => rfl) encP_one cfP swoP 121 #[] g 0 c M.toArray w eg (places1_lays g 0 _ w) hH (Array.getElem?_eq_some_iff.1 hgc).1 (by simp [hM]; omega)
    rw [List.size_toArray, hM] at hcon
    refine hcon.mono ?_
    rintro e w' ⟨rfl, d', q, os, hp, hs, rfl⟩
    have hu := sorted_unique_holds swoP totP M.toArray d' (by rw [List.size_toArray, hM]; exact hp) (by rw [List.size_toArray, hM]; exact hs)
    have hu : d' = (plcs M).toArray := by rw [← Array.toList_inj]; exact hu
    subst hu
    exact ⟨rfl, sortP_own (by rw [plcs_len, hM]) hbg hgc h1 h2 h3, sortP_below hbg hb⟩

theorem places_any (A : Option Addr) (n c : Nat) (L : List NodE) (hn : L.length = n) (hl : n ≤ 1000) (w : World) (h : Has w w.heap.size A (nodCs L)) (hL : ∀ e ∈ L, NodOk w e) (hs : ∀ e ∈ L, e.t.l.length ≤ 1000) :
    Calls Tryz.prog 98 #[.slice A n c] w (RV (PlcP L w)) := places_of sortC A n c L hn hl w h hL hs
end Go.Proofs.YtihjgbhnlejhfaaGreatDoor
namespace Go.Proofs.YtihjgbhnlejhfaaGreatDoor
open Go.RowKit Go.Sort

theorem elStrR : Elem Tryz.prog 104 9 1 16 := Elem.mk' (z := .string ⟨#[]⟩) Tryz.underlying104 (by kernel_rfl) rfl (by decide)
theorem strCs_len (l : List ByteArray) : (strCs l).length = l.length := by
  have := flat_len (f := strC) (C := 1) (fun _ => rfl) l
  rw [Nat.mul_one] at this
  exact this
theorem strCs_app1 (l : List ByteArray) (x : ByteArray) : strCs (l ++ [x]) = strCs l ++ (#[Value.string x] : Array Value).toList := by simp [strCs, strC]
/-- what Owners answers: its nodes, and a number of an error -/
def OwnersP (l : List Nod) (a : Nat) (m : Int) (w : World) (v : Value) (w' : World) : Prop :=
  ∃ A' n' c' o e, v = .tuple #[.slice A' n' c', .int .i64 e] ∧ n' = o.length ∧ w'.ownsRow w.heap.size 9 1 (.slice A' n' c') n' (strCs o) ∧ Below w.heap.size w w' ∧
    ((chkR l ≠ 0 ∧ e = chkR l ∧ o = []) ∨ (chkR l = 0 ∧ m < 0 ∧ e = 1 ∧ o = []) ∨ (chkR l = 0 ∧ 0 ≤ m ∧ e = 0 ∧ ∃ i, FallP (plcs (plAll l)) a i ∧ o = ownGo (plcs (plAll l)) i m.toNat (plAll l).length))

set_option maxRecDepth 1000000 in
set_option maxHeartbeats 8000000 in
theorem owners_any (A : Option Addr) (n c : Nat) (L : List NodE) (hn : L.length = n) (hl : n ≤ maxLen) (a : Nat) (m : Int) (w : World) (h : Has w w.heap.size A (nodCs L)) (hL : ∀ e ∈ L, NodOk w e)
    (h20 : chkR (L.map NodE.x) = 0 → n ≤ 1000 ∧ ∀ e ∈ L, e.t.l.length ≤ 1000) :
    Calls Tryz.prog 72 #[.slice A n c, .int .u64 (a : Nat), .int .i64 m] w (RV (OwnersP (L.map NodE.x) a m w)) := by
  have HC := Lib.hid (rcheckN_any A n c L hn hl w h hL)
  have Hn := Lib.hid hn
  have Hh := Lib.hid h
  have HL := Lib.hid hL
  by_cases hc : chkR (L.map NodE.x) = 0
  · obtain ⟨hl1, hs⟩ := h20 hc
    have Hs := Lib.hid hs
    have hC2 := HC.out
    rw [hc] at hC2
    have HC2 := Lib.hid hC2
    have Hc := Lib.hid hc
    clear h20 hs hC2 hn h hL hc HC
    by_cases h0 : m < 0
    · go_enter Tryz.func72, Tryz.ntmps72
      go_wp2_with fail
      refine HC2.out.mono ?_
      rintro e w1 ⟨rfl, hb1⟩
      go_wp2_with fail
      go_ret2
      exact RV.mk ⟨none, 0, 0, [], 1, rfl, rfl, ⟨rfl, .inl ⟨rfl, rfl⟩⟩, hb1, .inr (.inl ⟨Hc.out, h0, rfl, rfl⟩)⟩
    · have h0' : (0 : Int) ≤ m := by omega
      go_enter Tryz.func72, Tryz.ntmps72
      go_wp2_with fail
      refine HC2.out.mono ?_
      rintro e w1 ⟨rfl, hb1⟩
      go_wp2_with fail
      refine (places_any A n c L Hn.out hl1 w1 (Hh.out.next hb1) (fun e he => (HL.out e he).next hb1) Hs.out).mono ?_
      rintro e w2 ⟨v, rfl, A2, c2, p, rfl, hp, hown2, hb2⟩
      have hb12 := bnext hb1 hb2
      have hpl : (plcs (plAll (L.map NodE.x))).length = p := by rw [plcs_len, hp]
      obtain ⟨Q, hQ⟩ : ∃ Q, plcs (plAll (L.map NodE.x)) = Q := ⟨_, rfl⟩
      have hup := plcs_up (plAll (L.map NodE.x))
      rw [hQ] at hpl hown2 hup
      have hpb : p ≤ 1000000 := by
        have h1 := plAll_le (L.map NodE.x) (b := 1000) (fun x hx => by
          obtain ⟨e, he, rfl⟩ := List.mem_map.1 hx
          exact Hs.out e he)
        rw [List.length_map, Hn.out] at h1
        have := Nat.mul_le_mul_right 1000 hl1
        omega
      have HQ := Lib.hid hQ
      have Hp := Lib.hid hp
      have Hpl := Lib.hid hpl
      have Hown2 := Lib.hid hown2
      have Hb12 := Lib.hid hb12
      clear hp hQ hown2 hb12 hb1 hb2
      go_wp2_with fail
      refine (bsfP_any A2 p c2 Q Hpl.out (by omega) hup a w2 (Has.of_own Hown2.out)).mono ?_
      rintro e w3 ⟨v, rfl, ⟨i, b, rfl, hf⟩, hb3⟩
      have Hb3 := Lib.hid hb3
      have HR := Lib.hid ((Has.of_own Hown2.out).next hb3)
      have Hf := Lib.hid hf
      have hip : i ≤ p := by rw [← Hpl.out]; exact hf.1
      clear hb3 hf
      go_wp2_with fail
      go_loopw [12, 32] (fun ov kv wr => ∃ (k q : Nat) (O : Option Addr) (e : Nat), k ≤ p ∧ q ≤ k ∧ kv = .int .i64 (k : Nat) ∧ ov = .slice O q e ∧ Hid ((ownGo Q i m.toNat k).length = q) ∧ Hid (wr.ownsRow w3.heap.size 9 1 (.slice O q e) q (strCs (ownGo Q i m.toNat k))) ∧ Below w3.heap.size w3 wr) (fun _ kv _ => p + 5 - (intOf kv).toNat)
      case atStart => exact ⟨0, 0, none, 0, by omega, by omega, rfl, rfl, Lib.hid rfl, Lib.hid ⟨rfl, .inl ⟨rfl, rfl⟩⟩, Below.refl _ _⟩
      case round =>
        obtain ⟨k, q, O, e, hk, hqk, rfl, rfl, hq, hown, hbr⟩ := hrel
        have hbs := hbr.size
        by_cases hlt : (k : Int) < (p : Int)
        · obtain ⟨r, hr⟩ : ∃ r, (i + k) % p = r := ⟨_, rfl⟩
          have hrp : r < p := by rw [← hr]; exact Nat.mod_lt _ (by omega)
          have hrl : r < Q.length := by rw [Hpl.out]; exact hrp
          obtain ⟨bd, rfl, _, c1⟩ := (HR.out.next hbr).at (plcCs_1 hrl)
          obtain ⟨y, hy⟩ : ∃ y, (at_ Q r).nm = y := ⟨_, rfl⟩
          rw [hy] at c1
          have c1 := cell_off c1 (by decide)
          rw [← hr] at c1
          have hrq : ((i : Int) + (k : Int)) % (p : Int) < (p : Int) := Int.emod_lt_of_pos _ (by omega)
          have hrz : (0 : Int) ≤ ((i : Int) + (k : Int)) % (p : Int) := Int.emod_nonneg _ (by omega)
          have Hgo := Lib.hid (show ownGo Q i m.toNat (k + 1) = if (ownGo Q i m.toNat k).length < m.toNat ∧ hasS y (ownGo Q i m.toNat k) = false then ownGo Q i m.toNat k ++ [y] else ownGo Q i m.toNat k by
            simp only [ownGo]; rw [Hpl.out, hr, hy])
          obtain ⟨o, ho⟩ : ∃ o, ownGo Q i m.toNat k = o := ⟨_, rfl⟩
          rw [ho] at hq hown Hgo
          clear ho hy hr hrl
          have p0 : ((p : Int) == 0) = false := by rw [beq_eq_false_iff_ne]; omega
          have hown1 := hown.out
          have HCt := Lib.hid (containsS_any O q e o hq.out (by omega) y wr (Has.of_own hown1))
          have rel0 : ∀ o2, ownGo Q i m.toNat (k + 1) = o2 → o2 = o → Hid ((ownGo Q i m.toNat (k + 1)).length = q) ∧ Hid (wr.ownsRow w3.heap.size 9 1 (.slice O q e) q (strCs (ownGo Q i m.toNat (k + 1)))) := fun o2 e1 e2 => by
            rw [e1, e2]; exact ⟨hq, hown⟩
          by_cases hqm : (q : Int) < m
          · obtain ⟨hb, hhb⟩ : ∃ hb, hasS y o = hb := ⟨_, rfl⟩
            have hC := HCt.out
            rw [hhb] at hC
            have HC := Lib.hid hC
            clear hC HCt
            cases hb with
            | true =>
              have hr0 := rel0 _ Hgo.out (by rw [if_neg (fun g => by rw [hhb] at g; exact absurd g.2 (by decide))])
              clear hhb rel0 hown
              go_wp2_with ((refine HC.out.mono ?_; rintro e9 w9 ⟨rfl, hw9⟩; rw [hw9]))
              exact ⟨⟨k + 1, q, O, e, by omega, by omega, by go_num, rfl, hr0.1, hr0.2, hbr⟩, by simp [intOf]; omega⟩
            | false =>
              have hr0 : ownGo Q i m.toNat (k + 1) = o ++ [y] := by rw [Hgo.out, if_pos ⟨by rw [hq.out]; omega, hhb⟩]
              have Hr0 := Lib.hid hr0
              have h16 : (q + 1) * 16 ≤ 140737488355328 := by omega
              have h63 : q + 1 ≤ maxLen := by unfold maxLen; omega
              clear hhb rel0 hr0 hown
              go_wp2_with (first | (refine HC.out.mono ?_; rintro e9 w9 ⟨rfl, hw9⟩; rw [hw9]) | (at_builtin; refine wpList_append1 rfl _ _ _ rfl elStrR (v := .slice O q e) rfl hown1 rfl rfl rfl ?_ ?c1 ?c2 ?c3 ?c4; intro A5 c5 w5 hown5 hgrow5 hbel5))
              case c1 => rfl
              case c2 => exact h16
              case c3 => exact h63
              case c4 => exact hbs
              exact ⟨⟨k + 1, q + 1, A5, c5, by omega, by omega, by go_num, rfl, Lib.hid (by rw [Hr0.out, List.length_append, hq.out]; rfl), Lib.hid (by rw [Hr0.out, strCs_app1]; exact hown5), hbr.trans hbel5⟩, by simp [intOf]; omega⟩
          · have hr0 := rel0 _ Hgo.out (by rw [if_neg (fun g => hqm (by have := g.1; rw [hq.out] at this; omega))])
            clear rel0 hown HCt
            go_wp2_with fail
            exact ⟨⟨k + 1, q, O, e, by omega, by omega, by go_num, rfl, hr0.1, hr0.2, hbr⟩, by simp [intOf]; omega⟩
        · obtain rfl : k = p := by omega
          go_wp2_with fail
          go_ret2
          exact RV.mk ⟨O, q, e, _, 0, rfl, hq.out.symm, own_less hown.out (bnext Hb12.out Hb3.out).size, (bnext Hb12.out Hb3.out).trans (hbr.mono (bnext Hb12.out Hb3.out).size), .inr (.inr ⟨Hc.out, h0', rfl, i, by rw [HQ.out]; exact Hf.out, by rw [HQ.out, ← Hp.out]⟩)⟩
  · have hC2 := Lib.hid (bne_iff_ne.2 hc)
    obtain ⟨r, hr⟩ : ∃ r, chkR (L.map NodE.x) = r := ⟨_, rfl⟩
    have hC3 := HC.out
    rw [hr] at hC3 hc
    have HC3 := Lib.hid hC3
    have Hr := Lib.hid hr
    have hb : (r != 0) = true := bne_iff_ne.2 hc
    clear h20 hn h hL HC hC3 hC2 hr
    go_enter Tryz.func72, Tryz.ntmps72
    go_wp2_with fail
    refine HC3.out.mono ?_
    rintro e w1 ⟨rfl, hb1⟩
    go_wp2_with fail
    go_ret2
    exact RV.mk ⟨none, 0, 0, [], r, rfl, rfl, ⟨rfl, .inl ⟨rfl, rfl⟩⟩, hb1, .inl ⟨by rw [Hr.out]; exact hc, Hr.out.symm, rfl⟩⟩
end Go.Proofs.YtihjgbhnlejhfaaGreatDoor
namespace Go.Proofs.YtihjgbhnlejhfaaGreatDoor
open Go.RowKit Go.Sort

def ndA : Nod := ⟨⟨#[97]⟩, [5]⟩
theorem chk_ndA : chkR [ndA] = 0 := by
  have h1 : nlt noName (⟨#[97]⟩ : ByteArray) := nlt_noName (by intro h; have := congrArg ByteArray.size h; exact absurd this (by decide))
  have h2 : (⟨#[97]⟩ : ByteArray) ≠ noName := by intro h; have := congrArg ByteArray.size h; exact absurd this (by decide)
  have h3 : ¬ (20 < (⟨#[97]⟩ : ByteArray).size) := by decide
  simp [chkR, chkGo, ndErr, ndA, h1, h2, h3, orE, upT]
theorem own_ndA {i : Nat} (h : FallP (plcs (plAll [ndA])) 0 i) : ownGo (plcs (plAll [ndA])) i 1 (plAll [ndA]).length = [⟨#[97]⟩] := by
  have e1 : plAll [ndA] = [⟨5, ⟨#[97]⟩⟩] := rfl
  have e2 : plcs [(⟨5, ⟨#[97]⟩⟩ : Plc)] = [⟨5, ⟨#[97]⟩⟩] := List.mergeSort_singleton _
  rw [e1, e2] at h ⊢
  have h0 : i = 0 := by
    rcases Nat.eq_zero_or_pos i with g | g
    · exact g
    · exact absurd (h.2.1 0 g) (Nat.not_lt_zero _)
  subst h0
  simp [ownGo, hasS, at_]
end Go.Proofs.YtihjgbhnlejhfaaGreatDoor
namespace Go.Proofs.YtihjgbhnlejhfaaGreatDoor
open Go.RowKit Go.Sort

theorem nodOk_tk {w : World} {l : List NodE} (_hL : ∀ e ∈ l, NodOk w e) (h : chkR (l.map NodE.x) = 0) : l.length ≤ 1000 ∧ ∀ e ∈ l, e.t.l.length ≤ 1000 := by
  have h1 := chkR_iff.1 h
  have h2 := h1.1
  rw [List.length_map] at h2
  exact ⟨by omega, fun e he => by have h3 : e.t.l.length ≤ 20 := (h1.2.1 e.x (List.mem_map.2 ⟨e, he, rfl⟩)).2.2.1; omega⟩
/-- all owners of a number, in order -/
def ownAll (l : List Nod) (a : Nat) : List ByteArray := ownU (plcs (plAll l)) a
/-- what Owners answers, plainly -/
def OwnersQ (l : List Nod) (a : Nat) (m : Int) (w : World) (v : Value) (w' : World) : Prop :=
  ∃ A' n' c' o e, v = .tuple #[.slice A' n' c', .int .i64 e] ∧ n' = o.length ∧ w'.ownsRow w.heap.size 9 1 (.slice A' n' c') n' (strCs o) ∧ Below w.heap.size w w' ∧
    ((chkR l ≠ 0 ∧ e = chkR l ∧ o = []) ∨ (chkR l = 0 ∧ m < 0 ∧ e = 1 ∧ o = []) ∨ (chkR l = 0 ∧ 0 ≤ m ∧ e = 0 ∧ o = (ownAll l a).take m.toNat))
theorem ownersQ_any (A : Option Addr) (n c : Nat) (L : List NodE) (hn : L.length = n) (hl : n ≤ maxLen) (a : Nat) (m : Int) (w : World) (h : Has w w.heap.size A (nodCs L)) (hL : ∀ e ∈ L, NodOk w e) :
    Calls Tryz.prog 72 #[.slice A n c, .int .u64 (a : Nat), .int .i64 m] w (RV (OwnersQ (L.map NodE.x) a m w)) := by
  refine (owners_any A n c L hn hl a m w h hL (fun h0 => by have := nodOk_tk hL h0; rw [hn] at this; exact this)).mono ?_
  rintro e w' ⟨v, rfl, A', n', c', o, er, hv, hn', hown, hb, hc⟩
  refine RV.mk ⟨A', n', c', o, er, hv, hn', hown, hb, ?_⟩
  rcases hc with hc | hc | ⟨h1, h2, h3, i, hf, ho⟩
  · exact .inl hc
  · exact .inr (.inl hc)
  · exact .inr (.inr ⟨h1, h2, h3, by rw [ho]; exact ownGo_all hf _ _ (plcs_len _).symm⟩)
end Go.Proofs.YtihjgbhnlejhfaaGreatDoor
