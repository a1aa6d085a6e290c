/- What Owners of package ring answers. Conditions: nodes lie in their cells, and are not many. -/
import Derived.Test.YtmbpgenjjgepiaaRgSortC
import Derived.Test.YtmbpgenjjgepiaaRgUp
namespace Go.Proofs.Ytmbpgenjjgepiaa
open Go.RowKit Go.Sort

theorem elStrR : Elem Try.prog 25 9 1 16 := Elem.mk' (z := .string ⟨#[]⟩) Try.underlying25 (by kernel_rfl) rfl (by decide)
theorem strCs_len (l : List ByteArray) : (strCs l).length = l.length := by
  have := flat_len (f := strC) (C := 1) (fun _ => rfl) l
  rw [Nat.mul_one] at this
  exact this
theorem strCs_app1 (l : List ByteArray) (x : ByteArray) : strCs (l ++ [x]) = strCs l ++ (#[Value.string x] : Array Value).toList := by simp [strCs, strC]
/-- what Owners answers: its nodes, and a number of an error -/
def OwnersP (l : List Nod) (a : Nat) (m : Int) (w : World) (v : Value) (w' : World) : Prop :=
  ∃ A' n' c' o e, v = .tuple #[.slice A' n' c', .int .i64 e] ∧ n' = o.length ∧ w'.ownsRow w.heap.size 9 1 (.slice A' n' c') n' (strCs o) ∧ Below w.heap.size w w' ∧
    ((chkR l ≠ 0 ∧ e = chkR l ∧ o = []) ∨ (chkR l = 0 ∧ m < 0 ∧ e = 1 ∧ o = []) ∨ (chkR l = 0 ∧ 0 ≤ m ∧ e = 0 ∧ ∃ i, FallP (plcs (plAll l)) a i ∧ o = ownGo (plcs (plAll l)) i m.toNat (plAll l).length))

set_option maxRecDepth 1000000 in
set_option maxHeartbeats 8000000 in
theorem owners_any (A : Option Addr) (n c : Nat) (L : List NodE) (hn : L.length = n) (hl : n ≤ maxLen) (a : Nat) (m : Int) (w : World) (h : Has w w.heap.size A (nodCs L)) (hL : ∀ e ∈ L, NodOk w e)
    (h20 : chkR (L.map NodE.x) = 0 → n ≤ 1000 ∧ ∀ e ∈ L, e.t.l.length ≤ 1000) :
    Calls Try.prog 9 #[.slice A n c, .int .u64 (a : Nat), .int .i64 m] w (RV (OwnersP (L.map NodE.x) a m w)) := by
  have HC := Lib.hid (rcheckN_any A n c L hn hl w h hL)
  have Hn := Lib.hid hn
  have Hh := Lib.hid h
  have HL := Lib.hid hL
  by_cases hc : chkR (L.map NodE.x) = 0
  · obtain ⟨hl1, hs⟩ := h20 hc
    have Hs := Lib.hid hs
    have hC2 := HC.out
    rw [hc] at hC2
    have HC2 := Lib.hid hC2
    have Hc := Lib.hid hc
    clear h20 hs hC2 hn h hL hc HC
    by_cases h0 : m < 0
    · go_enter Try.func9, Try.ntmps9
      go_wp2_with fail
      refine HC2.out.mono ?_
      rintro e w1 ⟨rfl, hb1⟩
      go_wp2_with fail
      go_ret2
      exact RV.mk ⟨none, 0, 0, [], 1, rfl, rfl, ⟨rfl, .inl ⟨rfl, rfl⟩⟩, hb1, .inr (.inl ⟨Hc.out, h0, rfl, rfl⟩)⟩
    · have h0' : (0 : Int) ≤ m := by omega
      go_enter Try.func9, Try.ntmps9
      go_wp2_with fail
      refine HC2.out.mono ?_
      rintro e w1 ⟨rfl, hb1⟩
      go_wp2_with fail
      refine (places_any A n c L Hn.out hl1 w1 (Hh.out.next hb1) (fun e he => (HL.out e he).next hb1) Hs.out).mono ?_
      rintro e w2 ⟨v, rfl, A2, c2, p, rfl, hp, hown2, hb2⟩
      have hb12 := bnext hb1 hb2
      have hpl : (plcs (plAll (L.map NodE.x))).length = p := by rw [plcs_len, hp]
      obtain ⟨Q, hQ⟩ : ∃ Q, plcs (plAll (L.map NodE.x)) = Q := ⟨_, rfl⟩
      have hup := plcs_up (plAll (L.map NodE.x))
      rw [hQ] at hpl hown2 hup
      have hpb : p ≤ 1000000 := by
        have h1 := plAll_le (L.map NodE.x) (b := 1000) (fun x hx => by
          obtain ⟨e, he, rfl⟩ := List.mem_map.1 hx
          exact Hs.out e he)
        rw [List.length_map, Hn.out] at h1
        have := Nat.mul_le_mul_right 1000 hl1
        omega
      have HQ := Lib.hid hQ
      have Hp := Lib.hid hp
      have Hpl := Lib.hid hpl
      have Hown2 := Lib.hid hown2
      have Hb12 := Lib.hid hb12
      clear hp hQ hown2 hb12 hb1 hb2
      go_wp2_with fail
      refine (bsfP_any A2 p c2 Q Hpl.out (by omega) hup a w2 (Has.of_own Hown2.out)).mono ?_
      rintro e w3 ⟨v, rfl, ⟨i, b, rfl, hf⟩, hb3⟩
      have Hb3 := Lib.hid hb3
      have HR := Lib.hid ((Has.of_own Hown2.out).next hb3)
      have Hf := Lib.hid hf
      have hip : i ≤ p := by rw [← Hpl.out]; exact hf.1
      clear hb3 hf
      go_wp2_with fail
      go_loopw [12, 32] (fun ov kv wr => ∃ (k q : Nat) (O : Option Addr) (e : Nat), k ≤ p ∧ q ≤ k ∧ kv = .int .i64 (k : Nat) ∧ ov = .slice O q e ∧ Hid ((ownGo Q i m.toNat k).length = q) ∧ Hid (wr.ownsRow w3.heap.size 9 1 (.slice O q e) q (strCs (ownGo Q i m.toNat k))) ∧ Below w3.heap.size w3 wr) (fun _ kv _ => p + 5 - (intOf kv).toNat)
      case atStart => exact ⟨0, 0, none, 0, by omega, by omega, rfl, rfl, Lib.hid rfl, Lib.hid ⟨rfl, .inl ⟨rfl, rfl⟩⟩, Below.refl _ _⟩
      case round =>
        obtain ⟨k, q, O, e, hk, hqk, rfl, rfl, hq, hown, hbr⟩ := hrel
        have hbs := hbr.size
        by_cases hlt : (k : Int) < (p : Int)
        · obtain ⟨r, hr⟩ : ∃ r, (i + k) % p = r := ⟨_, rfl⟩
          have hrp : r < p := by rw [← hr]; exact Nat.mod_lt _ (by omega)
          have hrl : r < Q.length := by rw [Hpl.out]; exact hrp
          obtain ⟨bd, rfl, _, c1⟩ := (HR.out.next hbr).at (plcCs_1 hrl)
          obtain ⟨y, hy⟩ : ∃ y, (at_ Q r).nm = y := ⟨_, rfl⟩
          rw [hy] at c1
          have c1 := cell_off c1 (by decide)
          rw [← hr] at c1
          have hrq : ((i : Int) + (k : Int)) % (p : Int) < (p : Int) := Int.emod_lt_of_pos _ (by omega)
          have hrz : (0 : Int) ≤ ((i : Int) + (k : Int)) % (p : Int) := Int.emod_nonneg _ (by omega)
          have Hgo := Lib.hid (show ownGo Q i m.toNat (k + 1) = if (ownGo Q i m.toNat k).length < m.toNat ∧ hasS y (ownGo Q i m.toNat k) = false then ownGo Q i m.toNat k ++ [y] else ownGo Q i m.toNat k by
            simp only [ownGo]; rw [Hpl.out, hr, hy])
          obtain ⟨o, ho⟩ : ∃ o, ownGo Q i m.toNat k = o := ⟨_, rfl⟩
          rw [ho] at hq hown Hgo
          clear ho hy hr hrl
          have p0 : ((p : Int) == 0) = false := by rw [beq_eq_false_iff_ne]; omega
          have hown1 := hown.out
          have HCt := Lib.hid (containsS_any O q e o hq.out (by omega) y wr (Has.of_own hown1))
          have rel0 : ∀ o2, ownGo Q i m.toNat (k + 1) = o2 → o2 = o → Hid ((ownGo Q i m.toNat (k + 1)).length = q) ∧ Hid (wr.ownsRow w3.heap.size 9 1 (.slice O q e) q (strCs (ownGo Q i m.toNat (k + 1)))) := fun o2 e1 e2 => by
            rw [e1, e2]; exact ⟨hq, hown⟩
          by_cases hqm : (q : Int) < m
          · obtain ⟨hb, hhb⟩ : ∃ hb, hasS y o = hb := ⟨_, rfl⟩
            have hC := HCt.out
            rw [hhb] at hC
            have HC := Lib.hid hC
            clear hC HCt
            cases hb with
            | true =>
              have hr0 := rel0 _ Hgo.out (by rw [if_neg (fun g => by rw [hhb] at g; exact absurd g.2 (by decide))])
              clear hhb rel0 hown
              go_wp2_with ((refine HC.out.mono ?_; rintro e9 w9 ⟨rfl, hw9⟩; rw [hw9]))
              exact ⟨⟨k + 1, q, O, e, by omega, by omega, by go_num, rfl, hr0.1, hr0.2, hbr⟩, by simp [intOf]; omega⟩
            | false =>
              have hr0 : ownGo Q i m.toNat (k + 1) = o ++ [y] := by rw [Hgo.out, if_pos ⟨by rw [hq.out]; omega, hhb⟩]
              have Hr0 := Lib.hid hr0
              have h16 : (q + 1) * 16 ≤ 140737488355328 := by omega
              have h63 : q + 1 ≤ maxLen := by unfold maxLen; omega
              clear hhb rel0 hr0 hown
              go_wp2_with (first | (refine HC.out.mono ?_; rintro e9 w9 ⟨rfl, hw9⟩; rw [hw9]) | (at_builtin; refine wpList_append1 rfl _ _ _ rfl elStrR (v := .slice O q e) rfl hown1 rfl rfl rfl ?_ ?c1 ?c2 ?c3 ?c4; intro A5 c5 w5 hown5 hgrow5 hbel5))
              case c1 => rfl
              case c2 => exact h16
              case c3 => exact h63
              case c4 => exact hbs
              exact ⟨⟨k + 1, q + 1, A5, c5, by omega, by omega, by go_num, rfl, Lib.hid (by rw [Hr0.out, List.length_append, hq.out]; rfl), Lib.hid (by rw [Hr0.out, strCs_app1]; exact hown5), hbr.trans hbel5⟩, by simp [intOf]; omega⟩
          · have hr0 := rel0 _ Hgo.out (by rw [if_neg (fun g => hqm (by have := g.1; rw [hq.out] at this; omega))])
            clear rel0 hown HCt
            go_wp2_with fail
            exact ⟨⟨k + 1, q, O, e, by omega, by omega, by go_num, rfl, hr0.1, hr0.2, hbr⟩, by simp [intOf]; omega⟩
        · obtain rfl : k = p := by omega
          go_wp2_with fail
          go_ret2
          exact RV.mk ⟨O, q, e, _, 0, rfl, hq.out.symm, own_less hown.out (bnext Hb12.out Hb3.out).size, (bnext Hb12.out Hb3.out).trans (hbr.mono (bnext Hb12.out Hb3.out).size), .inr (.inr ⟨Hc.out, h0', rfl, i, by rw [HQ.out]; exact Hf.out, by rw [HQ.out, ← Hp.out]⟩)⟩
  · have hC2 := Lib.hid (bne_iff_ne.2 hc)
    obtain ⟨r, hr⟩ : ∃ r, chkR (L.map NodE.x) = r := ⟨_, rfl⟩
    have hC3 := HC.out
    rw [hr] at hC3 hc
    have HC3 := Lib.hid hC3
    have Hr := Lib.hid hr
    have hb : (r != 0) = true := bne_iff_ne.2 hc
    clear h20 hn h hL HC hC3 hC2 hr
    go_enter Try.func9, Try.ntmps9
    go_wp2_with fail
    refine HC3.out.mono ?_
    rintro e w1 ⟨rfl, hb1⟩
    go_wp2_with fail
    go_ret2
    exact RV.mk ⟨none, 0, 0, [], r, rfl, rfl, ⟨rfl, .inl ⟨rfl, rfl⟩⟩, hb1, .inl ⟨by rw [Hr.out]; exact hc, Hr.out.symm, rfl⟩⟩
end Go.Proofs.Ytmbpgenjjgepiaa
