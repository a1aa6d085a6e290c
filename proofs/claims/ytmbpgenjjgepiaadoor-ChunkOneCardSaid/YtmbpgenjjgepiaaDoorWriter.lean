/- What the writer of bits puts. Conditions: a number of 64 bits at most; the writer's cells are a block of their own, its bytes a row of the call's own. -/
import Derived.Test.YtmbpgenjjgepiaaDoorWriterLaw
import Derived.Test.YtmbpgenjjgepiaaDoorBits
import Derived.StillTailTactics
namespace Go.Proofs.YtmbpgenjjgepiaaDoor
open Go.RowKit

theorem u8s_app1 (l : List Nat) (x : Nat) : u8s (l ++ [x]) = u8s l ++ (#[.int .u8 (x : Nat)] : Array Value).toList := by simp [u8s, u8v]
/-- the writer: its bits are these -/
def WrAt (w : World) (base g : Nat) (bs : List Bool) : Prop :=
  ∃ A c, Blk w g 58 #[.slice A (packB bs).length c, .int .i64 bs.length] ∧ w.ownsRow base 5 1 (.slice A (packB bs).length c) (packB bs).length (u8s (packB bs))
/-- no block but g, and but bytes, is written -/
structure Mod (g : Nat) (w w' : World) : Prop where
  os : w'.os = w.os
  tape : w'.tape = w.tape
  output : w'.output = w.output
  size : w.heap.size ≤ w'.heap.size
  block : ∀ k, k < w.heap.size → k ≠ g → (∀ cur fz, w.heap[k]? ≠ some (.cells cur 5 fz)) → w'.heap[k]? = w.heap[k]?
theorem Mod.refl (g : Nat) (w : World) : Mod g w w := ⟨rfl, rfl, rfl, Nat.le_refl _, fun _ _ _ _ => rfl⟩
theorem Mod.trans {g : Nat} {a b c : World} (h : Mod g a b) (k : Mod g b c) : Mod g a c :=
  ⟨k.os.trans h.os, k.tape.trans h.tape, k.output.trans h.output, Nat.le_trans h.size k.size, fun i hi hne hu => by
    have e := h.block i hi hne hu
    exact (k.block i (Nat.lt_of_lt_of_le hi h.size) hne (fun cur fz => by rw [e]; exact hu cur fz)).trans e⟩
theorem Mod.drewN {g : Nat} {a b : World} (h : Mod g a b) (n : Nat) : Mod g a (b.drewN n) := ⟨h.os, h.tape, h.output, h.size, h.block⟩
theorem Mod.set {g : Nat} {a b : World} (h : Mod g a b) (i : Nat) (u : Value) : Mod g a (b.setCell ⟨g, i, none⟩ u) :=
  h.trans ⟨rfl, rfl, rfl, by simp [World.setCell], fun k _ hne _ => Below.heap_setCell b ⟨g, i, none⟩ u k hne⟩
theorem Mod.row {g : Nat} {a b c : World} {base size n : Nat} {v : Value} {xs : List Value} (h : Mod g a b) (ho : b.ownsRow base 5 size v n xs) (k : b.grownBy c v.ownBlock) : Mod g a c :=
  h.trans ⟨k.os, k.tape, k.output, k.size, fun i hi _ hu => k.block i hi (fun e => by
    rcases ho.2 with ⟨rfl, _⟩ | ⟨q, cap, cur, rfl, _, hg, _⟩
    · cases e
    · injection e with e
      subst e
      exact hu _ _ hg)⟩
theorem Blk.mod {w w' : World} {g k : Nat} {t : TypeId} {cs : Array Value} (h : Blk w k t cs) (hm : Mod g w w') (hk : k ≠ g) (ht : t ≠ 5) : Blk w' k t cs :=
  (hm.block k h.lt hk (fun cur fz => by unfold Blk at h; rw [h]; intro e; injection e with e; injection e with _ e; exact ht e)).trans h
theorem own_ne {w : World} {g b : Nat} {t : TypeId} {cs : Array Value} {base size n c : Nat} {e : TypeId} {xs : List Value} (h : Blk w g t cs) (ho : w.ownsRow base e size (.slice (some ⟨b, 0, none⟩) n c) n xs) (ht : t ≠ e) : b ≠ g := by
  intro hb
  subst hb
  rcases ho.2 with ⟨h', _⟩ | ⟨q, cap, cur, h', _, hg, _⟩
  · cases h'
  · injection h' with h' _
    injection h' with h'
    injection h' with h'
    subst h'
    unfold Blk at h
    rw [h] at hg
    injection hg with hg
    injection hg with _ hg
    exact ht hg
theorem own_some {w : World} {base e size n c : Nat} {A : Option Addr} {xs : List Value} (ho : w.ownsRow base e size (.slice A n c) n xs) (hn : 0 < n) : ∃ b, A = some ⟨b, 0, none⟩ ∧ base ≤ b ∧ b < w.heap.size ∧ n ≤ c := by
  rcases ho.2 with ⟨_, h'⟩ | ⟨q, cap, cur, h', hb, hg, hc, _⟩
  · omega
  · injection h' with h1 h2 h3
    subst h1
    exact ⟨q, rfl, hb, (Array.getElem?_eq_some_iff.1 hg).1, by omega⟩

theorem own_row_ne {w : World} {g : Nat} {t : TypeId} {cs : Array Value} {base size n : Nat} {v : Value} {e : TypeId} {xs : List Value} (h : Blk w g t cs) (ho : w.ownsRow base e size v n xs) (ht : t ≠ e) : some g ≠ v.ownBlock := by
  rcases ho.2 with ⟨rfl, _⟩ | ⟨q, cap, cur, rfl, hb, hg, h1, h2, h3, h4⟩
  · intro h'; cases h'
  · intro h'
    injection h' with h'
    exact own_ne (n := n) (c := cap) h ⟨ho.1, .inr ⟨q, cap, cur, rfl, hb, hg, h1, h2, h3, h4⟩⟩ ht h'.symm
theorem own_base {w : World} {base g : Nat} {t : TypeId} {cs : Array Value} (hg : base ≤ g) (h : Blk w g t cs) : base ≤ w.heap.size := Nat.le_trans hg (Nat.le_of_lt h.lt)

theorem own_set_other {w : World} {g : Nat} {base size n : Nat} {v : Value} {e : TypeId} {xs : List Value} (ho : w.ownsRow base e size v n xs) (hne : some g ≠ v.ownBlock) (i : Nat) (u : Value) : (w.setCell ⟨g, i, none⟩ u).ownsRow base e size v n xs := by
  refine ⟨ho.1, ?_⟩
  rcases ho.2 with h | ⟨q, cap, cur, rfl, hb, hg, h1, h2, h3, h4⟩
  · exact .inl h
  · exact .inr ⟨q, cap, cur, rfl, hb, (Below.heap_setCell w ⟨g, i, none⟩ u q (fun e => hne (by rw [e]; rfl))).trans hg, h1, h2, h3, h4⟩

theorem own_cell {w : World} {base size n c b : Nat} {e : TypeId} {xs : List Value} (h : w.ownsRow base e size (.slice (some ⟨b, 0, none⟩) n c) n xs) {k : Nat} {u : Value} (hu : xs[k]? = some u) : w.cell? ⟨b, k, none⟩ = some u := by
  obtain ⟨ad, e', _, hc⟩ := (Has.of_own h).at hu
  injection e' with e'
  subst e'
  have hadd : (⟨b, 0, none⟩ : Addr).add k = ⟨b, k, none⟩ := by unfold Addr.add; split <;> simp_all
  rwa [hadd] at hc

theorem wput_step {W : World} {base g b c2 : Nat} {bs : List Bool} {v j : Nat} {x : Int} {cs : Array Value} (hB : Blk W g 58 cs) (hcs : cs = #[.slice (some ⟨b, 0, none⟩) (packL bs).length c2, .int .i64 bs.length])
    (hown : W.ownsRow base 5 1 (.slice (some ⟨b, 0, none⟩) (packL bs).length c2) (packL bs).length (u8s (packL bs))) (hv : v < 18446744073709551616)
    (hx : x = bits .or .u8 (byteAt bs (bs.length / 8) : Nat) (bits .and .u64 ((v : Int) / 2 ^ j) 1 % 256 * 2 ^ (7 - bs.length % 8) % 256)) :
    WrAt ((W.setCell ⟨b, bs.length / 8, none⟩ (.int .u8 x)).setCell ⟨g, 1, none⟩ (.int .i64 ((bs.length : Int) + 1))) base g (bs ++ [v / 2 ^ j % 2 == 1]) := by
  subst hcs
  have hf := put_fin (bs := bs) (j := j) hv rfl
  rw [IntKind.wrap_u8, IntKind.wrap_u8] at hf
  rw [← hx] at hf
  subst hf
  clear hx
  have hne := own_row_ne hB hown (by decide)
  have hst := hown.stored (bs.length / 8) (.int .u8 ((byteAt bs (bs.length / 8) + (v / 2 ^ j % 2 == 1).toNat * 2 ^ (7 - bs.length % 8) : Nat) : Int))
  have hpk := packB_app1 bs (v / 2 ^ j % 2 == 1)
  have hln : (packB (bs ++ [v / 2 ^ j % 2 == 1])).length = (packL bs).length := by rw [hpk, List.length_set]
  refine ⟨some ⟨b, 0, none⟩, c2, ?_, ?_⟩
  · have h1 := (hB.grown hst.2 (by intro e; exact hne (by rw [e]; rfl))).set 1 (.int .i64 ((bs.length : Int) + 1))
    rw [hln, List.length_append]
    exact h1
  · have h2 := own_set_other hst.1 (by exact hne) 1 (.int .i64 ((bs.length : Int) + 1))
    have e : (u8s (packL bs)).set (bs.length / 8) (.int .u8 ((byteAt bs (bs.length / 8) + (v / 2 ^ j % 2 == 1).toNat * 2 ^ (7 - bs.length % 8) : Nat) : Int)) = u8s (packB (bs ++ [v / 2 ^ j % 2 == 1])) := by
      rw [hpk]
      simp [u8s, u8v, List.map_set]
    rw [hln, ← e]
    exact h2

def WPut (base g : Nat) (bs : List Bool) (v n : Nat) (w w' : World) : Prop := WrAt w' base g (bs ++ toB v n) ∧ Below base w w' ∧ Mod g w w'

set_option maxRecDepth 1000000 in
set_option maxHeartbeats 4000000 in
theorem wput_any (base g : Nat) (bs : List Bool) (v n : Nat) (hv : v < 18446744073709551616) (hn : n ≤ 64) (hlen : bs.length + n ≤ 1099511627776) (w : World) (hg : base ≤ g) (h : WrAt w base g bs) :
    Calls Tryd.prog 23 #[.pointer (some ⟨g, 0, none⟩), .int .u64 v, .int .i64 n] w (R1 (.tuple #[]) (WPut base g bs v n w)) := by
  go_enter Tryd.func23, Tryd.ntmps23
  go_wp2
  go_loopw [2] (fun i wr => ∃ (r : Nat) (b' : List Bool), r ≤ n ∧ i = .int .i64 ((r : Int) - 1) ∧ Hid (b' ++ toB v r = bs ++ toB v n) ∧ b'.length + r ≤ 1099511627776 ∧ WrAt wr base g b' ∧ Below base w wr ∧ Mod g w wr) (fun i _ => (intOf i + 1).toNat)
  case atStart => exact ⟨n, bs, Nat.le_refl _, rfl, Lib.hid rfl, hlen, h, Below.refl _ _, Mod.refl _ _⟩
  case round =>
    obtain ⟨r, b', hr, rfl, hb', hl, ⟨A, c, hB, hown⟩, hbel, hmod⟩ := hrel
    rcases r with _ | j
    · have hb2 : b' = bs ++ toB v n := by have := hb'.out; simpa [toB] using this
      go_wp2
      subst hb2
      exact bodyPost_end (v := .tuple #[]) (results_none rfl _ _ _) rfl (R1.mk rfl ⟨⟨A, c, hB, hown⟩, hbel, hmod⟩)
    · rw [show (((j + 1 : Nat) : Int) - 1) = (j : Int) by omega]
      have c0 : wr.cell? ⟨g, 0, none⟩ = some (.slice A (packB b').length c) := hB.cell 0
      have c1 : wr.cell? ⟨g, 1, none⟩ = some (.int .i64 b'.length) := hB.cell 1
      have f0 := hB.frozen 0
      have f1 := hB.frozen 1
      have e2 : (b'.length : Int).tmod 8 = (b'.length : Int) % 8 := Int.tmod_eq_emod_of_nonneg (by omega)
      have hL : (packB b').length ≤ 137438953472 := by rw [packB_len]; omega
      have hbs := hbel.size
      by_cases h8 : b'.length % 8 = 0
      · have p0 : (((b'.length : Int) % 8) == 0) = true := by rw [beq_iff_eq]; omega
        have eL : packL b' = packB b' ++ [0] := packL_full h8
        have EL := Lib.hid eL; clear eL
        go_wp2_with (at_builtin; refine wpList_append1 rfl _ _ _ rfl elU8 rfl hown rfl rfl rfl ?_ ?c1 ?c2 ?c3 ?c4; intro A2 c2 w1 hown' hgrow hbel'; have hB1 : Blk w1 g 58 #[.slice A (packB b').length c, .int .i64 b'.length] := hB.grown hgrow (own_row_ne hB hown (by decide)); have g0 := hB1.frozen 0; have g1 : w1.cell? ⟨g, 0, none⟩ = some (.slice A (packB b').length c) := hB1.cell 0)
        case c1 => rfl
        case c2 => omega
        case c3 => unfold maxLen; omega
        case c4 => exact Nat.le_trans (own_base hg hB) (Nat.le_refl _)
        have hmod1 := hmod.row hown hgrow
        have hbel1 := hbel.trans hbel'
        have hB2 := hB1.set 0 (.slice A2 ((packB b').length + 1) c2)
        have hown2 := own_set_other hown' (own_row_ne hB1 hown' (by decide)) 0 (.slice A2 ((packB b').length + 1) c2)
        have hmod2 := hmod1.set 0 (.slice A2 ((packB b').length + 1) c2)
        have hbel2 := Below.setCell (p := ⟨g, 0, none⟩) hbel1 hg (.slice A2 ((packB b').length + 1) c2)
        generalize w1.setCell ⟨g, 0, none⟩ (.slice A2 ((packB b').length + 1) c2) = W at hB2 hown2 hmod2 hbel2 ⊢
        have eX : u8s (packB b') ++ (#[.int .u8 0] : Array Value).toList = u8s (packL b') := by rw [EL.out]; simp [u8s, u8v]
        rw [eX] at hown2
        have hn2 : (packB b').length + 1 = (packL b').length := by rw [EL.out]; simp
        rw [hn2] at hown2 hB2 ⊢
        clear hB1 hmod1 hbel1 hown hgrow hbel' hown' eX hn2 g0 g1 c0 c1 f0 f1
        have hc0 : W.cell? ⟨g, 0, none⟩ = some (.slice A2 (packL b').length c2) := hB2.cell 0
        have hc1 : W.cell? ⟨g, 1, none⟩ = some (.int .i64 b'.length) := hB2.cell 1
        obtain ⟨b, rfl, hbb, hbs2, hLc⟩ := own_some hown2 (by rw [packL_len]; omega)
        have hLen : (packL b').length = b'.length / 8 + 1 := packL_len b'
        have hold := u8s_at (l := packL b') (k := b'.length / 8) (by omega)
        rw [packL_at] at hold
        have hcb : W.cell? ⟨b, b'.length / 8, none⟩ = some (.int .u8 (byteAt b' (b'.length / 8) : Nat)) := own_cell hown2 hold
        have hfb := hown2.frozenAt (b'.length / 8)
        have hbn := byteAt_lt b' (b'.length / 8)
        have e1 : IntKind.i64.wrap ((b'.length : Int) / 8) = (b'.length : Int) / 8 := IntWalk.i64_in _ (by omega)
        have e3 : IntKind.i64.wrap (7 - (b'.length : Int) % 8) = 7 - (b'.length : Int) % 8 := IntWalk.i64_in _ (by omega)
        have q1 : (0 : Int) ≤ (b'.length : Int) / 8 := by omega
        have q2 : (b'.length : Int) / 8 < ((packL b').length : Int) := by omega
        have q3 : ((b'.length : Int) / 8).toNat = b'.length / 8 := by omega
        have q4 : (0 : Int) ≤ 7 - (b'.length : Int) % 8 := by omega
        have q5 : (b'.length : Int) % 8 ≤ 7 := by omega
        have HL := Lib.hid hLen; clear hLen
        have H8 := Lib.hid h8; clear h8 p0
        go_still_tail 28, (by kernel_rfl)
        change wpList _ _ _ _ _ (W.drewN 1)
        have hB3 := hB2.drewN 1
        have hown3 := own_drewN hown2 1
        have hmod3 := hmod2.drewN 1
        have hbel3 := below_drewN hbel2 1
        clear hB2 hown2 hmod2 hbel2
        have hcb : (W.drewN 1).cell? ⟨b, b'.length / 8, none⟩ = some (.int .u8 (byteAt b' (b'.length / 8) : Nat)) := hcb
        have hfb : (W.drewN 1).frozen? ⟨b, b'.length / 8, none⟩ = false := hfb
        clear hc0 hc1
        have hfr : ∀ i, (W.drewN 1).frozen? ⟨g, i, none⟩ = false := hB3.frozen
        have hcl : (W.drewN 1).cell? ⟨g, 1, none⟩ = some (.int .i64 b'.length) := hB3.cell 1
        have hne := own_ne hB3 hown3 (by decide)
        generalize W.drewN 1 = W2 at hB3 hown3 hmod3 hbel3 hcb hfb hfr hcl ⊢
        have hg1 : ∀ i u, (W2.setCell ⟨b, i, none⟩ u).cell? ⟨g, 1, none⟩ = some (.int .i64 b'.length) := fun i u => (World.cell?_setCell_other W2 _ _ u (by intro e; injection e with e; exact hne e)).trans hcl
        have hg2 : ∀ i u, (W2.setCell ⟨b, i, none⟩ u).frozen? ⟨g, 1, none⟩ = false := fun i u => by rw [World.frozen?_setCell]; exact hfr 1
        clear hfr hcl
        go_wp2_with fail
        go_roundw
        case rel => exact ⟨j, b' ++ [v / 2 ^ j % 2 == 1], by omega, rfl, Lib.hid (by rw [← hb'.out, toB_step]), by simp; omega, wput_step hB3 rfl hown3 hv rfl, (Below.setCell (p := ⟨b, _, none⟩) hbel3 hbb _).setCell hg _, (hmod3.row hown3 (hown3.stored _ _).2).set 1 _⟩
        case measure => first | (simp [intOf]; done) | (simp [intOf]; omega)
      · have p0 : (((b'.length : Int) % 8) == 0) = false := by rw [beq_eq_false_iff_ne]; omega
        have EL : packL b' = packB b' := packL_part h8
        go_wp2_with fail
        have hB2 : Blk wr g 58 #[.slice A (packL b').length c, .int .i64 b'.length] := by rw [EL]; exact hB
        have hown2 : wr.ownsRow base 5 1 (.slice A (packL b').length c) (packL b').length (u8s (packL b')) := by rw [EL]; exact hown
        clear hB hown EL c0 c1 f0 f1
        have hc0 : wr.cell? ⟨g, 0, none⟩ = some (.slice A (packL b').length c) := hB2.cell 0
        have hc1 : wr.cell? ⟨g, 1, none⟩ = some (.int .i64 b'.length) := hB2.cell 1
        obtain ⟨b, rfl, hbb, hbs2, hLc⟩ := own_some hown2 (by rw [packL_len]; omega)
        have hLen : (packL b').length = b'.length / 8 + 1 := packL_len b'
        have hold := u8s_at (l := packL b') (k := b'.length / 8) (by omega)
        rw [packL_at] at hold
        have hcb : wr.cell? ⟨b, b'.length / 8, none⟩ = some (.int .u8 (byteAt b' (b'.length / 8) : Nat)) := own_cell hown2 hold
        have hfb := hown2.frozenAt (b'.length / 8)
        have hbn := byteAt_lt b' (b'.length / 8)
        have e1 : IntKind.i64.wrap ((b'.length : Int) / 8) = (b'.length : Int) / 8 := IntWalk.i64_in _ (by omega)
        have e3 : IntKind.i64.wrap (7 - (b'.length : Int) % 8) = 7 - (b'.length : Int) % 8 := IntWalk.i64_in _ (by omega)
        have q1 : (0 : Int) ≤ (b'.length : Int) / 8 := by omega
        have q2 : (b'.length : Int) / 8 < ((packL b').length : Int) := by omega
        have q3 : ((b'.length : Int) / 8).toNat = b'.length / 8 := by omega
        have q4 : (0 : Int) ≤ 7 - (b'.length : Int) % 8 := by omega
        have q5 : (b'.length : Int) % 8 ≤ 7 := by omega
        have HL := Lib.hid hLen; clear hLen
        have H8 := Lib.hid h8; clear h8 p0
        go_still_tail 28, (by kernel_rfl)
        change wpList _ _ _ _ _ (wr.drewN 1)
        have hB3 := hB2.drewN 1
        have hown3 := own_drewN hown2 1
        have hmod3 := hmod.drewN 1
        have hbel3 := below_drewN hbel 1
        clear hB2 hown2 hmod hbel
        have hcb : (wr.drewN 1).cell? ⟨b, b'.length / 8, none⟩ = some (.int .u8 (byteAt b' (b'.length / 8) : Nat)) := hcb
        have hfb : (wr.drewN 1).frozen? ⟨b, b'.length / 8, none⟩ = false := hfb
        clear hc0 hc1
        have hfr : ∀ i, (wr.drewN 1).frozen? ⟨g, i, none⟩ = false := hB3.frozen
        have hcl : (wr.drewN 1).cell? ⟨g, 1, none⟩ = some (.int .i64 b'.length) := hB3.cell 1
        have hne := own_ne hB3 hown3 (by decide)
        generalize wr.drewN 1 = W2 at hB3 hown3 hmod3 hbel3 hcb hfb hfr hcl ⊢
        have hg1 : ∀ i u, (W2.setCell ⟨b, i, none⟩ u).cell? ⟨g, 1, none⟩ = some (.int .i64 b'.length) := fun i u => (World.cell?_setCell_other W2 _ _ u (by intro e; injection e with e; exact hne e)).trans hcl
        have hg2 : ∀ i u, (W2.setCell ⟨b, i, none⟩ u).frozen? ⟨g, 1, none⟩ = false := fun i u => by rw [World.frozen?_setCell]; exact hfr 1
        clear hfr hcl
        go_wp2_with fail
        go_roundw
        case rel => exact ⟨j, b' ++ [v / 2 ^ j % 2 == 1], by omega, rfl, Lib.hid (by rw [← hb'.out, toB_step]), by simp; omega, wput_step hB3 rfl hown3 hv rfl, (Below.setCell (p := ⟨b, _, none⟩) hbel3 hbb _).setCell hg _, (hmod3.row hown3 (hown3.stored _ _).2).set 1 _⟩
        case measure => first | (simp [intOf]; done) | (simp [intOf]; omega)
end Go.Proofs.YtmbpgenjjgepiaaDoor
