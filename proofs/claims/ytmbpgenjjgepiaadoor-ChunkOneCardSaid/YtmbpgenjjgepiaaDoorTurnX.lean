/- What turn of package xor reads. Conditions: the reader and the window lie in blocks of their own. -/
import Derived.Test.YtmbpgenjjgepiaaDoorPackX
import Derived.Test.YtmbpgenjjgepiaaDoorXorBackLaw
import Derived.Test.YtmbpgenjjgepiaaDoorTakeBits
namespace Go.Proofs.YtmbpgenjjgepiaaDoor
open Go.RowKit

/-- of what was there only two blocks were written -/
structure OnlyB (g q : Nat) (w w' : World) : Prop where
  os : w'.os = w.os
  tape : w'.tape = w.tape
  output : w'.output = w.output
  size : w.heap.size ≤ w'.heap.size
  block : ∀ k, k < w.heap.size → k ≠ g → k ≠ q → w'.heap[k]? = w.heap[k]?
theorem OnlyB.refl (g q : Nat) (w : World) : OnlyB g q w w := ⟨rfl, rfl, rfl, Nat.le_refl _, fun _ _ _ _ => rfl⟩
theorem OnlyB.of {g q : Nat} {w w' : World} (h : Only g w w') : OnlyB g q w w' := ⟨h.os, h.tape, h.output, h.size, fun k hk hg _ => h.block k hk (fun e => hg (by injection e))⟩
theorem OnlyB.trans {g q : Nat} {a b c : World} (h : OnlyB g q a b) (k : OnlyB g q b c) : OnlyB g q a c :=
  ⟨k.os.trans h.os, k.tape.trans h.tape, k.output.trans h.output, Nat.le_trans h.size k.size, fun i hi h1 h2 => (k.block i (Nat.lt_of_lt_of_le hi h.size) h1 h2).trans (h.block i hi h1 h2)⟩
theorem OnlyB.drewN {g q : Nat} {a b : World} (h : OnlyB g q a b) (n : Nat) : OnlyB g q a (b.drewN n) := ⟨h.os, h.tape, h.output, h.size, h.block⟩
theorem OnlyB.alloc {g q : Nat} {a b : World} (h : OnlyB g q a b) (o : Obj) : OnlyB g q a (b.alloc o) :=
  ⟨h.os, h.tape, h.output, Nat.le_trans h.size (by simp), fun k hk h1 h2 => (Below.heap_alloc b o k (Nat.lt_of_lt_of_le hk h.size)).trans (h.block k hk h1 h2)⟩
theorem OnlyB.set {g q : Nat} {a b : World} (h : OnlyB g q a b) (i : Nat) (u : Value) : OnlyB g q a (b.setCell ⟨q, i, none⟩ u) :=
  ⟨h.os, h.tape, h.output, by simp [World.setCell]; exact h.size, fun k hk h1 h2 => (Below.heap_setCell b ⟨q, i, none⟩ u k h2).trans (h.block k hk h1 h2)⟩
theorem OnlyB.setG {g q : Nat} {a b : World} (h : OnlyB g q a b) (i : Nat) (u : Value) : OnlyB g q a (b.setCell ⟨g, i, none⟩ u) :=
  ⟨h.os, h.tape, h.output, by simp [World.setCell]; exact h.size, fun k hk h1 h2 => (Below.heap_setCell b ⟨g, i, none⟩ u k h1).trans (h.block k hk h1 h2)⟩
theorem OnlyB.below {g q B : Nat} {w w' : World} (h : OnlyB g q w w') (hB : B ≤ w.heap.size) (hg : B ≤ g) (hq : B ≤ q) : Below B w w' :=
  ⟨h.os, h.tape, h.output, h.size, fun k hk => h.block k (Nat.lt_of_lt_of_le hk hB) (by omega) (by omega)⟩
theorem own_onlyB {w w' : World} {base size n g q : Nat} {e : TypeId} {v : Value} {xs : List Value} (h : w.ownsRow base e size v n xs) (hg : g < base) (hq : q < base) (ho : OnlyB g q w w') : w'.ownsRow base e size v n xs := by
  refine ⟨h.1, ?_⟩
  rcases h.2 with h2 | ⟨k, cap, cur, rfl, hb, hgg, rest⟩
  · exact .inl h2
  · exact .inr ⟨k, cap, cur, rfl, hb, (ho.block k (Array.getElem?_eq_some_iff.1 hgg).1 (by omega) (by omega)).trans hgg, rest⟩
theorem Has.drewX {w : World} {B : Nat} {A : Option Addr} {xs : List Value} (h : Has w B A xs) : Has w.drew B A xs := h
theorem Blk.only {w w' : World} {g k : Nat} {t : TypeId} {cs : Array Value} (h : Blk w k t cs) (ho : Only g w w') (hk : k ≠ g) : Blk w' k t cs := Blk.grown h ho (fun e => hk (by injection e))

abbrev winCZ (W : WinZ) : Array Value := #[.bool W.1, .int .i64 (W.2.1 : Nat), .int .i64 W.2.2]
/-- a window that a reader can have -/
def WinZok (W : WinZ) : Prop := W.2.1 ≤ 63 ∧ -64 ≤ W.2.2 ∧ (W.2.1 : Int) + W.2.2 ≤ 63
theorem turnD_ok {bs : List Bool} {s : Nat × Bool} {W : WinZ} (h : WinZok W) : WinZok (turnD bs s W).2.2 := by
  unfold turnD
  split
  · exact h
  · show WinZok (turnW bs _ W).1
    unfold turnW
    split
    · have h1 := tk_lt' (bs := bs) (s := (tk bs (tk bs s 1).2 1).2) (n := 6)
      have h2 := tk_lt' (bs := bs) (s := (tk bs (tk bs (tk bs s 1).2 1).2 6).2) (n := 6)
      refine ⟨?_, ?_, ?_⟩ <;> simp only [] <;> omega
    · exact h
def TurnP (g q : Nat) (A : Option Addr) (c : Nat) (bs : List Bool) (r : Nat × ((Nat × Bool) × WinZ)) (w : World) (v : Value) (w' : World) : Prop :=
  v = .int .u64 (r.1 : Nat) ∧ RdAt w' g A c bs r.2.1 ∧ Blk w' q 65 (winCZ r.2.2) ∧ OnlyB g q w w'
set_option maxRecDepth 1000000 in
set_option maxHeartbeats 4000000 in
theorem turn_any (A : Option Addr) (c : Nat) (bs : List Bool) (s : Nat × Bool) (W : WinZ) (r : Nat × ((Nat × Bool) × WinZ)) (hr : turnD bs s W = r) (g q : Nat) (hgq : g < q) (hp : s.1 ≤ bs.length) (hl : bs.length ≤ 1125899906842624) (hW : WinZok W) (w : World)
    (h : Has w g A (u8s (packB bs))) (hB : RdAt w g A c bs s) (hQ : Blk w q 65 (winCZ W)) :
    Calls Tryd.prog 33 #[.pointer (some ⟨g, 0, none⟩), .pointer (some ⟨q, 0, none⟩)] w (RV (TurnP g q A c bs r w)) := by
  have hqg : q ≠ g := by omega
  obtain ⟨⟨v1, s1⟩, h1⟩ : ∃ x, tk bs s 1 = x := ⟨_, rfl⟩
  have hb1 : v1 < 2 := by have := tk_lt' (bs := bs) (s := s) (n := 1); rw [h1] at this; exact this
  have hs1 : s1.1 ≤ bs.length := by have := tk_le (bs := bs) (s := s) (n := 1); rw [h1] at this; exact this
  unfold turnD at hr
  rw [h1] at hr
  have H1 := Lib.hid h1; clear h1
  have hgw : g ≤ w.heap.size := Nat.le_of_lt (Blk.lt hB)
  go_enter Tryd.func33, Tryd.ntmps33
  go_wp2_with fail
  refine (tk_any A c bs s 1 _ rfl (v1, s1) H1.out (by omega) g hp hl _ (by exact h) (by exact hB)).mono ?_
  rintro e w1 ⟨v, rfl, rfl, hR1, hon1⟩
  have hQ1 := hQ.only hon1 hqg
  have hH1 := h.only hgw (Nat.le_refl _) hon1
  have ho1 := Lib.hid (OnlyB.of (q := q) hon1)
  clear hB hon1 hQ h
  by_cases hv1 : v1 = 0
  · subst hv1
    rw [if_pos rfl] at hr
    go_wp2_with fail
    go_ret
    subst hr
    exact RV.mk ⟨rfl, hR1, hQ1, ho1.out⟩
  · have hv1 : v1 = 1 := by omega
    subst hv1
    rw [if_neg (by decide)] at hr
    obtain ⟨⟨v2, s2⟩, h2⟩ : ∃ x, tk bs s1 1 = x := ⟨_, rfl⟩
    have hb2 : v2 < 2 := by have := tk_lt' (bs := bs) (s := s1) (n := 1); rw [h2] at this; exact this
    have hs2 : s2.1 ≤ bs.length := by have := tk_le (bs := bs) (s := s1) (n := 1); rw [h2] at this; exact this
    have H2 := Lib.hid h2; clear h2
    have Hr := Lib.hid hr; clear hr
    have hg1 : g ≤ w1.heap.size := Nat.le_of_lt (Blk.lt hR1)
    go_wp2_with fail
    refine (tk_any A c bs s1 1 _ rfl (v2, s2) H2.out (by omega) g hs1 hl _ (by exact hH1) (by exact hR1)).mono ?_
    rintro e w2 ⟨v, rfl, rfl, hR2, hon2⟩
    have hQ2 := hQ1.only hon2 hqg
    have hH2 := hH1.only hg1 (Nat.le_refl _) hon2
    have ho2 := Lib.hid (ho1.out.trans (OnlyB.of hon2))
    clear hR1 hon2 hQ1 hH1 ho1
    have hg2 : g ≤ w2.heap.size := Nat.le_of_lt (Blk.lt hR2)
    by_cases hv2 : v2 = 1
    · subst hv2
      obtain ⟨⟨v3, s3⟩, h3⟩ : ∃ x, tk bs s2 6 = x := ⟨_, rfl⟩
      have hb3 : v3 < 64 := by have := tk_lt' (bs := bs) (s := s2) (n := 6); rw [h3] at this; exact this
      have hs3 : s3.1 ≤ bs.length := by have := tk_le (bs := bs) (s := s2) (n := 6); rw [h3] at this; exact this
      obtain ⟨⟨v4, s4⟩, h4⟩ : ∃ x, tk bs s3 6 = x := ⟨_, rfl⟩
      have hb4 : v4 < 64 := by have := tk_lt' (bs := bs) (s := s3) (n := 6); rw [h4] at this; exact this
      have hs4 : s4.1 ≤ bs.length := by have := tk_le (bs := bs) (s := s3) (n := 6); rw [h4] at this; exact this
      have H3 := Lib.hid h3; clear h3
      have H4 := Lib.hid h4; clear h4
      obtain ⟨z, hz⟩ : ∃ z, 64 - (v3 : Int) - ((v4 : Int) + 1) = z := ⟨_, rfl⟩
      have HT : Hid (turnW bs s1 W = ((true, v3, z), s4)) := Lib.hid (by unfold turnW; rw [H2.out, if_pos rfl]; simp only []; rw [H3.out]; simp only []; rw [H4.out, ← hz]; simp)
      have hz1 : -64 ≤ z := by omega
      have hz2 : (v3 : Int) + z ≤ 63 := by omega
      have e3 : IntKind.i64.wrap (v3 : Int) = v3 := IntWalk.i64_in _ (by omega)
      have e4 : IntKind.i64.wrap (v4 : Int) = v4 := IntWalk.i64_in _ (by omega)
      have e5 : IntKind.i64.wrap ((v4 : Int) + 1) = (v4 : Int) + 1 := IntWalk.i64_in _ (by omega)
      have e6 : IntKind.i64.wrap (64 - (v3 : Int)) = 64 - (v3 : Int) := IntWalk.i64_in _ (by omega)
      have e7 : IntKind.i64.wrap (64 - (v3 : Int) - ((v4 : Int) + 1)) = z := IntWalk.i64_in _ (by omega) |>.trans hz
      clear hz
      go_wp2_with fail
      refine (tk_any A c bs s2 6 _ rfl (v3, s3) H3.out (by omega) g hs2 hl _ (by exact hH2) (by exact hR2)).mono ?_
      rintro e w3 ⟨v, rfl, rfl, hR3, hon3⟩
      have hQ3 := hQ2.only hon3 hqg
      have hH3 := hH2.only hg2 (Nat.le_refl _) hon3
      have ho3 := Lib.hid (ho2.out.trans (OnlyB.of hon3))
      clear hR2 hon3 hQ2 hH2 ho2
      have hg3 : g ≤ w3.heap.size := Nat.le_of_lt (Blk.lt hR3)
      go_wp2_with fail
      refine (tk_any A c bs s3 6 _ rfl (v4, s4) H4.out (by omega) g hs3 hl _ (by exact hH3) (by exact hR3)).mono ?_
      rintro e w4 ⟨v, rfl, rfl, hR4, hon4⟩
      have hQ4 := hQ3.only hon4 hqg
      have hH4 := hH3.only hg3 (Nat.le_refl _) hon4
      have ho4 := Lib.hid (ho3.out.trans (OnlyB.of hon4))
      clear hR3 hon4 hQ3 hH3 ho3
      have hg4 : g ≤ w4.heap.size := Nat.le_of_lt (Blk.lt hR4)
      have fz0 := hQ4.frozen 0
      have fz1 := hQ4.frozen 1
      have fz2 := hQ4.frozen 2
      have y0 : w4.cell? ⟨q, 0, none⟩ = some (.bool W.1) := hQ4.cell 0
      have y1 : w4.cell? ⟨q, 1, none⟩ = some (.int .i64 (W.2.1 : Nat)) := hQ4.cell 1
      have y2 : w4.cell? ⟨q, 2, none⟩ = some (.int .i64 W.2.2) := hQ4.cell 2
      -- the window is written: the world behind it
      obtain ⟨wq, hwq⟩ : ∃ wq, ((w4.setCell ⟨q, 0, none⟩ (.bool true)).setCell ⟨q, 1, none⟩ (.int .i64 (v3 : Nat))).setCell ⟨q, 2, none⟩ (.int .i64 z) = wq := ⟨_, rfl⟩
      have kq : Blk wq q 65 #[.bool true, .int .i64 (v3 : Nat), .int .i64 z] := by
        rw [← hwq]
        have := ((hQ4.set 0 (.bool true)).set 1 (.int .i64 (v3 : Nat))).set 2 (.int .i64 z)
        simpa using this
      have hRq : RdAt wq g A c bs s4 := by
        rw [← hwq]
        exact ((Blk.farX hR4 ⟨q, 0, none⟩ (.bool true) hqg).farX ⟨q, 1, none⟩ (.int .i64 (v3 : Nat)) hqg).farX ⟨q, 2, none⟩ (.int .i64 z) hqg
      have hoq : OnlyB g q w wq := by rw [← hwq]; exact ((ho4.out.set 0 _).set 1 _).set 2 _
      have hHq : Has wq g A (u8s (packB bs)) := hH4.below (by rw [← hwq]; exact (((OnlyB.refl g q w4).set 0 _).set 1 _ |>.set 2 _).below hg4 (Nat.le_refl _) (Nat.le_of_lt hgq))
      have hoq := Lib.hid hoq
      clear hH4 ho4
      have x0 : wq.cell? ⟨q, 0, none⟩ = some (.bool true) := kq.cell 0
      have x2 : wq.cell? ⟨q, 2, none⟩ = some (.int .i64 z) := kq.cell 2
      have xs : wq.cell? ⟨g, 3, none⟩ = some (.bool s4.2) := Blk.cell hRq 3
      have xf : wq.frozen? ⟨g, 3, none⟩ = false := Blk.frozen hRq 3
      have hsp := hs4
      by_cases hz0 : z < 0
      · go_wp2_with fail
        go_ret
        have hv : turnV bs s4 (true, v3, z) = (0, (s4.1, true)) := by unfold turnV; rw [if_pos (.inr hz0)]
        have hr2 := Hr.out
        rw [HT.out] at hr2
        simp only [] at hr2
        rw [hv] at hr2
        subst hr2
        refine RV.mk ⟨rfl, ?_, kq.farX ⟨g, 3, none⟩ (.bool true) (fun e => hqg e.symm), hoq.out.setG 3 (.bool true)⟩
        have := Blk.set hRq 3 (.bool true)
        exact this
      · go_wp2_with fail
        obtain ⟨b, rfl⟩ := Int.eq_ofNat_of_zero_le (show 0 ≤ z by omega)
        obtain ⟨⟨v5, s5⟩, h5⟩ : ∃ x, tk bs s4 (64 - v3 - b) = x := ⟨_, rfl⟩
        have hv : turnV bs s4 (true, v3, (b : Int)) = (v5 * 2 ^ b, s5) := by unfold turnV; rw [if_neg (by simp)]; simp only [Int.toNat_natCast]; rw [h5]
        have hlt : v5 * 2 ^ b < 18446744073709551616 := by have := turnV_lt (bs := bs) (s := s4) (W := (true, v3, (b : Int))); rw [hv] at this; exact this
        have eW : IntKind.u64.wrap ((v5 : Int) * 2 ^ b) = ((v5 * 2 ^ b : Nat) : Int) := by rw [show (v5 : Int) * 2 ^ b = ((v5 * 2 ^ b : Nat) : Int) by simp]; exact IntWalk.u64_in _ (by omega)
        have hr2 := Hr.out
        rw [HT.out] at hr2
        simp only [] at hr2
        rw [hv] at hr2
        have hr2 := Lib.hid hr2
        have H5 := Lib.hid h5
        have hlt := Lib.hid hlt
        clear h5 hv xs xf
        have hgq' : g ≤ wq.heap.size := Nat.le_of_lt (Blk.lt hRq)
        have hRq := Lib.hid hRq
        have x1 : wq.cell? ⟨q, 1, none⟩ = some (.int .i64 (v3 : Nat)) := kq.cell 1
        go_region_held3 (fun w' => w'.cell? ⟨q, 0, none⟩ = some (.bool true) ∧ w'.cell? ⟨q, 1, none⟩ = some (.int .i64 (v3 : Nat)) ∧ w'.cell? ⟨q, 2, none⟩ = some (.int .i64 (b : Nat)))
          (first | (refine keepX (t := 65) ?_; (repeat' (first | with_reducible exact kW8 | with_reducible exact kW7 | with_reducible exact kq | with_reducible refine Blk.drewX ?_)); done) | (trace_state; fail))
          (first
            | (go_at_call 27; refine (size_any true (v3 : Nat) (b : Nat) (by omega) (by omega) (by omega) (by omega) _).mono ?_; rintro e w7 ⟨rfl, hw7⟩; have kW7 : Blk w7 q 65 _ := (by rw [hw7]; first | with_reducible exact Blk.alloc kq _ | with_reducible exact Blk.alloc (Blk.drewX kq) _); have hR7 : RdAt w7 g A c bs s4 := (by rw [hw7]; first | exact Blk.alloc (Blk.drewX hRq.out) _ | exact Blk.alloc hRq.out _); have hO7 : OnlyB g q wq w7 := (by rw [hw7]; first | with_reducible exact (OnlyB.refl g q _).alloc _ | exact ((OnlyB.refl g q _).drewN 1).alloc _); have hH7 : Has w7 g A (u8s (packB bs)) := hHq.below (hO7.below hgq' (Nat.le_refl _) (Nat.le_of_lt hgq)); clear hw7)
            | (go_at_call 30; refine (tk_any A c bs s4 (64 - v3 - b) _ (by omega) (v5, s5) H5.out (by omega) g hsp hl _ (by first | exact hH7 | exact Has.drewX hH7) (by first | with_reducible exact hR7 | exact Blk.drewX hR7)).mono ?_; rintro e w8 ⟨v, rfl, rfl, hR8, hon8⟩; have kW8 := Blk.only (show Blk _ q 65 _ by first | with_reducible exact kW7 | with_reducible exact Blk.drewX kW7) hon8 hqg; have hO8 := OnlyB.trans (show OnlyB g q wq _ by first | with_reducible exact hO7 | exact hO7.drewN 1) (OnlyB.of hon8)))
        go_wp2_with fail
        go_ret
        have hr3 := hr2.out
        subst hr3
        exact RV.mk ⟨rfl, hR8, kW8, hoq.out.trans hO8⟩
    · obtain ⟨S, a, z⟩ := W
      have HT : Hid (turnW bs s1 (S, a, z) = ((S, a, z), s2)) := Lib.hid (by unfold turnW; rw [H2.out, if_neg (by simpa using hv2)])
      have hv2' : ((v2 : Int) == 1) = false := by rw [beq_eq_false_iff_ne]; omega
      obtain ⟨hw1, hw2, hw3⟩ := hW
      have hw1 : a ≤ 63 := hw1
      have hw2 : -64 ≤ z := hw2
      have hw3 : (a : Int) + z ≤ 63 := hw3
      have kq : Blk w2 q 65 #[.bool S, .int .i64 (a : Nat), .int .i64 z] := hQ2
      have hRq := hR2
      have hoq := ho2
      have hHq := hH2
      have hsp := hs2
      clear hQ2 hR2 ho2 hH2
      have x0 : w2.cell? ⟨q, 0, none⟩ = some (.bool S) := kq.cell 0
      have x2 : w2.cell? ⟨q, 2, none⟩ = some (.int .i64 z) := kq.cell 2
      have xs : w2.cell? ⟨g, 3, none⟩ = some (.bool s2.2) := Blk.cell hRq 3
      have xf : w2.frozen? ⟨g, 3, none⟩ = false := Blk.frozen hRq 3
      cases S
      · go_wp2_with fail
        go_ret
        have hv : turnV bs s2 (false, a, z) = (0, (s2.1, true)) := by unfold turnV; rw [if_pos (.inl rfl)]
        have hr2 := Hr.out
        rw [HT.out] at hr2
        simp only [] at hr2
        rw [hv] at hr2
        subst hr2
        refine RV.mk ⟨rfl, ?_, kq.farX ⟨g, 3, none⟩ (.bool true) (fun e => hqg e.symm), hoq.out.setG 3 (.bool true)⟩
        have := Blk.set hRq 3 (.bool true)
        exact this
      · by_cases hz0 : z < 0
        · go_wp2_with fail
          go_ret
          have hv : turnV bs s2 (true, a, z) = (0, (s2.1, true)) := by unfold turnV; rw [if_pos (.inr hz0)]
          have hr2 := Hr.out
          rw [HT.out] at hr2
          simp only [] at hr2
          rw [hv] at hr2
          subst hr2
          refine RV.mk ⟨rfl, ?_, kq.farX ⟨g, 3, none⟩ (.bool true) (fun e => hqg e.symm), hoq.out.setG 3 (.bool true)⟩
          have := Blk.set hRq 3 (.bool true)
          exact this
        · go_wp2_with fail
          obtain ⟨b, rfl⟩ := Int.eq_ofNat_of_zero_le (show 0 ≤ z by omega)
          obtain ⟨⟨v5, s5⟩, h5⟩ : ∃ x, tk bs s2 (64 - a - b) = x := ⟨_, rfl⟩
          have hv : turnV bs s2 (true, a, (b : Int)) = (v5 * 2 ^ b, s5) := by unfold turnV; rw [if_neg (by simp)]; simp only [Int.toNat_natCast]; rw [h5]
          have hlt : v5 * 2 ^ b < 18446744073709551616 := by have := turnV_lt (bs := bs) (s := s2) (W := (true, a, (b : Int))); rw [hv] at this; exact this
          have eW : IntKind.u64.wrap ((v5 : Int) * 2 ^ b) = ((v5 * 2 ^ b : Nat) : Int) := by rw [show (v5 : Int) * 2 ^ b = ((v5 * 2 ^ b : Nat) : Int) by simp]; exact IntWalk.u64_in _ (by omega)
          have hr2 := Hr.out
          rw [HT.out] at hr2
          simp only [] at hr2
          rw [hv] at hr2
          have hr2 := Lib.hid hr2
          have H5 := Lib.hid h5
          have hlt := Lib.hid hlt
          clear h5 hv xs xf
          have hgq' : g ≤ w2.heap.size := Nat.le_of_lt (Blk.lt hRq)
          have hRq := Lib.hid hRq
          have x1 : w2.cell? ⟨q, 1, none⟩ = some (.int .i64 (a : Nat)) := kq.cell 1
          go_region_held3 (fun w' => w'.cell? ⟨q, 0, none⟩ = some (.bool true) ∧ w'.cell? ⟨q, 1, none⟩ = some (.int .i64 (a : Nat)) ∧ w'.cell? ⟨q, 2, none⟩ = some (.int .i64 (b : Nat)))
            (first | (refine keepX (t := 65) ?_; (repeat' (first | with_reducible exact kW8 | with_reducible exact kW7 | with_reducible exact kq | with_reducible refine Blk.drewX ?_)); done) | (trace_state; fail))
            (first
              | (go_at_call 27; refine (size_any true (a : Nat) (b : Nat) (by omega) (by omega) (by omega) (by omega) _).mono ?_; rintro e w7 ⟨rfl, hw7⟩; have kW7 : Blk w7 q 65 _ := (by rw [hw7]; first | with_reducible exact Blk.alloc kq _ | with_reducible exact Blk.alloc (Blk.drewX kq) _); have hR7 : RdAt w7 g A c bs s2 := (by rw [hw7]; first | exact Blk.alloc (Blk.drewX hRq.out) _ | exact Blk.alloc hRq.out _); have hO7 : OnlyB g q w2 w7 := (by rw [hw7]; first | with_reducible exact (OnlyB.refl g q _).alloc _ | exact ((OnlyB.refl g q _).drewN 1).alloc _); have hH7 : Has w7 g A (u8s (packB bs)) := hHq.below (hO7.below hgq' (Nat.le_refl _) (Nat.le_of_lt hgq)); clear hw7)
              | (go_at_call 30; refine (tk_any A c bs s2 (64 - a - b) _ (by omega) (v5, s5) H5.out (by omega) g hsp hl _ (by first | exact hH7 | exact Has.drewX hH7) (by first | with_reducible exact hR7 | exact Blk.drewX hR7)).mono ?_; rintro e w8 ⟨v, rfl, rfl, hR8, hon8⟩; have kW8 := Blk.only (show Blk _ q 65 _ by first | with_reducible exact kW7 | with_reducible exact Blk.drewX kW7) hon8 hqg; have hO8 := OnlyB.trans (show OnlyB g q w2 _ by first | with_reducible exact hO7 | exact hO7.drewN 1) (OnlyB.of hon8)))
          go_wp2_with fail
          go_ret
          have hr3 := hr2.out
          subst hr3
          exact RV.mk ⟨rfl, hR8, kW8, hoq.out.trans hO8⟩
end Go.Proofs.YtmbpgenjjgepiaaDoor
