/- What Merge of package claim gives. Conditions: claims lie in their cells. -/
import Derived.Test.YtokilodekbjpnaaChkC
import Derived.Test.YtokilodekbjpnaaOwnC
import Derived.Test.YtokilodekbjpnaaStep
import Derived.Deep.RegionHeld3
namespace Go.Proofs.Ytokilodekbjpnaa
open Go.RowKit

theorem elClm : Elem Try.prog 28 34 4 56 := Elem.mk' (z := .agg #[.int .i64 0, .int .i64 0, .string ⟨#[]⟩, .slice none 0 0]) Try.underlying28 (by kernel_rfl) rfl (by decide)
def sLenC : Value → Nat
  | .slice _ n _ => n
  | _ => 0
def MergeP (r : List Clm × Int) (w : World) (v : Value) (w' : World) : Prop :=
  ∃ (O : List ClE) (A : Option Addr) (c : Nat), v = .tuple #[.slice A O.length c, .int .i64 r.2] ∧ O.map ClE.x = r.1 ∧ w'.ownsRow w.heap.size 34 4 (.slice A O.length c) O.length (clCs O) ∧ RowsOwn w' w.heap.size O ∧ Below w.heap.size w w'
theorem clm_one (v s : Int) (a : ByteArray) (A : Option Addr) (n c : Nat) : ∀ u ∈ (#[Value.int .i64 v, .int .i64 s, .string a, .slice A n c] : Array Value).toList, u.oneCell' = true := by
  intro u hu
  simp at hu
  rcases hu with rfl | rfl | rfl | rfl <;> rfl
theorem clCs_len (L : List ClE) : (clCs L).length = L.length * 4 := by
  induction L with
  | nil => rfl
  | cons x L ih => simp only [clCs, List.flatMap_cons, List.length_append] at ih ⊢; rw [ih, List.length_cons, Nat.add_mul]; simp [clC]; omega
theorem clCs_app1 (L : List ClE) (e : ClE) : clCs (L ++ [e]) = clCs L ++ (#[Value.int .i64 e.v, .int .i64 e.s, .string e.nm, .slice e.t.A e.t.l.length e.t.c] : Array Value).toList := by simp [clCs, clC]
theorem Has.tailC {w : World} {B d : Nat} {ad : Addr} {y : ClE} {l : List ClE} (h : Has w B (some ad) (clCs (y :: l))) (hd : l.length + 1 ≤ d) :
    Has w B (if d = 1 then some ad else some ⟨ad.block, ad.off + 4, none⟩) (clCs l) := by
  have h1 := h.cut (k := 1) (n := l.length + 1) (size := 4) (cap := d) (by rw [clCs_len]; rfl) hd
  have e : (clCs (y :: l)).drop (1 * 4) = clCs l := rfl
  rw [e] at h1
  have e2 : (if d = 1 then some ad else Option.map (fun x => x.add (1 * 4)) (some ad)) = (if d = 1 then some ad else some ⟨ad.block, ad.off + 4, none⟩) := by
    split
    · rfl
    · simp [Addr.add]
  rw [← e2]
  exact h1
theorem Has.headC {w : World} {B : Nat} {A : Option Addr} {y : ClE} {l : List ClE} (h : Has w B A (clCs (y :: l))) :
    ∃ ad : Addr, A = some ad ∧ ad.block < B ∧ w.cell? ad = some (.int .i64 y.v) ∧ w.cell? ⟨ad.block, ad.off + 1, none⟩ = some (.int .i64 y.s) ∧ w.cell? ⟨ad.block, ad.off + 2, none⟩ = some (.string y.nm) ∧ w.cell? ⟨ad.block, ad.off + 3, none⟩ = some (.slice y.t.A y.t.l.length y.t.c) := by
  obtain ⟨ad, rfl, h1, c0, c1, c2, c3⟩ := h.clAt (show 0 < (y :: l).length by simp)
  have e : ad.add (0 * 4) = ad := by simp [Addr.add]
  rw [e] at c0 c1 c2 c3
  exact ⟨ad, rfl, h1, c0, c1, c2, c3⟩
theorem keepC4 {w W : World} {B : Nat} {ad : Addr} {x : ClE} (k : Below B w W) (hb : ad.block < B) (c0 : w.cell? ad = some (.int .i64 x.v)) (c1 : w.cell? ⟨ad.block, ad.off + 1, none⟩ = some (.int .i64 x.s)) (c2 : w.cell? ⟨ad.block, ad.off + 2, none⟩ = some (.string x.nm)) (c3 : w.cell? ⟨ad.block, ad.off + 3, none⟩ = some (.slice x.t.A x.t.l.length x.t.c)) :
    W.cell? ad = some (.int .i64 x.v) ∧ W.cell? ⟨ad.block, ad.off + 1, none⟩ = some (.int .i64 x.s) ∧ W.cell? ⟨ad.block, ad.off + 2, none⟩ = some (.string x.nm) ∧ W.cell? ⟨ad.block, ad.off + 3, none⟩ = some (.slice x.t.A x.t.l.length x.t.c) :=
  ⟨(k.cell (p := ad) hb).trans c0, (k.cell (p := ⟨ad.block, ad.off + 1, none⟩) hb).trans c1, (k.cell (p := ⟨ad.block, ad.off + 2, none⟩) hb).trans c2, (k.cell (p := ⟨ad.block, ad.off + 3, none⟩) hb).trans c3⟩
abbrev clA4 (x : ClE) : Array Value := #[.int .i64 x.v, .int .i64 x.s, .string x.nm, .slice x.t.A x.t.l.length x.t.c]
theorem keepC8 {w W : World} {B g : Nat} {ad : Addr} {x y : ClE} (k : Below B w W) (hb : ad.block < B) (hg : g < B) (c0 : w.cell? ad = some (.int .i64 x.v)) (c1 : w.cell? ⟨ad.block, ad.off + 1, none⟩ = some (.int .i64 x.s)) (c2 : w.cell? ⟨ad.block, ad.off + 2, none⟩ = some (.string x.nm)) (c3 : w.cell? ⟨ad.block, ad.off + 3, none⟩ = some (.slice x.t.A x.t.l.length x.t.c)) (kg : Blk w g 34 (clA4 y)) :
    (W.cell? ad = some (.int .i64 x.v) ∧ W.cell? ⟨ad.block, ad.off + 1, none⟩ = some (.int .i64 x.s) ∧ W.cell? ⟨ad.block, ad.off + 2, none⟩ = some (.string x.nm) ∧ W.cell? ⟨ad.block, ad.off + 3, none⟩ = some (.slice x.t.A x.t.l.length x.t.c)) ∧ W.cell? ⟨g, 0, none⟩ = some (.int .i64 y.v) ∧ W.cell? ⟨g, 1, none⟩ = some (.int .i64 y.s) ∧ W.cell? ⟨g, 2, none⟩ = some (.string y.nm) ∧ W.cell? ⟨g, 3, none⟩ = some (.slice y.t.A y.t.l.length y.t.c) :=
  ⟨keepC4 k hb c0 c1 c2 c3, (k.cell (p := ⟨g, 0, none⟩) hg).trans (kg.cell 0), (k.cell (p := ⟨g, 1, none⟩) hg).trans (kg.cell 1), (k.cell (p := ⟨g, 2, none⟩) hg).trans (kg.cell 2), (k.cell (p := ⟨g, 3, none⟩) hg).trans (kg.cell 3)⟩
theorem below_drewM {B : Nat} {a w : World} (h : Below B a w) : Below B a w.drew := below_drewN h 1
theorem Row.ok.drewM {w : World} {x : Row} (h : x.ok w) : x.ok w.drew := h
theorem nodeN_20 {nm : ByteArray} {tk : List Nat} (h : nodeN nm tk = 0) : tk.length ≤ 20 := by
  unfold nodeN at h
  split at h
  · omega
  · split at h
    · omega
    · omega
theorem checkC_20 {L : List ClE} (h : checkC (L.map ClE.x) = 0) : L.length ≤ 20 ∧ ∀ e ∈ L, e.t.l.length ≤ 20 := by
  obtain ⟨h1, h2, _⟩ := checkC_zero.1 h
  rw [List.length_map] at h1
  exact ⟨h1, fun e he => nodeN_20 (h2 e.x (List.mem_map_of_mem he)).1⟩
def Few (w : World) (L : List ClE) : Prop := ∀ e ∈ L, Row.ok w e.t ∧ e.t.l.length ≤ 20
theorem Few.tail {w : World} {x : ClE} {L : List ClE} (h : Few w (x :: L)) : Few w L := fun e he => h e (by simp [he])

theorem slice_eqC {A : Option Addr} {n m c : Nat} (h : n = m) : Value.slice A n c = .slice A m c := by rw [h]
set_option maxRecDepth 1000000 in
set_option maxHeartbeats 4000000 in
theorem cmerge_any (A : Option Addr) (n c : Nat) (L : List ClE) (hn : L.length = n) (hac : n ≤ c) (hc : c ≤ maxLen) (B : Option Addr) (m d : Nat) (M : List ClE) (hm : M.length = m) (hbd : m ≤ d) (hd : d ≤ maxLen) (w : World) (hA : Has w w.heap.size A (clCs L)) (hB : Has w w.heap.size B (clCs M)) (hL : ∀ e ∈ L, e.t.ok w) (hM : ∀ e ∈ M, e.t.ok w) :
    Calls Try.prog 22 #[.slice A n c, .slice B m d] w (RV (MergeP (mergeN (L.map ClE.x) (M.map ClE.x)) w)) := by
  have ha : n ≤ maxLen := by omega
  have hb : m ≤ maxLen := by omega
  have b0 : Below w.heap.size w (w.alloc (.cells #[.slice A n c, .slice B m d] 28)) := (Below.refl _ _).alloc (Nat.le_refl _) _
  have k0 : Blk (w.alloc (.cells #[.slice A n c, .slice B m d] 28)) w.heap.size 28 #[.slice A n c, .slice B m d] := Blk.new _ _ _
  obtain ⟨r, hr⟩ : ∃ r, mergeN (L.map ClE.x) (M.map ClE.x) = r := ⟨_, rfl⟩
  have Hr := Lib.hid hr
  rw [hr]
  clear hr
  have HL := Lib.hid hL; clear hL
  have HM := Lib.hid hM; clear hM
  have Hn := Lib.hid hn; clear hn
  have Hm := Lib.hid hm; clear hm
  go_enter Try.func22, Try.ntmps22
  go_wp2_with fail
  go_loopw [15] (fun i wr => ∃ k : Nat, k ≤ 2 ∧ i = .int .i64 (k : Nat) ∧ Hid (1 ≤ k → checkC (L.map ClE.x) = 0) ∧ Hid (2 ≤ k → checkC (M.map ClE.x) = 0) ∧ Below w.heap.size w wr ∧ Blk wr w.heap.size 28 #[.slice A n c, .slice B m d]) (fun i _ => 5 - (intOf i).toNat)
  case atStart => exact ⟨0, by omega, rfl, Lib.hid (by omega), Lib.hid (by omega), b0, k0⟩
  case round =>
    obtain ⟨k, hk, rfl, h1, h2, hbr, kr⟩ := hrel
    have z0 : wr.cell? ⟨w.heap.size, 0, none⟩ = some (.slice A n c) := kr.cell 0
    have z1 : wr.cell? ⟨w.heap.size, 1, none⟩ = some (.slice B m d) := kr.cell 1
    rcases (show k = 0 ∨ k = 1 ∨ k = 2 by omega) with rfl | rfl | rfl
    · obtain ⟨z, hz⟩ : ∃ z, checkC (L.map ClE.x) = z := ⟨_, rfl⟩
      by_cases hz0 : z = 0
      · subst hz0
        have Hz := Lib.hid hz; clear hz
        go_wp2_with fail
        refine (ccheck_any A n c L Hn.out ha _ (by exact hA.next hbr) (fun e he => (HL.out e he).next hbr)).mono ?_
        rintro e w1 ⟨rfl, hb1⟩
        rw [Hz.out]
        go_wp2_with fail
        go_roundw
        case rel => exact ⟨1, by omega, rfl, Lib.hid (fun _ => Hz.out), Lib.hid (by omega), bnext hbr hb1, kr.next hb1⟩
        case measure => simp [intOf]
      · have f1 : (z != 0) = true := by rw [bne_iff_ne]; exact hz0
        have HR := Lib.hid (show r = ([], z) by rw [← Hr.out]; unfold mergeN; rw [hz, if_pos hz0])
        have Hz := Lib.hid hz; clear hz
        go_wp2_with fail
        refine (ccheck_any A n c L Hn.out ha _ (by exact hA.next hbr) (fun e he => (HL.out e he).next hbr)).mono ?_
        rintro e w1 ⟨rfl, hb1⟩
        rw [Hz.out]
        go_wp2_with fail
        go_ret2
        rw [HR.out]
        exact RV.mk ⟨[], none, 0, rfl, rfl, ⟨rfl, .inl ⟨rfl, rfl⟩⟩, RowsOwn.nil _ _, bnext hbr hb1⟩
    · obtain ⟨z, hz⟩ : ∃ z, checkC (M.map ClE.x) = z := ⟨_, rfl⟩
      by_cases hz0 : z = 0
      · subst hz0
        have Hz := Lib.hid hz; clear hz
        go_wp2_with fail
        refine (ccheck_any B m d M Hm.out hb _ (by exact hB.next hbr) (fun e he => (HM.out e he).next hbr)).mono ?_
        rintro e w1 ⟨rfl, hb1⟩
        rw [Hz.out]
        go_wp2_with fail
        go_roundw
        case rel => exact ⟨2, by omega, rfl, Lib.hid (fun _ => h1.out (by omega)), Lib.hid (fun _ => Hz.out), bnext hbr hb1, kr.next hb1⟩
        case measure => simp [intOf]
      · have f1 : (z != 0) = true := by rw [bne_iff_ne]; exact hz0
        have HR := Lib.hid (show r = ([], z) by rw [← Hr.out]; unfold mergeN; rw [h1.out (by omega), if_neg (by simp), hz, if_pos hz0])
        have Hz := Lib.hid hz; clear hz
        go_wp2_with fail
        refine (ccheck_any B m d M Hm.out hb _ (by exact hB.next hbr) (fun e he => (HM.out e he).next hbr)).mono ?_
        rintro e w1 ⟨rfl, hb1⟩
        rw [Hz.out]
        go_wp2_with fail
        go_ret2
        rw [HR.out]
        exact RV.mk ⟨[], none, 0, rfl, rfl, ⟨rfl, .inl ⟨rfl, rfl⟩⟩, RowsOwn.nil _ _, bnext hbr hb1⟩
    · have l1 := checkC_20 (h1.out (by omega))
      have l2 := checkC_20 (h2.out (by omega))
      have HS := Lib.hid (show n + m ≤ 40 by have := l1.1; have := l2.1; rw [Hn.out] at *; rw [Hm.out] at *; omega)
      have F1 : Few w L := fun e he => ⟨HL.out e he, l1.2 e he⟩
      have F2 : Few w M := fun e he => ⟨HM.out e he, l2.2 e he⟩
      have HR : Hid (r = if 20 < (mergeC (L.map ClE.x) (M.map ClE.x)).length then ([], 2) else (mergeC (L.map ClE.x) (M.map ClE.x), 0)) := Lib.hid (by
        rw [← Hr.out]; unfold mergeN; rw [h1.out (by omega), if_neg (by simp), h2.out (by omega), if_neg (by simp)])
      have F1 := Lib.hid F1
      have F2 := Lib.hid F2
      clear l1 l2 h1 h2 z0 z1
      rw [show ((2 : Nat) : Int) = 2 from rfl]
      go_wp2_with fail
      obtain ⟨w9, hw9⟩ : ∃ w9, w9 = wr := ⟨_, rfl⟩
      rw [← hw9] at hbr kr ⊢
      clear hw9
      go_loopw [0, 1, 9] (fun x y o wr => ∃ (a' b' o' : List ClE) (A' B' O : Option Addr) (c' d' e : Nat), x = .slice A' a'.length c' ∧ y = .slice B' b'.length d' ∧ o = .slice O o'.length e ∧ a'.length ≤ c' ∧ c' ≤ maxLen ∧ b'.length ≤ d' ∧ d' ≤ maxLen ∧ Hid (mergeC (L.map ClE.x) (M.map ClE.x) = o'.map ClE.x ++ mergeC (a'.map ClE.x) (b'.map ClE.x)) ∧ o'.length + a'.length + b'.length ≤ 40 ∧
        Has wr w.heap.size A' (clCs a') ∧ Has wr w.heap.size B' (clCs b') ∧ Hid (Few w a') ∧ Hid (Few w b') ∧ wr.ownsRow w.heap.size 34 4 (.slice O o'.length e) o'.length (clCs o') ∧ Hid (RowsOwn wr w.heap.size o') ∧ Below w.heap.size w wr) (fun x y _ _ => sLenC x + sLenC y)
      case atStart =>
        exact ⟨L, M, [], A, B, none, c, d, 0, by rw [Hn.out], by rw [Hm.out], rfl, by rw [Hn.out]; exact hac, hc, by rw [Hm.out]; exact hbd, hd, Lib.hid rfl, by rw [Hn.out, Hm.out]; have := HS.out; simpa using this, hA.below hbr, hB.below hbr, F1, F2, ⟨rfl, .inl ⟨rfl, rfl⟩⟩, Lib.hid (RowsOwn.nil _ _), hbr⟩
      case round =>
        clear kr hbr
        obtain ⟨a', b', o', A', B', O, c', d', e, rfl, rfl, rfl, q1, q2, q3, q4, hm, hsum, hA', hB', fA, fB, hown, hrw, hbel⟩ := hrel
        have hbs := hbel.size
        have h16 : (o'.length + 1) * 56 ≤ 140737488355328 := by omega
        have h63 : o'.length + 1 ≤ maxLen := by unfold maxLen; omega
        rcases a' with _ | ⟨x, a1⟩ <;> rcases b' with _ | ⟨y, b1⟩
        · have hM : Hid (r = if 20 < o'.length then ([], 2) else (o'.map ClE.x, 0)) := Lib.hid (by
            rw [HR.out, hm.out]
            simp [mergeC])
          by_cases h20 : (20 : Int) < (o'.length : Int)
          · go_wp2_with fail
            go_ret2
            rw [hM.out, if_pos (by omega)]
            exact RV.mk ⟨[], none, 0, rfl, rfl, ⟨rfl, .inl ⟨rfl, rfl⟩⟩, RowsOwn.nil _ _, hbel⟩
          · go_wp2_with fail
            go_ret2
            rw [hM.out, if_neg (by omega)]
            exact RV.mk ⟨o', O, e, rfl, rfl, hown, hrw.out, hbel⟩
        · -- b alone
          obtain ⟨bd, rfl, hb2, d0, d1, d2, d3⟩ := hB'.headC
          have hTB := Lib.hid (hB'.tailC q3)
          have p3 : (1 : Int) ≤ (b1.length : Int) + 1 := by omega
          have p4 : (b1.length : Int) + 1 ≤ (d' : Int) := by simp at q3; omega
          have p6 : ((b1.length : Int) + 1 == 0) = false := by rw [beq_eq_false_iff_ne]; omega
          have hy := fB.out y (by simp)
          have hy20 := Lib.hid hy.2
          have hyo := Lib.hid (hy.1.next hbel)
          clear hy
          go_wp2_with fail
          go_quiet (fail)
          rename Nat => n1
          go_wp2_with fail
          go_quiet (fail)
          obtain ⟨we, hwe⟩ : ∃ we, (wr.drewN n1).drewN nq = we := ⟨_, rfl⟩
          have kb : Below wr.heap.size wr we := by rw [← hwe]; exact below_drewN (below_drewN (Below.refl _ _) _) _
          rw [hwe]
          clear hwe nq n1
          have kbs := kb.mono hbs
          have hown := own_next hown kb
          have hrw := Lib.hid (hrw.out.next kb)
          obtain ⟨d0, d1, d2, d3⟩ := keepC4 kbs hb2 d0 d1 d2 d3
          have hTB := Lib.hid (hTB.out.below kbs)
          have hyo := Lib.hid (hyo.out.next kb)
          have hA' := hA'.below kbs
          have hB' := hB'.below kbs
          have hbel := hbel.trans kbs
          have hbs : w.heap.size ≤ we.heap.size := hbel.size
          clear kb kbs
          go_wp2_with fail
          go_region_held3 (fun w' => w'.cell? bd = some (.int .i64 y.v) ∧ w'.cell? ⟨bd.block, bd.off + 1, none⟩ = some (.int .i64 y.s) ∧ w'.cell? ⟨bd.block, bd.off + 2, none⟩ = some (.string y.nm) ∧ w'.cell? ⟨bd.block, bd.off + 3, none⟩ = some (.slice y.t.A y.t.l.length y.t.c))
            (first | (refine keepC4 (B := w.heap.size) (w := we) ?_ hb2 d0 d1 d2 d3; (repeat' (first | with_reducible exact hB9 | with_reducible exact hB7 | with_reducible exact Below.refl _ _ | with_reducible refine below_drewM ?_ | with_reducible refine below_drewN ?_ _ | with_reducible refine Below.alloc ?_ (by first | exact hs3 | exact hbs) _)); done) | (trace_state; fail))
            (first
              | (go_at_call 53; refine (own1_any y.v y.s y.nm y.t (by have := hy20.out; omega) _ (by first | with_reducible exact hyo.out | with_reducible exact Row.ok.drewM hyo.out)).mono ?_; rintro e3 w3 ⟨v3, rfl, A3, c3', rfl, ho3, hb3⟩; have hB8 : Below we.heap.size we w3 := Below.trans (by first | with_reducible exact below_drewM (Below.refl _ _) | exact below_drewN (Below.refl _ _) 1) hb3; have hB7 : Below w.heap.size we w3 := hB8.mono hbs; have hs3 : w.heap.size ≤ w3.heap.size := Nat.le_trans hbs hB8.size; have hO3 := own_less ho3 hbs; have hown3 := own_next hown hB8; clear ho3; dsimp only)
              | (refine step_append1 rfl _ _ _ (by rfl) elClm (by exact hown3.alloc _) (by rfl) (by rfl) (by exact heap_alloc_new _ _) (by rfl) (clm_one _ _ _ _ _ _) h16 h63 (by simp; omega) ?_; intro A2 e2 w1 hown1 hgrow hbel1; have hB9 : Below w.heap.size we w1 := (hB7.alloc hs3 _).trans hbel1))
          have hO4 := hO3.alloc (.cells #[.int .i64 y.v, .int .i64 y.s, .string y.nm, .slice A3 y.t.l.length c3'] 34)
          have hown4 := hown3.alloc (.cells #[.int .i64 y.v, .int .i64 y.s, .string y.nm, .slice A3 y.t.l.length c3'] 34)
          have hrw4 := (hrw.out.next hB8).alloc (.cells #[.int .i64 y.v, .int .i64 y.s, .string y.nm, .slice A3 y.t.l.length c3'] 34)
          have hR1 := Lib.hid (RowsOwn.snoc (e := ⟨y.v, y.s, y.nm, ⟨A3, c3', y.t.l⟩⟩) (hrw4.grown hown4 (by decide) hgrow) (rk_grown hO4 hgrow (rk_two hO4 hown4 (by decide))))
          have Hown1 := Lib.hid hown1
          clear hown1 hgrow hbel1 hO3 hown3 hO4 hown4 hrw4
          go_roundw
          case rel => (repeat apply Exists.intro); refine ⟨?_, rfl⟩; exact ⟨[], b1, o' ++ [⟨y.v, y.s, y.nm, ⟨A3, c3', y.t.l⟩⟩], _, _, A2, _, _, e2, rfl, rfl, slice_eqC (by simp), q1, q2, by simp at q3; omega, by omega, Lib.hid (by rw [hm.out]; simp [mergeC, ClE.x]), by simp at hsum ⊢; omega,
            hA'.below hB9, hTB.out.below hB9, fA, Lib.hid fB.out.tail, by rw [List.length_append, clCs_app1]; exact Hown1.out, hR1, hbel.trans hB9⟩
          case measure => first | (simp [sLenC]; done) | (simp [sLenC]; omega)
        · -- a alone
          obtain ⟨ad, rfl, hb1, c0, c1, c2, c3⟩ := hA'.headC
          have hTA := Lib.hid (hA'.tailC q1)
          have p1 : (1 : Int) ≤ (a1.length : Int) + 1 := by omega
          have p2 : (a1.length : Int) + 1 ≤ (c' : Int) := by simp at q1; omega
          have p5 : ((a1.length : Int) + 1 == 0) = false := by rw [beq_eq_false_iff_ne]; omega
          have hx := fA.out x (by simp)
          have hx20 := Lib.hid hx.2
          have hxo := Lib.hid (hx.1.next hbel)
          clear hx
          go_wp2_with fail
          go_quiet (fail)
          obtain ⟨we, hwe⟩ : ∃ we, wr.drewN nq = we := ⟨_, rfl⟩
          have kb : Below wr.heap.size wr we := by rw [← hwe]; exact below_drewN (Below.refl _ _) _
          rw [hwe]
          clear hwe nq
          have kbs := kb.mono hbs
          have hown := own_next hown kb
          have hrw := Lib.hid (hrw.out.next kb)
          obtain ⟨c0, c1, c2, c3⟩ := keepC4 kbs hb1 c0 c1 c2 c3
          have hTA := Lib.hid (hTA.out.below kbs)
          have hxo := Lib.hid (hxo.out.next kb)
          have hA' := hA'.below kbs
          have hB' := hB'.below kbs
          have hbel := hbel.trans kbs
          have hbs : w.heap.size ≤ we.heap.size := hbel.size
          clear kb kbs
          go_wp2_with fail
          go_region_held3 (fun w' => w'.cell? ad = some (.int .i64 x.v) ∧ w'.cell? ⟨ad.block, ad.off + 1, none⟩ = some (.int .i64 x.s) ∧ w'.cell? ⟨ad.block, ad.off + 2, none⟩ = some (.string x.nm) ∧ w'.cell? ⟨ad.block, ad.off + 3, none⟩ = some (.slice x.t.A x.t.l.length x.t.c))
            (first | (refine keepC4 (B := w.heap.size) (w := we) ?_ hb1 c0 c1 c2 c3; (repeat' (first | with_reducible exact hB9 | with_reducible exact hB7 | with_reducible exact Below.refl _ _ | with_reducible refine below_drewM ?_ | with_reducible refine below_drewN ?_ _ | with_reducible refine Below.alloc ?_ (by first | exact hs3 | exact hbs) _)); done) | (trace_state; fail))
            (first
              | (go_at_call 53; refine (own1_any x.v x.s x.nm x.t (by have := hx20.out; omega) _ (by first | with_reducible exact hxo.out | with_reducible exact Row.ok.drewM hxo.out)).mono ?_; rintro e3 w3 ⟨v3, rfl, A3, c3', rfl, ho3, hb3⟩; have hB8 : Below we.heap.size we w3 := Below.trans (by first | with_reducible exact below_drewM (Below.refl _ _) | exact below_drewN (Below.refl _ _) 1) hb3; have hB7 : Below w.heap.size we w3 := hB8.mono hbs; have hs3 : w.heap.size ≤ w3.heap.size := Nat.le_trans hbs hB8.size; have hO3 := own_less ho3 hbs; have hown3 := own_next hown hB8; clear ho3; dsimp only)
              | (refine step_append1 rfl _ _ _ (by rfl) elClm (by exact hown3.alloc _) (by rfl) (by rfl) (by exact heap_alloc_new _ _) (by rfl) (clm_one _ _ _ _ _ _) h16 h63 (by simp; omega) ?_; intro A2 e2 w1 hown1 hgrow hbel1; have hB9 : Below w.heap.size we w1 := (hB7.alloc hs3 _).trans hbel1))
          have hO4 := hO3.alloc (.cells #[.int .i64 x.v, .int .i64 x.s, .string x.nm, .slice A3 x.t.l.length c3'] 34)
          have hown4 := hown3.alloc (.cells #[.int .i64 x.v, .int .i64 x.s, .string x.nm, .slice A3 x.t.l.length c3'] 34)
          have hrw4 := (hrw.out.next hB8).alloc (.cells #[.int .i64 x.v, .int .i64 x.s, .string x.nm, .slice A3 x.t.l.length c3'] 34)
          have hR1 := Lib.hid (RowsOwn.snoc (e := ⟨x.v, x.s, x.nm, ⟨A3, c3', x.t.l⟩⟩) (hrw4.grown hown4 (by decide) hgrow) (rk_grown hO4 hgrow (rk_two hO4 hown4 (by decide))))
          have Hown1 := Lib.hid hown1
          clear hown1 hgrow hbel1 hO3 hown3 hO4 hown4 hrw4
          go_roundw
          case rel => (repeat apply Exists.intro); refine ⟨?_, rfl⟩; exact ⟨a1, [], o' ++ [⟨x.v, x.s, x.nm, ⟨A3, c3', x.t.l⟩⟩], _, _, A2, _, _, e2, rfl, rfl, slice_eqC (by simp), by simp at q1; omega, by omega, q3, q4, Lib.hid (by rw [hm.out]; simp [mergeC_nil, ClE.x]), by simp at hsum ⊢; omega,
            hTA.out.below hB9, hB'.below hB9, Lib.hid fA.out.tail, fB, by rw [List.length_append, clCs_app1]; exact Hown1.out, hR1, hbel.trans hB9⟩
          case measure => first | (simp [sLenC]; done) | (simp [sLenC]; omega)
        · -- both
          obtain ⟨ad, rfl, hb1, c0, c1, c2, c3⟩ := hA'.headC
          have hTA := Lib.hid (hA'.tailC q1)
          have p1 : (1 : Int) ≤ (a1.length : Int) + 1 := by omega
          have p2 : (a1.length : Int) + 1 ≤ (c' : Int) := by simp at q1; omega
          have p5 : ((a1.length : Int) + 1 == 0) = false := by rw [beq_eq_false_iff_ne]; omega
          have hx := fA.out x (by simp)
          have hx20 := Lib.hid hx.2
          have hxo := Lib.hid (hx.1.next hbel)
          clear hx
          obtain ⟨bd, rfl, hb2, d0, d1, d2, d3⟩ := hB'.headC
          have hTB := Lib.hid (hB'.tailC q3)
          have p3 : (1 : Int) ≤ (b1.length : Int) + 1 := by omega
          have p4 : (b1.length : Int) + 1 ≤ (d' : Int) := by simp at q3; omega
          have p6 : ((b1.length : Int) + 1 == 0) = false := by rw [beq_eq_false_iff_ne]; omega
          have hy := fB.out y (by simp)
          have hy20 := Lib.hid hy.2
          have hyo := Lib.hid (hy.1.next hbel)
          clear hy
          by_cases hlt : nlt x.nm y.nm
          · have o1 : Op.bytesLess x.nm.toList y.nm.toList = true := by rw [nlt_bytes, decide_eq_true hlt]
            go_wp2_with fail
            go_quiet (fail)
            obtain ⟨we, hwe⟩ : ∃ we, wr.drewN nq = we := ⟨_, rfl⟩
            have kb : Below wr.heap.size wr we := by rw [← hwe]; exact below_drewN (Below.refl _ _) _
            rw [hwe]
            clear hwe nq
            have kbs := kb.mono hbs
            have hown := own_next hown kb
            have hrw := Lib.hid (hrw.out.next kb)
            obtain ⟨c0, c1, c2, c3⟩ := keepC4 kbs hb1 c0 c1 c2 c3
            have hTA := Lib.hid (hTA.out.below kbs)
            have hxo := Lib.hid (hxo.out.next kb)
            obtain ⟨d0, d1, d2, d3⟩ := keepC4 kbs hb2 d0 d1 d2 d3
            have hTB := Lib.hid (hTB.out.below kbs)
            have hyo := Lib.hid (hyo.out.next kb)
            have hA' := hA'.below kbs
            have hB' := hB'.below kbs
            have hbel := hbel.trans kbs
            have hbs : w.heap.size ≤ we.heap.size := hbel.size
            clear kb kbs
            go_wp2_with fail
            go_region_held3 (fun w' => w'.cell? ad = some (.int .i64 x.v) ∧ w'.cell? ⟨ad.block, ad.off + 1, none⟩ = some (.int .i64 x.s) ∧ w'.cell? ⟨ad.block, ad.off + 2, none⟩ = some (.string x.nm) ∧ w'.cell? ⟨ad.block, ad.off + 3, none⟩ = some (.slice x.t.A x.t.l.length x.t.c))
              (first | (refine keepC4 (B := w.heap.size) (w := we) ?_ hb1 c0 c1 c2 c3; (repeat' (first | with_reducible exact hB9 | with_reducible exact hB7 | with_reducible exact Below.refl _ _ | with_reducible refine below_drewM ?_ | with_reducible refine below_drewN ?_ _ | with_reducible refine Below.alloc ?_ (by first | exact hs3 | exact hbs) _)); done) | (trace_state; fail))
              (first
                | (go_at_call 53; refine (own1_any x.v x.s x.nm x.t (by have := hx20.out; omega) _ (by first | with_reducible exact hxo.out | with_reducible exact Row.ok.drewM hxo.out)).mono ?_; rintro e3 w3 ⟨v3, rfl, A3, c3', rfl, ho3, hb3⟩; have hB8 : Below we.heap.size we w3 := Below.trans (by first | with_reducible exact below_drewM (Below.refl _ _) | exact below_drewN (Below.refl _ _) 1) hb3; have hB7 : Below w.heap.size we w3 := hB8.mono hbs; have hs3 : w.heap.size ≤ w3.heap.size := Nat.le_trans hbs hB8.size; have hO3 := own_less ho3 hbs; have hown3 := own_next hown hB8; clear ho3; dsimp only)
                | (refine step_append1 rfl _ _ _ (by rfl) elClm (by exact hown3.alloc _) (by rfl) (by rfl) (by exact heap_alloc_new _ _) (by rfl) (clm_one _ _ _ _ _ _) h16 h63 (by simp; omega) ?_; intro A2 e2 w1 hown1 hgrow hbel1; have hB9 : Below w.heap.size we w1 := (hB7.alloc hs3 _).trans hbel1))
            have hO4 := hO3.alloc (.cells #[.int .i64 x.v, .int .i64 x.s, .string x.nm, .slice A3 x.t.l.length c3'] 34)
            have hown4 := hown3.alloc (.cells #[.int .i64 x.v, .int .i64 x.s, .string x.nm, .slice A3 x.t.l.length c3'] 34)
            have hrw4 := (hrw.out.next hB8).alloc (.cells #[.int .i64 x.v, .int .i64 x.s, .string x.nm, .slice A3 x.t.l.length c3'] 34)
            have hR1 := Lib.hid (RowsOwn.snoc (e := ⟨x.v, x.s, x.nm, ⟨A3, c3', x.t.l⟩⟩) (hrw4.grown hown4 (by decide) hgrow) (rk_grown hO4 hgrow (rk_two hO4 hown4 (by decide))))
            have Hown1 := Lib.hid hown1
            clear hown1 hgrow hbel1 hO3 hown3 hO4 hown4 hrw4
            go_roundw
            case rel => (repeat apply Exists.intro); refine ⟨?_, rfl⟩; exact ⟨a1, y :: b1, o' ++ [⟨x.v, x.s, x.nm, ⟨A3, c3', x.t.l⟩⟩], _, _, A2, _, _, e2, rfl, rfl, slice_eqC (by simp), by simp at q1; omega, by omega, q3, q4, Lib.hid (by rw [hm.out]; rw [List.map_cons, List.map_cons, mergeC, if_pos (show nlt x.x.nm y.x.nm from hlt)]; simp [ClE.x]), by simp at hsum ⊢; omega,
              hTA.out.below hB9, hB'.below hB9, Lib.hid fA.out.tail, fB, by rw [List.length_append, clCs_app1]; exact Hown1.out, hR1, hbel.trans hB9⟩
            case measure => first | (simp [sLenC]; done) | (simp [sLenC]; omega)
          · have o1 : Op.bytesLess x.nm.toList y.nm.toList = false := by rw [nlt_bytes, decide_eq_false hlt]
            by_cases hgt : nlt y.nm x.nm
            · have o2 : Op.bytesLess y.nm.toList x.nm.toList = true := by rw [nlt_bytes, decide_eq_true hgt]
              go_wp2_with fail
              go_quiet (fail)
              rename Nat => n1
              go_wp2_with fail
              go_quiet (fail)
              obtain ⟨we, hwe⟩ : ∃ we, (wr.drewN n1).drewN nq = we := ⟨_, rfl⟩
              have kb : Below wr.heap.size wr we := by rw [← hwe]; exact below_drewN (below_drewN (Below.refl _ _) _) _
              rw [hwe]
              clear hwe nq n1
              have kbs := kb.mono hbs
              have hown := own_next hown kb
              have hrw := Lib.hid (hrw.out.next kb)
              obtain ⟨c0, c1, c2, c3⟩ := keepC4 kbs hb1 c0 c1 c2 c3
              have hTA := Lib.hid (hTA.out.below kbs)
              have hxo := Lib.hid (hxo.out.next kb)
              obtain ⟨d0, d1, d2, d3⟩ := keepC4 kbs hb2 d0 d1 d2 d3
              have hTB := Lib.hid (hTB.out.below kbs)
              have hyo := Lib.hid (hyo.out.next kb)
              have hA' := hA'.below kbs
              have hB' := hB'.below kbs
              have hbel := hbel.trans kbs
              have hbs : w.heap.size ≤ we.heap.size := hbel.size
              clear kb kbs
              go_wp2_with fail
              go_region_held3 (fun w' => w'.cell? bd = some (.int .i64 y.v) ∧ w'.cell? ⟨bd.block, bd.off + 1, none⟩ = some (.int .i64 y.s) ∧ w'.cell? ⟨bd.block, bd.off + 2, none⟩ = some (.string y.nm) ∧ w'.cell? ⟨bd.block, bd.off + 3, none⟩ = some (.slice y.t.A y.t.l.length y.t.c))
                (first | (refine keepC4 (B := w.heap.size) (w := we) ?_ hb2 d0 d1 d2 d3; (repeat' (first | with_reducible exact hB9 | with_reducible exact hB7 | with_reducible exact Below.refl _ _ | with_reducible refine below_drewM ?_ | with_reducible refine below_drewN ?_ _ | with_reducible refine Below.alloc ?_ (by first | exact hs3 | exact hbs) _)); done) | (trace_state; fail))
                (first
                  | (go_at_call 53; refine (own1_any y.v y.s y.nm y.t (by have := hy20.out; omega) _ (by first | with_reducible exact hyo.out | with_reducible exact Row.ok.drewM hyo.out)).mono ?_; rintro e3 w3 ⟨v3, rfl, A3, c3', rfl, ho3, hb3⟩; have hB8 : Below we.heap.size we w3 := Below.trans (by first | with_reducible exact below_drewM (Below.refl _ _) | exact below_drewN (Below.refl _ _) 1) hb3; have hB7 : Below w.heap.size we w3 := hB8.mono hbs; have hs3 : w.heap.size ≤ w3.heap.size := Nat.le_trans hbs hB8.size; have hO3 := own_less ho3 hbs; have hown3 := own_next hown hB8; clear ho3; dsimp only)
                  | (refine step_append1 rfl _ _ _ (by rfl) elClm (by exact hown3.alloc _) (by rfl) (by rfl) (by exact heap_alloc_new _ _) (by rfl) (clm_one _ _ _ _ _ _) h16 h63 (by simp; omega) ?_; intro A2 e2 w1 hown1 hgrow hbel1; have hB9 : Below w.heap.size we w1 := (hB7.alloc hs3 _).trans hbel1))
              have hO4 := hO3.alloc (.cells #[.int .i64 y.v, .int .i64 y.s, .string y.nm, .slice A3 y.t.l.length c3'] 34)
              have hown4 := hown3.alloc (.cells #[.int .i64 y.v, .int .i64 y.s, .string y.nm, .slice A3 y.t.l.length c3'] 34)
              have hrw4 := (hrw.out.next hB8).alloc (.cells #[.int .i64 y.v, .int .i64 y.s, .string y.nm, .slice A3 y.t.l.length c3'] 34)
              have hR1 := Lib.hid (RowsOwn.snoc (e := ⟨y.v, y.s, y.nm, ⟨A3, c3', y.t.l⟩⟩) (hrw4.grown hown4 (by decide) hgrow) (rk_grown hO4 hgrow (rk_two hO4 hown4 (by decide))))
              have Hown1 := Lib.hid hown1
              clear hown1 hgrow hbel1 hO3 hown3 hO4 hown4 hrw4
              go_roundw
              case rel => (repeat apply Exists.intro); refine ⟨?_, rfl⟩; exact ⟨x :: a1, b1, o' ++ [⟨y.v, y.s, y.nm, ⟨A3, c3', y.t.l⟩⟩], _, _, A2, _, _, e2, rfl, rfl, slice_eqC (by simp), q1, q2, by simp at q3; omega, by omega, Lib.hid (by rw [hm.out]; rw [List.map_cons, List.map_cons, mergeC, if_neg (show ¬ nlt x.x.nm y.x.nm from hlt), if_pos (show nlt y.x.nm x.x.nm from hgt)]; simp [ClE.x]), by simp at hsum ⊢; omega,
                hA'.below hB9, hTB.out.below hB9, fA, Lib.hid fB.out.tail, by rw [List.length_append, clCs_app1]; exact Hown1.out, hR1, hbel.trans hB9⟩
              case measure => first | (simp [sLenC]; done) | (simp [sLenC]; omega)
            · have o2 : Op.bytesLess y.nm.toList x.nm.toList = false := by rw [nlt_bytes, decide_eq_false hgt]
              have hxy : x.nm = y.nm := nlt_tri hlt hgt
              obtain ⟨nw, hnw⟩ : ∃ nw, newerN y.x x.x = nw := ⟨_, rfl⟩
              have Hnw := Lib.hid hnw; clear hnw
              have Hxy := Lib.hid hxy; clear hxy hlt hgt
              go_wp2_with fail
              go_quiet (fail)
              rename Nat => n1
              go_wp2_with fail
              go_quiet (fail)
              obtain ⟨we, hwe⟩ : ∃ we, (wr.drewN n1).drewN nq = we := ⟨_, rfl⟩
              have kb : Below wr.heap.size wr we := by rw [← hwe]; exact below_drewN (below_drewN (Below.refl _ _) _) _
              rw [hwe]
              clear hwe nq n1 o1 o2
              have kbs := kb.mono hbs
              obtain ⟨c0, c1, c2, c3⟩ := keepC4 kbs hb1 c0 c1 c2 c3
              obtain ⟨d0, d1, d2, d3⟩ := keepC4 kbs hb2 d0 d1 d2 d3
              have hown := own_next hown kb
              have hrw := Lib.hid (hrw.out.next kb)
              have hTA := Lib.hid (hTA.out.below kbs)
              have hTB := Lib.hid (hTB.out.below kbs)
              have hxo := Lib.hid (hxo.out.next kb)
              have hyo := Lib.hid (hyo.out.next kb)
              have hbel := hbel.trans kbs
              have hbs : w.heap.size ≤ we.heap.size := hbel.size
              clear kb kbs
              have hnl := rk_lt hown
              have kc : Blk (we.alloc (.cells (clA4 x) 34)) we.heap.size 34 (clA4 x) := Blk.new _ _ _
              have hbc : Below we.heap.size we (we.alloc (.cells (clA4 x) 34)) := one_alloc _ _
              go_wp2_with fail
              obtain ⟨wc, hwc⟩ : ∃ wc, we.alloc (.cells (clA4 x) 34) = wc := ⟨_, rfl⟩
              rw [hwc] at kc hbc
              rw [hwc]
              clear hwc
              obtain ⟨gc, hgc⟩ : ∃ gc, we.heap.size = gc := ⟨_, rfl⟩
              rw [hgc] at kc hnl ⊢
              have hgw : w.heap.size ≤ gc := by omega
              have kcs := hbc.mono hbs
              obtain ⟨d0, d1, d2, d3⟩ := keepC4 kcs hb2 d0 d1 d2 d3
              have hown := own_next hown hbc
              have hrw := Lib.hid (hrw.out.next hbc)
              have hTA := Lib.hid (hTA.out.below kcs)
              have hTB := Lib.hid (hTB.out.below kcs)
              have hxo := Lib.hid (hxo.out.next hbc)
              have hyo := Lib.hid (hyo.out.next hbc)
              have hbel := hbel.trans kcs
              have hbs : w.heap.size ≤ wc.heap.size := hbel.size
              clear kcs hbc hgc c0 c1 c2 c3
              have hgl : gc < wc.heap.size := kc.lt
              have hbl : bd.block < wc.heap.size := Nat.lt_of_lt_of_le hb2 hbs
              have e0 : wc.cell? ⟨gc, 0, none⟩ = some (.int .i64 x.v) := kc.cell 0
              have e1 : wc.cell? ⟨gc, 1, none⟩ = some (.int .i64 x.s) := kc.cell 1
              have e2 : wc.cell? ⟨gc, 2, none⟩ = some (.string x.nm) := kc.cell 2
              have e3 : wc.cell? ⟨gc, 3, none⟩ = some (.slice x.t.A x.t.l.length x.t.c) := kc.cell 3
              have hly : y.t.l.length ≤ maxLen := by have := hy20.out; unfold maxLen; omega
              have hlx : x.t.l.length ≤ maxLen := by have := hx20.out; unfold maxLen; omega
              go_region_held3 (fun w' => (w'.cell? bd = some (.int .i64 y.v) ∧ w'.cell? ⟨bd.block, bd.off + 1, none⟩ = some (.int .i64 y.s) ∧ w'.cell? ⟨bd.block, bd.off + 2, none⟩ = some (.string y.nm) ∧ w'.cell? ⟨bd.block, bd.off + 3, none⟩ = some (.slice y.t.A y.t.l.length y.t.c)) ∧ w'.cell? ⟨gc, 0, none⟩ = some (.int .i64 x.v) ∧ w'.cell? ⟨gc, 1, none⟩ = some (.int .i64 x.s) ∧ w'.cell? ⟨gc, 2, none⟩ = some (.string x.nm) ∧ w'.cell? ⟨gc, 3, none⟩ = some (.slice x.t.A x.t.l.length x.t.c))
                (first | (refine keepC8 (B := wc.heap.size) (w := wc) ?_ hbl hgl d0 d1 d2 d3 kc; (repeat' (first | with_reducible exact hB4 | with_reducible exact Below.refl _ _ | with_reducible refine below_drewM ?_ | with_reducible refine below_drewN ?_ _)); done) | (trace_state; fail))
                ((go_at_call 14; refine (newer_any y.x x.x y.t.A x.t.A _ y.t.c _ x.t.c rfl rfl hly hlx _ (by first | with_reducible exact hyo.out.2.2.2 | exact hyo.out.2.2.2) (by first | with_reducible exact hxo.out.2.2.2 | exact hxo.out.2.2.2)).mono ?_; rw [Hnw.out]; rintro e4 w4 ⟨rfl, hb4⟩; have hB4 : Below wc.heap.size wc w4 := Below.trans (by first | with_reducible exact below_drewM (Below.refl _ _) | exact below_drewN (Below.refl _ _) 1) hb4))
              have kc4 := kc.next hB4
              have hown := own_next hown hB4
              have hrw := Lib.hid (hrw.out.next hB4)
              have kc4s := hB4.mono hbs
              have hTA := Lib.hid (hTA.out.below kc4s)
              have hTB := Lib.hid (hTB.out.below kc4s)
              obtain ⟨d0, d1, d2, d3⟩ := keepC4 kc4s hb2 d0 d1 d2 d3
              have hxo := Lib.hid (hxo.out.next hB4)
              have hyo := Lib.hid (hyo.out.next hB4)
              have hbel := hbel.trans kc4s
              have hbs : w.heap.size ≤ w4.heap.size := hbel.size
              clear kc4s hB4 hb4 kc e0 e1 e2 e3 hgl hbl
              cases nw
              · have f0 : w4.cell? ⟨gc, 0, none⟩ = some (.int .i64 x.v) := kc4.cell 0
                have f1 : w4.cell? ⟨gc, 1, none⟩ = some (.int .i64 x.s) := kc4.cell 1
                have f2 : w4.cell? ⟨gc, 2, none⟩ = some (.string x.nm) := kc4.cell 2
                have f3 : w4.cell? ⟨gc, 3, none⟩ = some (.slice x.t.A x.t.l.length x.t.c) := kc4.cell 3
                go_wp2_with fail
                refine (own1_any x.v x.s x.nm x.t (by have := hx20.out; omega) _ (by exact hxo.out)).mono ?_
                rintro e6 w6 ⟨v6, rfl, A3, c3', rfl, ho3, hb6⟩
                have hO3 := own_less ho3 hbs
                have hown6 := own_next hown hb6
                have hrw6 := Lib.hid (hrw.out.next hb6)
                have hb06 := hb6.mono hbs
                have hTA6 := Lib.hid (hTA.out.below hb06)
                have hTB6 := Lib.hid (hTB.out.below hb06)
                have hbel6 := hbel.trans hb06
                have hs6 : w.heap.size ≤ w6.heap.size := hbel6.size
                clear ho3 f0 f1 f2 f3
                go_wp2_with (at_builtin; refine wpList_append1 rfl _ _ _ rfl elClm rfl hown6 rfl rfl rfl ?_ ?k1 ?k2 ?k3 ?k4; intro A2 e2 w7 hown7 hgrow hb7)
                case k1 => first | exact ⟨rfl, rfl, rfl, rfl⟩ | exact clm_one _ _ _ _ _ _
                case k2 => exact h16
                case k3 => exact h63
                case k4 => exact hs6
                have hR7 := Lib.hid (RowsOwn.snoc (e := ⟨x.v, x.s, x.nm, ⟨A3, c3', x.t.l⟩⟩) (hrw6.out.grown hown6 (by decide) hgrow) (rk_grown hO3 hgrow (rk_two hO3 hown6 (by decide))))
                have hTA7 := Lib.hid (hTA6.out.below hb7)
                have hTB7 := Lib.hid (hTB6.out.below hb7)
                have hbel7 := hbel6.trans hb7
                have Hown7 := Lib.hid hown7
                clear hown7 hgrow hO3 hown6
                go_quiet (fail)
                go_roundw
                case rel => (repeat apply Exists.intro); refine ⟨?_, rfl⟩; exact ⟨a1, b1, o' ++ [⟨x.v, x.s, x.nm, ⟨A3, c3', x.t.l⟩⟩], _, _, A2, _, _, e2, rfl, rfl, slice_eqC (by simp), by simp at q1; omega, by omega, by simp at q3; omega, by omega, Lib.hid (by rw [hm.out, List.map_cons, List.map_cons, mergeC, if_neg (by show ¬ nlt x.nm y.nm; rw [Hxy.out]; exact nlt_irrefl _), if_neg (by show ¬ nlt y.nm x.nm; rw [Hxy.out]; exact nlt_irrefl _), show newest x.x y.x = x.x by unfold newest; rw [Hnw.out]; rfl]; simp [ClE.x]), by simp at hsum ⊢; omega,
                  Has.drewN hTA7.out _, Has.drewN hTB7.out _, Lib.hid fA.out.tail, Lib.hid fB.out.tail, by rw [List.length_append, clCs_app1]; exact own_drewN Hown7.out _, Lib.hid (hR7.out.drewN _), below_drewN hbel7 _⟩
                case measure => first | (simp [sLenC]; done) | (simp [sLenC]; omega)
              · have g0 := kc4.frozen 0
                have g1 := kc4.frozen 1
                have g2 := kc4.frozen 2
                have g3 := kc4.frozen 3
                have y0 : w4.cell? ⟨gc, 0, none⟩ = some (.int .i64 x.v) := kc4.cell 0
                have y1 : w4.cell? ⟨gc, 1, none⟩ = some (.int .i64 x.s) := kc4.cell 1
                have y2 : w4.cell? ⟨gc, 2, none⟩ = some (.string x.nm) := kc4.cell 2
                have y3 : w4.cell? ⟨gc, 3, none⟩ = some (.slice x.t.A x.t.l.length x.t.c) := kc4.cell 3
                obtain ⟨w5, hw5⟩ : ∃ w5, (((w4.setCell ⟨gc, 0, none⟩ (.int .i64 y.v)).setCell ⟨gc, 1, none⟩ (.int .i64 y.s)).setCell ⟨gc, 2, none⟩ (.string y.nm)).setCell ⟨gc, 3, none⟩ (.slice y.t.A y.t.l.length y.t.c) = w5 := ⟨_, rfl⟩
                have kc5 : Blk w5 gc 34 (clA4 y) := by
                  rw [← hw5]
                  have := (((kc4.set 0 (.int .i64 y.v)).set 1 (.int .i64 y.s)).set 2 (.string y.nm)).set 3 (.slice y.t.A y.t.l.length y.t.c)
                  simpa using this
                have hon : Only gc w4 w5 := by rw [← hw5]; exact ((((Only.refl gc w4).set 0 _).set 1 _).set 2 _).set 3 _
                have hb45 : Below w.heap.size w4 w5 := hon.below hbs hgw
                have hrw := Lib.hid (show RowsOwn w5 w.heap.size o' from fun e he => rk_grown (hrw.out e he) hon (fun k hk h => rk_ne kc4 (hrw.out e he) (by decide) (by rw [hk]; exact h.symm)))
                have hown := rk_grown hown hon (fun k hk h => by injection h with h; have := hnl k hk; omega)
                have hTA := Lib.hid (hTA.out.below hb45)
                have hTB := Lib.hid (hTB.out.below hb45)
                have hbel := hbel.trans hb45
                have hyo := Lib.hid ((fB.out y (by simp)).1.next hbel)
                have hbs : w.heap.size ≤ w5.heap.size := hbel.size
                have f0 : w5.cell? ⟨gc, 0, none⟩ = some (.int .i64 y.v) := kc5.cell 0
                have f1 : w5.cell? ⟨gc, 1, none⟩ = some (.int .i64 y.s) := kc5.cell 1
                have f2 : w5.cell? ⟨gc, 2, none⟩ = some (.string y.nm) := kc5.cell 2
                have f3 : w5.cell? ⟨gc, 3, none⟩ = some (.slice y.t.A y.t.l.length y.t.c) := kc5.cell 3
                clear hon hb45 kc4
                go_wp2_with fail
                refine (own1_any y.v y.s y.nm y.t (by have := hy20.out; omega) _ (by exact hyo.out)).mono ?_
                rintro e6 w6 ⟨v6, rfl, A3, c3', rfl, ho3, hb6⟩
                have hO3 := own_less ho3 hbs
                have hown6 := own_next hown hb6
                have hrw6 := Lib.hid (hrw.out.next hb6)
                have hb06 := hb6.mono hbs
                have hTA6 := Lib.hid (hTA.out.below hb06)
                have hTB6 := Lib.hid (hTB.out.below hb06)
                have hbel6 := hbel.trans hb06
                have hs6 : w.heap.size ≤ w6.heap.size := hbel6.size
                clear ho3 f0 f1 f2 f3
                go_wp2_with (at_builtin; refine wpList_append1 rfl _ _ _ rfl elClm rfl hown6 rfl rfl rfl ?_ ?k1 ?k2 ?k3 ?k4; intro A2 e2 w7 hown7 hgrow hb7)
                case k1 => first | exact ⟨rfl, rfl, rfl, rfl⟩ | exact clm_one _ _ _ _ _ _
                case k2 => exact h16
                case k3 => exact h63
                case k4 => exact hs6
                have hR7 := Lib.hid (RowsOwn.snoc (e := ⟨y.v, y.s, y.nm, ⟨A3, c3', y.t.l⟩⟩) (hrw6.out.grown hown6 (by decide) hgrow) (rk_grown hO3 hgrow (rk_two hO3 hown6 (by decide))))
                have hTA7 := Lib.hid (hTA6.out.below hb7)
                have hTB7 := Lib.hid (hTB6.out.below hb7)
                have hbel7 := hbel6.trans hb7
                have Hown7 := Lib.hid hown7
                clear hown7 hgrow hO3 hown6
                go_quiet (fail)
                go_roundw
                case rel => (repeat apply Exists.intro); refine ⟨?_, rfl⟩; exact ⟨a1, b1, o' ++ [⟨y.v, y.s, y.nm, ⟨A3, c3', y.t.l⟩⟩], _, _, A2, _, _, e2, rfl, rfl, slice_eqC (by simp), by simp at q1; omega, by omega, by simp at q3; omega, by omega, Lib.hid (by rw [hm.out, List.map_cons, List.map_cons, mergeC, if_neg (by show ¬ nlt x.nm y.nm; rw [Hxy.out]; exact nlt_irrefl _), if_neg (by show ¬ nlt y.nm x.nm; rw [Hxy.out]; exact nlt_irrefl _), show newest x.x y.x = y.x by unfold newest; rw [Hnw.out]; rfl]; simp [ClE.x]), by simp at hsum ⊢; omega,
                  Has.drewN hTA7.out _, Has.drewN hTB7.out _, Lib.hid fA.out.tail, Lib.hid fB.out.tail, by rw [List.length_append, clCs_app1]; exact own_drewN Hown7.out _, Lib.hid (hR7.out.drewN _), below_drewN hbel7 _⟩
                case measure => first | (simp [sLenC]; done) | (simp [sLenC]; omega)
end Go.Proofs.Ytokilodekbjpnaa
