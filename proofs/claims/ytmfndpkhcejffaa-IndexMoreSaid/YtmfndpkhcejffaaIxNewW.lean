/- The walk of index.New. -/
import Derived.Test.YtmfndpkhcejffaaIxNew
import Derived.Deep.RegionLaw
import Derived.Deep.CutRange
namespace Go.Proofs.Ytmfndpkhcejffaa
open Go.RowKit Go.ChangeMaps
theorem ixD_snoc : ∀ (L : List (List Lab)) (x : List Lab) (i : Int) (D : List (Lab × List Int)), ixD (L ++ [x]) i D = addDs (ixD L i D) x (i + L.length)
  | [], x, i, D => by simp [ixD]
  | l :: L, x, i, D => by
    rw [List.cons_append, ixD, ixD_snoc L x (i + 1), ixD, List.length_cons]
    congr 1
    omega
/-- how many numbers there are -/
def totD : List (Lab × List Int) → Nat
  | [] => 0
  | (_, l) :: D => l.length + totD D
theorem addD_tot (D : List (Lab × List Int)) (y : Lab) (i : Int) : totD (addD D y i) = totD D + 1 := by
  induction D with
  | nil => rfl
  | cons p D ih =>
    obtain ⟨k, l⟩ := p
    rw [addD]
    split
    · simp only [totD, List.length_append, List.length_singleton]; omega
    · simp only [totD, ih]; omega
theorem addDs_tot (s : List Lab) (i : Int) : ∀ D : List (Lab × List Int), totD (addDs D s i) = totD D + s.length := by
  unfold addDs
  induction s with
  | nil => intro D; simp
  | cons y s ih =>
    intro D
    rw [List.foldl_cons, ih, addD_tot, List.length_cons]
    omega
theorem atD_le (D : List (Lab × List Int)) (y : Lab) : (atD D y).length ≤ totD D := by
  induction D with
  | nil => exact Nat.zero_le _
  | cons p D ih =>
    obtain ⟨k, l⟩ := p
    rw [atD, totD]
    split
    · omega
    · omega
/-- all up to k are in order -/
def OkTo (L : List (List Lab)) (k : Nat) : Prop := ∀ j, j < k → chkL (at_ L j) = 0
/-- an entry that was looked for -/
structure IxE (w0 W W1 : World) (B g b : Nat) (L : List (List Lab)) (D : List (Lab × List Int)) (A : Option Addr) (c : Nat) (vs : List Value) (y : Lab) (v0 sv : Value) : Prop where
  own : W1.ownsRow B 3 1 v0 (atD D y).length (i64s (atD D y))
  size : W1.heap.size = W.heap.size
  bel : Below B w0 W1
  other : ∀ q, q ≠ b → W1.heap[q]? = W.heap[q]?
  store : ∀ (W1' W2 : World) (v5 : Value) (i : Int), (∀ q, q < W.heap.size → W1'.heap[q]? = W1.heap[q]?) → W.heap.size ≤ W1'.heap.size → W1'.grownBy W2 v0.ownBlock → W2.ownsRow B 3 1 v5 ((atD D y).length + 1) (i64s (atD D y ++ [i])) → v5.ownBlock ≠ none →
    (∀ k, v5.ownBlock = some k → v0.ownBlock = some k ∨ W1'.heap.size ≤ k) → Below B w0 W2 → ∃ W3 es' clock' kvs', (Instr.entryStore 49 (.map (some b)) sv v5).run Try.prog W2 = .ok () W3 ∧ IxSt w0 W3 B g b L (addD D y i) A c vs es' clock' kvs'
section
variable {w0 W W' : World} {B g b : Nat} {L : List (List Lab)} {D : List (Lab × List Int)} {A : Option Addr} {c : Nat} {vs : List Value} {es : Array MapEntry} {clock : Nat} {kvs : List (Value × Value)}
theorem IxRows.lens : ∀ {kvs : List (Value × Value)} {D : List (Lab × List Int)}, IxRows W B kvs D → kvs.length = D.length
  | [], [], _ => rfl
  | p :: kvs, d :: D, ⟨_, _, h5⟩ => by rw [List.length_cons, List.length_cons, IxRows.lens h5]
  | [], _ :: _, h => h.elim
  | _ :: _, [], h => h.elim
theorem IxSt.entry (h : IxSt w0 W B g b L D A c vs es clock kvs) (y : Lab) (hy : LabOk y) (hs : D.length ≤ maxLen) :
    ∃ v0 sv W1, (Instr.mapEntry 49 (.map (some b)) (labV y)).run Try.prog W = .ok (.tuple #[v0, sv]) W1 ∧ IxE w0 W W1 B g b L D A c vs y v0 sv := by
  obtain ⟨kl, hkl⟩ := lab_keyed y hy
  have hes : es.size ≤ maxLen := by
    have h1 := congrArg List.length h.shape.pairs
    rw [List.length_map, Array.length_toList, h.have_.lens] at h1
    omega
  obtain ⟨v0, st, es1, clock1, hrun, hold, hst⟩ := entry_step labKey Try.underlying49 (z := .slice none 0 0) (fun u => by kernel_rfl) h.mp h.shape hes hkl
  have hnod : (kvs.map (·.1)).Nodup := by
    have := h.shape.stamped.2.2
    rw [← h.shape.pairs, List.map_map]
    exact this
  have hbl := (Array.getElem?_eq_some_iff.1 h.mp).1
  have hown : W.ownsRow B 3 1 v0 (atD D y).length (i64s (atD D y)) ∧ ((labV y, v0) ∈ kvs ∨ v0.ownBlock = none) := by
    rcases hold with hm | ⟨hno, rfl⟩
    · exact ⟨(h.have_.old hnod hm).1, .inl hm⟩
    · rw [h.have_.lacks hno]
      exact ⟨World.ownsRow_nil _ _ _ _, .inr rfl⟩
  have hfar : v0.ownBlock ≠ some b := fun e => by
    obtain ⟨cs, hc⟩ := own_kind hown.1 b e
    rw [h.mp] at hc; cases hc
  refine ⟨v0, goInt st, _, hrun, own_keepB hown.1 (fun q hq => setBlock_other (fun e => hfar (by rw [hq, e]))), by unfold setBlock; simp, below_setBlock h.bel h.ob _, fun q hq => setBlock_other hq, ?_⟩
  intro W1' W2 v5 i h1 h2 hg hv5 hn5 hb5 hbel
  have e1 : W1'.heap[b]? = some (.map es1 clock1) := (h1 b hbl).trans (setBlock_heap hbl)
  have e2 : W2.heap[b]? = some (.map es1 clock1) := (hg.block b (by omega) (fun e => hfar e.symm)).trans e1
  obtain ⟨es', clock', kvs', r1, r2, r3⟩ := hst W2 v5 e2
  exact ⟨_, es', clock', kvs', r1, h.addNum (W1 := W1') (fun q hq hne => (h1 q hq).trans (setBlock_other hne)) h2 hown.2 hg hv5 hn5 hb5 hbel (Array.getElem?_eq_some_iff.1 e2).1 r2 r3⟩
end
/-- what New leaves -/
def NewP (w : World) (L : List (List Lab)) (v : Value) (w' : World) : Prop :=
  (newN L ≠ 0 ∧ v = .tuple #[.pointer none, .int .i64 (newN L)] ∧ Below w.heap.size w w') ∨
  (newN L = 0 ∧ ∃ g b A c vs es clock kvs, v = .tuple #[.pointer (some ⟨g, 0, none⟩), .int .i64 0] ∧ IxSt w w' w.heap.size g b L (ixD L 0 []) A c vs es clock kvs)
theorem elLabs : Elem Try.prog 22 43 1 24 := Elem.mk' (z := .slice none 0 0) Try.underlying22 (by kernel_rfl) rfl (by decide)
theorem elIntN : Elem Try.prog 31 3 1 8 := Elem.mk' (z := .int .i64 0) Try.underlying31 (by kernel_rfl) rfl (by decide)
theorem keepN2 {W : World} {g : Nat} {t : TypeId} {x0 x1 : Value} (h : Blk W g t #[x0, x1]) : W.cell? ⟨g, 0, none⟩ = some x0 := h.cell 0
theorem keepN3 {W : World} {g q : Nat} {t t' : TypeId} {x0 x1 y0 y1 : Value} (h : Blk W g t #[x0, x1]) (h' : Blk W q t' #[y0, y1]) : W.cell? ⟨g, 1, none⟩ = some x1 ∧ W.cell? ⟨q, 0, none⟩ = some y0 ∧ W.cell? ⟨q, 1, none⟩ = some y1 := ⟨h.cell 1, h'.cell 0, h'.cell 1⟩
theorem Blk.drewX {w : World} {g : Nat} {t : TypeId} {cs : Array Value} (h : Blk w g t cs) : Blk w.drew g t cs := h
theorem below_drewX {B : Nat} {a w : World} (h : Below B a w) : Below B a w.drew := below_drewN h 1
theorem below_allocX {a w : World} {o : Obj} (h : Below a.heap.size a w) : Below a.heap.size a (w.alloc o) := h.alloc h.size o
theorem i64s_appN (l : List Int) (x : Int) : i64s (l ++ [x]) = i64s l ++ (#[.int .i64 x] : Array Value).toList := by simp [i64s, i64v]
theorem below_alloc_at {B : Nat} {a w : World} (h : Below B a w) (hB : B ≤ w.heap.size) (o : Obj) : Below B a (w.alloc o) := h.alloc hB o
theorem one_allocX (w : World) (o : Obj) : Below w.heap.size w (w.alloc o) := (Below.refl _ _).alloc (Nat.le_refl _) _
set_option maxRecDepth 1000000 in
set_option maxHeartbeats 4000000 in
theorem inew_any (A : Option Addr) (c : Nat) (l : List LbsE) (w : World) (hl : l.length ≤ maxLen) (ho : ∀ e ∈ l, e.ok w) (h : Has w w.heap.size A (lbsCs l)) :
    Calls Try.prog 7 #[.slice A l.length c] w (RV (NewP w (l.map (·.l)))) := by
  by_cases h200 : (200 : Int) < (l.length : Int)
  · go_enter Try.func7, Try.ntmps7
    go_wp2_with fail
    go_ret2
    have hN : newN (l.map (·.l)) = 2 := by unfold newN; rw [if_pos (by rw [List.length_map]; omega)]
    exact RV.mk (.inl ⟨by rw [hN]; decide, by rw [hN]; rfl, Below.refl _ _⟩)
  · have hmk : ∀ w : World, (Instr.makeMap 49 none).run Try.prog w = .ok (.map (some w.heap.size)) (w.alloc (.map #[] 0)) := fun _ => by kernel_rfl
    obtain ⟨n, hn⟩ : ∃ n, l.length = n := ⟨_, rfl⟩
    obtain ⟨b, hb⟩ : ∃ b, w.heap.size = b := ⟨_, rfl⟩
    obtain ⟨L, hL⟩ : ∃ L, l.map (·.l) = L := ⟨_, rfl⟩
    have hLn : L.length = n := by rw [← hL, List.length_map, hn]
    have hLat : ∀ k, k < n → at_ L k = (at_ l k).l := fun k hk => by
      subst hL; rw [at_eq (by rw [List.length_map]; omega), List.getElem_map, at_eq (by omega)]
    have hLtake : ∀ k, k < n → L.take (k + 1) = L.take k ++ [(at_ l k).l] := fun k hk => by
      rw [take_at (by omega), hLat k hk]
    have hdone : OkTo L n → newN L = 0 := fun ho => by
      unfold newN
      rw [if_neg (by omega)]
      refine newE_zero (fun x hx => ?_)
      obtain ⟨j, hj, rfl⟩ := List.mem_iff_getElem.1 hx
      rw [← at_eq hj]
      exact ho j (by omega)
    have hbad : ∀ k r, OkTo L k → k < n → chkL (at_ l k).l = r → r ≠ 0 → newN L = r := fun k r ho hk he hr => by
      unfold newN
      rw [if_neg (by omega)]
      exact newE_take (k := k) (fun j hj hjk => by rw [← at_eq hj]; exact ho j hjk) (by omega) (by rw [← at_eq (by omega), hLat k hk]; exact he) hr
    have hsmall : ∀ k, OkTo L k → k ≤ n → (ixD (L.take k) 0 []).length ≤ 10 * k ∧ totD (ixD (L.take k) 0 []) ≤ 10 * k := fun k ho hk => by
      induction k with
      | zero => simp [ixD, totD]
      | succ k ih =>
        have h1 := ih (fun j hjk => ho j (by omega)) (by omega)
        have h2 := ho k (by omega)
        rw [hLat k (by omega)] at h2
        have h3 := (chkL_iff.1 h2).1
        rw [hLtake k (by omega), ixD_snoc]
        have h4 := addDs_len (at_ l k).l (0 + (L.take k).length) (ixD (L.take k) 0 [])
        have h5 := addDs_tot (at_ l k).l (0 + (L.take k).length) (ixD (L.take k) 0 [])
        omega
    rw [hn, hL]
    go_enter Try.func7, Try.ntmps7
    have h200' : n ≤ 200 := by omega
    rw [hn] at h200
    have Hn := Lib.hid hn
    have HL := Lib.hid hL
    have Hh := Lib.hid h
    have Ho := Lib.hid ho
    have HLn := Lib.hid hLn
    have HLat := Lib.hid hLat
    have HLtake := Lib.hid hLtake
    have Hdone := Lib.hid hdone
    have Hbad := Lib.hid hbad
    have Hsmall := Lib.hid hsmall
    clear hn hL h ho hLn hLat hLtake hdone hbad hsmall
    go_wp2_with fail
    obtain ⟨W0, hW0⟩ : ∃ W0, (w.alloc (.map #[] 0)).alloc (.cells #[.slice none 0 0, .map (some b)] 51) = W0 := ⟨_, rfl⟩
    have hs1 : (w.alloc (.map #[] 0)).heap.size = b + 1 := by rw [World.size_alloc, hb]
    have hI : IxSt w W0 b (b + 1) b [] [] none 0 [] #[] 0 [] := by
      rw [← hW0]
      refine ⟨?_, by omega, World.ownsRow_nil _ _ _ _, ⟨rfl, fun j v l h => by cases h⟩, ?_, by omega, MpS.empty _ _ _, trivial, ((Below.refl _ _).alloc (by omega) _).alloc (by rw [hs1]; omega) _⟩
      · have := Blk.new (w.alloc (.map #[] 0)) 51 #[.slice none 0 0, .map (some b)]
        rw [hs1] at this
        exact this
      · rw [heap_alloc_old _ _ (by rw [hs1]; omega), ← hb]
        exact heap_alloc_new w _
    rw [hW0]
    have HW := Lib.hid hW0
    have Hb := Lib.hid hb
    clear hW0 hs1 hb hmk
    go_loopw [18] (fun u W => ∃ (k : Nat) (A : Option Addr) (c : Nat) (vs : List Value) (es : Array MapEntry) (clock : Nat) (kvs : List (Value × Value)), k ≤ n ∧ u = .int .i64 (k : Nat) ∧ IxSt w W b (b + 1) b (L.take k) (ixD (L.take k) 0 []) A c vs es clock kvs ∧ OkTo L k) (fun u _ => n - (intOf u).toNat)
    case atStart => exact ⟨0, none, 0, [], #[], 0, [], Nat.zero_le _, rfl, hI, fun _ h => by omega⟩
    case round =>
      obtain ⟨k, A1, c1, vs, es, clock, kvs, hk, rfl, hI, hok⟩ := hrel
      by_cases hlt : (k : Int) < (n : Int)
      · have hkn : k < n := by omega
        have hbw : Below w.heap.size w wr := by rw [Hb.out]; exact hI.bel
        have hx := Hh.out.below hbw
        have hxk := Ho.out (at_ l k) (at_mem (by rw [Hn.out]; omega))
        have HLk := Lib.hid (HLtake.out k hkn)
        have HBad := Lib.hid (fun r (h : chkL (at_ l k).l = r) => Hbad.out k r hok hkn h)
        have HD := Lib.hid (Hsmall.out k hok hk)
        have HOk := Lib.hid (fun (h : chkL (at_ l k).l = 0) => show OkTo L (k + 1) from fun j hj => by
          rcases Nat.lt_or_ge j k with g | g
          · exact hok j g
          · have : j = k := by omega
            subst this
            rw [HLat.out j hkn]; exact h)
        obtain ⟨ad, rfl, _, hc0⟩ := hx.at (lbsCs_at (k := k) (by rw [Hn.out]; omega))
        obtain ⟨x, hxe⟩ : ∃ x, at_ l k = x := ⟨_, rfl⟩
        rw [hxe] at hxk HLk HBad HOk hc0
        obtain ⟨xA, xc, xl⟩ := x
        simp only [] at hc0 HLk HBad HOk
        obtain ⟨m, hm⟩ : ∃ m, xl.length = m := ⟨_, rfl⟩
        rw [hm] at hc0
        obtain ⟨x1, x2, x3, x4, x5⟩ := hxk
        simp only [] at x1 x2 x3 x4 x5
        have hml : m ≤ maxLen := by omega
        have x2' : m ≤ xc := by omega
        have HC := Lib.hid (lcheck_any xA m xc xl hm hml wr (x5.next hbw) x1)
        obtain ⟨r, hr⟩ : ∃ r, chkL xl = r := ⟨_, rfl⟩
        rw [hr] at HC
        have HR := Lib.hid hr
        have Hm := Lib.hid hm
        have X1 := Lib.hid x1
        have X4 := Lib.hid x4
        have X5 := Lib.hid x5
        have HI := Lib.hid hI
        have Hok := Lib.hid hok
        have HBW := Lib.hid hbw
        clear hx hm hr hxe x1 x4 x5 hI hok hbw
        by_cases h0 : r = 0
        · subst h0
          go_wp2_with fail
          refine HC.out.mono ?_
          rintro e w1 ⟨rfl, hb1⟩
          go_wp2_with fail
          have h10 := (chkL_iff.1 HR.out).1
          rw [Hm.out] at h10
          have hIw := HI.out.next hb1
          have hk1 : (L.take k).length = k := by rw [List.length_take, HLn.out]; omega
          have hobj := hIw.obj
          have hall := hIw.all
          rw [hk1] at hobj hall
          have Hk1 := Lib.hid hk1
          have HIw := Lib.hid hIw
          have hbw1 := bnext HBW.out hb1
          have HCl := Lib.hid (fun (w' : World) (hb : Below w1.heap.size w1 w') => cloneLab_any xA m xc xl Hm.out (fun e => by have := X4.out e; omega) (by omega) w' (X5.out.next (bnext hbw1 hb)))
          have hbB : b ≤ w1.heap.size := by rw [← Hb.out]; exact hbw1.size
          have hbI := HIw.out.bel
          have HbI := Lib.hid hbI
          have g0 : w1.cell? ⟨b + 1, 0, none⟩ = some (.slice A1 k c1) := hobj.cell 0
          have gf : w1.frozen? ⟨b + 1, 0, none⟩ = false := hobj.frozen 0
          clear hk1 hIw HC hbI
          go_upto_region 10 with fail
          go_cut [28] from 29 to 38 (fun s28 wx => s28 = .pointer (some ⟨b + 1, 0, none⟩) ∧ ∃ (A5 : Option Addr) (c5 : Nat) (vs5 : List Value), IxSt w wx b (b + 1) b (L.take k ++ [xl]) (ixD (L.take k) 0 []) A5 c5 vs5 es clock kvs)
          case first =>
            go_region_law
              (first
                | (have hz := hownC
                   apply step_append1g rfl (.tmp 32) (.tmp 35) 22 rfl elLabs (v := .slice A1 k c1) (n := k) (base := b) (xs := vs); (case hown => (repeat' (first | with_reducible exact hall4 | with_reducible refine World.ownsRow.alloc ?_ _)); done); (case hs => rfl); (case hx => rfl); (case hb => exact heap_alloc_new _ _); (case hl => rfl); (case h1 => (intro u hu; simp at hu; subst hu; rfl)); (case hmax => omega); (case h63 => (unfold maxLen; omega)); (case hbase => exact Nat.le_trans hbB4 (one_allocX _ _).size)
                   intro g5 c5 w5 hown5 hgrow5 hbel5 hlie5
                   have hobj5 : Blk w5 (b + 1) 51 #[.slice A1 k c1, .map (some b)] := by
                     have h1 : Blk (w4.alloc (Obj.cells #[Value.slice A4 m c4] 43)) (b + 1) 51 #[.slice A1 k c1, .map (some b)] := hobj4.alloc _
                     exact h1.grown hgrow5 (kind_ne (hall4.alloc _) h1 (by decide))
                   have g05 : w5.cell? ⟨b + 1, 0, none⟩ = some (.slice A1 k c1) := hobj5.cell 0
                   have gf5 : w5.frozen? ⟨b + 1, 0, none⟩ = false := hobj5.frozen 0
                   have hdone := hown5)
                | (go_simp; go_at_call 20
                   refine (HCl.out _ (by (repeat' (first | with_reducible exact Below.refl _ _ | with_reducible refine below_drewX ?_ | with_reducible refine below_allocX ?_)); done)).mono ?_
                   rintro e9 w4 ⟨v4, rfl, A4, c4, rfl, hownC, hbC⟩
                   have hb14 : Below w1.heap.size w1 w4 := bnext (by (repeat' (first | with_reducible exact Below.refl _ _ | with_reducible refine below_allocX ?_ | with_reducible refine below_drewX ?_)); done) hbC
                   have hobj4 := hobj.next hb14
                   have hall4 := own_next hall hb14
                   have g04 : w4.cell? ⟨b + 1, 0, none⟩ = some (.slice A1 k c1) := hobj4.cell 0
                   have hlt4 : b + 1 < w4.heap.size := hobj4.lt
                   have hbB4 : b ≤ w4.heap.size := Nat.le_trans hbB hb14.size))
            all_goals
              have hI4 := HIw.out.next hb14
              have hbA : Below w4.heap.size w4 (w4.alloc (Obj.cells #[Value.slice A4 m c4] 43)) := one_allocX _ _
              have hI5 := hI4.next hbA
              have hw5 : Below b w w5 := hI5.bel.trans hbel5
              have hvC : (w4.alloc (Obj.cells #[Value.slice A4 m c4] 43)).ownsRow b 55 2 (.slice A4 m c4) xl.length (labCs xl) := by
                rw [Hm.out]
                exact (own_less hownC hbB).alloc _
              have hfin := IxSt.addRow (l := xl) (A5 := some ⟨g5, 0, none⟩) (c5 := c5) hI5 hvC (by rw [Hk1.out]; exact hgrow5) (by rw [Hk1.out]; exact hown5) hw5
              rw [Hk1.out] at hfin
              have HF := Lib.hid hfin
              clear hfin hw5 hvC hI5 hbA hI4
              go_wp2_with fail
              go_meet
              exact ⟨rfl, _, _, _, HF.out⟩
          case rest =>
            obtain ⟨rfl, A5, c5, vs5, hI5⟩ := hcut
            have HI5 := Lib.hid hI5
            have hbk : b + 1 < wc.heap.size := hI5.obj.lt
            have HbC := Lib.hid hI5.bel
            have HbBC := Lib.hid (show b ≤ wc.heap.size by omega)
            clear hI5 hb1 hobj hall hbw1 hbB g0 gf HCl HbI HI HBW hI HIw hc0 hbk Hok
            go_wp2_with fail
            go_loopw [41] (fun u W => ∃ (j : Nat) (A : Option Addr) (c : Nat) (vs : List Value) (es : Array MapEntry) (clock : Nat) (kvs : List (Value × Value)), j ≤ m ∧ u = .int .i64 (j : Nat) ∧ IxSt w W b (b + 1) b (L.take k ++ [xl]) (addDs (ixD (L.take k) 0 []) (xl.take j) k) A c vs es clock kvs) (fun u _ => m - (intOf u).toNat)
            case atStart => exact ⟨0, A5, c5, vs5, es, clock, kvs, Nat.zero_le _, rfl, HI5.out⟩
            case round =>
              obtain ⟨j, A6, c6, vs6, es6, clock6, kvs6, hj, rfl, hI6⟩ := hrel
              by_cases hjm : (j : Int) < (m : Int)
              · have hjL : j < xl.length := by rw [Hm.out]; omega
                have hb6 : Below w.heap.size w wr := by rw [Hb.out]; exact hI6.bel
                have hX := X5.out.next hb6
                obtain ⟨ad, e1, _, d0⟩ := hX.at (labCs_0 hjL)
                subst e1
                obtain ⟨ad', e', _, d1⟩ := hX.at (labCs_1 hjL)
                injection e' with e'
                subst e'
                have d1 := cell_off d1 (by decide)
                have hyok := X1.out _ (at_mem hjL)
                have htk := take_at (l := xl) (k := j) hjL
                obtain ⟨y, hy⟩ : ∃ y, at_ xl j = y := ⟨_, rfl⟩
                rw [hy] at d0 d1 hyok htk
                obtain ⟨D, hD⟩ : ∃ D, addDs (ixD (L.take k) 0 []) (xl.take j) k = D := ⟨_, rfl⟩
                have hD2 : addDs (ixD (L.take k) 0 []) (xl.take (j + 1)) k = addD D y k := by
                  rw [htk, ← hD]; unfold addDs; rw [List.foldl_append]; rfl
                have hDl : D.length ≤ 3000 ∧ totD D ≤ 3000 := by
                  have h1 := addDs_len (xl.take j) k (ixD (L.take k) 0 [])
                  have h3 := addDs_tot (xl.take j) k (ixD (L.take k) 0 [])
                  have h2 := HD.out
                  rw [List.length_take] at h1 h3
                  rw [← hD]; omega
                rw [hD] at hI6
                obtain ⟨nm, v⟩ := y
                simp only [] at d0 d1
                obtain ⟨W1, hW1⟩ : ∃ W1, wr.alloc (.cells #[.string nm, .string v] 55) = W1 := ⟨_, rfl⟩
                obtain ⟨z, hz⟩ : ∃ z, wr.heap.size = z := ⟨_, rfl⟩
                have hI7 : IxSt w W1 b (b + 1) b (L.take k ++ [xl]) D A6 c6 vs6 es6 clock6 kvs6 := by rw [← hW1]; exact hI6.next (one_allocX _ _)
                have kY : Blk W1 z 55 #[.string nm, .string v] := by rw [← hW1, ← hz]; exact Blk.new _ _ _
                have HW1 := Lib.hid hW1
                have Hz := Lib.hid hz
                have HD2 := Lib.hid hD2
                have HDl := Lib.hid hDl
                have Htk := Lib.hid htk
                have Hyok := Lib.hid hyok
                have HI6 := Lib.hid hI6
                clear hX hb6 hI6 hy hD hD2 hDl htk hyok hW1 hz
                go_wp2_with fail
                rw [HW1.out, Hz.out]
                have g1 : W1.cell? ⟨b + 1, 1, none⟩ = some (.map (some b)) := hI7.obj.cell 1
                have y0 : W1.cell? ⟨z, 0, none⟩ = some (.string nm) := kY.cell 0
                have y1 : W1.cell? ⟨z, 1, none⟩ = some (.string v) := kY.cell 1
                have hz1 : z < W1.heap.size := kY.lt
                have hb1 : b + 1 < W1.heap.size := hI7.obj.lt
                have hbz : b < W1.heap.size := by omega
                have hlD : D.length ≤ maxLen := by have := HDl.out.1; unfold maxLen; omega
                obtain ⟨v0A, svA, WA, hrunA, EA⟩ := (hI7.next (W' := (W1.alloc (.cells #[.int .i64 (k : Nat)] 3)).drew) (below_drewX (below_allocX (a := W1) (Below.refl _ _)))).entry ⟨nm, v⟩ Hyok.out hlD
                obtain ⟨v0B, svB, WB, hrunB, EB⟩ := (hI7.next (W' := W1.drew) (below_drewX (Below.refl _ _))).entry ⟨nm, v⟩ Hyok.out hlD
                have htot := atD_le D ⟨nm, v⟩
                have hown0A := EA.own
                have hown0B := EB.own
                obtain ⟨q, hq⟩ : ∃ q, atD D ⟨nm, v⟩ = q := ⟨_, rfl⟩
                rw [hq] at htot hown0A hown0B
                obtain ⟨p, hp⟩ : ∃ p, q.length = p := ⟨_, rfl⟩
                rw [hp] at htot hown0A hown0B
                have hp3 : p ≤ 3000 := by have := HDl.out.2; omega
                have hbA : WA.heap[W1.heap.size]? = some (.cells #[.int .i64 (k : Nat)] 3 (0, 0)) := (EA.other _ (by omega)).trans (heap_alloc_new W1 _)
                have hStA := EA.store
                have hStB := EB.store
                rw [hq, hp] at hStA hStB
                have HsA := Lib.hid hStA
                have HsB := Lib.hid hStB
                have HEA := Lib.hid EA
                have HEB := Lib.hid EB
                have hszA : b ≤ WA.heap.size := by rw [EA.size]; simp; omega
                have hszB : b ≤ WB.heap.size := by rw [EB.size]; show b ≤ W1.heap.size; omega
                simp only [labV] at hrunA hrunB
                have Hq := Lib.hid hq
                have Hp := Lib.hid hp
                clear hq hp htot EA EB hStA hStB hlD
                go_region_law
                  (first
                    | (apply step_append1g rfl (.tmp 50) (.tmp 52) 31 rfl elIntN (v := v0A) (n := p) (base := b) (xs := i64s q); (case hown => with_reducible exact hown0A); (case hs => rfl); (case hx => rfl); (case hb => exact hbA); (case hl => rfl); (case h1 => (intro u hu; simp at hu; subst hu; rfl)); (case hmax => omega); (case h63 => (unfold maxLen; omega)); (case hbase => exact hszA)
                       intro g5 c5 w5 hown5 hgrow5 hbel5 hlie5
                       obtain ⟨W3, es', clock', kvs', hrunS, hI3⟩ := HsA.out WA w5 (.slice (some ⟨g5, 0, none⟩) (p + 1) c5) k (fun _ _ => rfl) (by rw [HEA.out.size]; exact Nat.le_refl _) hgrow5 (by rw [i64s_appN]; exact hown5) (fun h => by cases h) (fun k hk => by injection hk with hk; subst hk; rcases hlie5 with h | h; exact .inl h; exact .inr (Nat.le_of_eq h.symm)) (HEA.out.bel.trans hbel5))
                    | (apply step_append1g rfl (.tmp 50) (.tmp 52) 31 rfl elIntN (v := v0B) (n := p) (base := b) (xs := i64s q); (case hown => with_reducible exact World.ownsRow.alloc hown0B _); (case hs => rfl); (case hx => rfl); (case hb => exact heap_alloc_new _ _); (case hl => rfl); (case h1 => (intro u hu; simp at hu; subst hu; rfl)); (case hmax => omega); (case h63 => (unfold maxLen; omega)); (case hbase => exact Nat.le_trans hszB (one_allocX _ _).size)
                       intro g5 c5 w5 hown5 hgrow5 hbel5 hlie5
                       obtain ⟨W3, es', clock', kvs', hrunS, hI3⟩ := HsB.out (WB.alloc (.cells #[.int .i64 (k : Nat)] 3)) w5 (.slice (some ⟨g5, 0, none⟩) (p + 1) c5) k (fun q hq => heap_alloc_old _ _ (by rw [HEB.out.size]; exact hq)) (by rw [← HEB.out.size]; exact (one_allocX _ _).size) hgrow5 (by rw [i64s_appN]; exact hown5) (fun h => by cases h) (fun k hk => by injection hk with hk; subst hk; rcases hlie5 with h | h; exact .inl h; exact .inr (Nat.le_of_eq h.symm)) ((below_alloc_at HEB.out.bel hszB _).trans hbel5)))
                all_goals
                  have HF := Lib.hid hI3
                  clear hI3 hrunS
                  go_wp2_with fail
                  go_roundw
                  case rel => exact ⟨j + 1, A6, c6, vs6, es', clock', kvs', by omega, by go_num, by rw [HD2.out]; exact HF.out⟩
                  case measure => simp [intOf]; omega
              · have hjm' : j = m := by omega
                subst hjm'
                have hfin : IxSt w wr b (b + 1) b (L.take (k + 1)) (ixD (L.take (k + 1)) 0 []) A6 c6 vs6 es6 clock6 kvs6 := by
                  rw [HLk.out, ixD_snoc, Hk1.out, Int.zero_add]
                  rw [List.take_of_length_le (l := xl) (by rw [Hm.out]; exact Nat.le_refl _)] at hI6
                  exact hI6
                have HF := Lib.hid hfin
                have HO := Lib.hid (HOk.out HR.out)
                clear hfin hI6
                go_wp2_with fail
                go_roundw
                case rel => exact ⟨k + 1, A6, c6, vs6, es6, clock6, kvs6, by omega, by go_num, HF.out, HO.out⟩
                case measure => simp [intOf]; omega
        · have hb0 : (r != 0) = true := bne_iff_ne.2 h0
          have hN := HBad.out r HR.out h0
          have HF := Lib.hid (fun (W : World) (hb : Below w.heap.size w W) => show NewP w L (.tuple #[.pointer none, .int .i64 r]) W from .inl ⟨by rw [hN]; exact h0, by rw [hN], hb⟩)
          clear h0 hN
          go_wp2_with fail
          refine HC.out.mono ?_
          rintro e w1 ⟨rfl, hb1⟩
          go_wp2_with fail
          go_ret2
          exact RV.mk (HF.out _ (bnext HBW.out hb1))
      · have hkn : k = n := by omega
        subst hkn
        have hfin : NewP w L (.tuple #[.pointer (some ⟨b + 1, 0, none⟩), .int .i64 0]) wr := by
          refine .inr ⟨Hdone.out hok, b + 1, b, A1, c1, vs, es, clock, kvs, rfl, ?_⟩
          have h1 := hI
          rw [List.take_of_length_le (by rw [HLn.out]; omega)] at h1
          rw [Hb.out]; exact h1
        have HF := Lib.hid hfin
        clear hfin hI hok
        go_wp2_with fail
        go_ret2
        exact RV.mk HF.out
end Go.Proofs.Ytmfndpkhcejffaa
