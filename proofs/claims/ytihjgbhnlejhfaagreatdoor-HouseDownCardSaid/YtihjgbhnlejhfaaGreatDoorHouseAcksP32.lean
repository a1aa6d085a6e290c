/- Texts of the proof of HouseAcks, joined (by merge.py). Conditions: each theorem's own hypotheses. -/
import Derived.Test.YtihjgbhnlejhfaaGreatDoorHouseAcksP3
import Derived.Test.YtihjgbhnlejhfaaGreatDoorHouseAcksP16
import Derived.Test.YtihjgbhnlejhfaaGreatDoorHouseAcksP31
import Derived.StillTailTactics
namespace Go.Proofs.YtihjgbhnlejhfaaGreatDoor
open Go.RowKit

/-- 'string(b)' -/
theorem conv_has {W : World} {A : Option Addr} {n c : Nat} {l : List Nat} (hl : l.length = n) (hA : A = none → n = 0) (h : Has W W.heap.size A (u8s l)) : (convert 76 9 (.slice A n c)).run Tryz.prog W = .ok (.string (bsOf l)) W := by
  cases A with
  | none =>
    have := hA rfl
    subst this
    have : l = [] := List.length_eq_zero_iff.1 hl
    subst this
    exact run_convert_bytes_nil (P := Tryz.prog) W 76 5 Tryz.underlying76 Tryz.underlying5 0 c 9 Tryz.underlying9
  | some ad =>
    have h1 : (loadCells ad n).run Tryz.prog W = .ok ((l.map (fun x : Nat => (x : Int))).map (Value.int .u8)).toArray W := by
      have := run_loadCells_list (P := Tryz.prog) (w := W) ad (u8s l) (fun j v hj => by
        obtain ⟨ad', e, _, hc⟩ := h.at hj
        injection e with e
        subst e
        exact hc)
      rw [u8s_len, hl] at this
      rw [this]
      simp [u8s, u8v, Function.comp_def]
    rw [run_convert_bytes_string W 76 9 5 _ n c Tryz.underlying76 Tryz.underlying5 Tryz.underlying9, run_bytesToString W _ n c (l.map (fun x : Nat => (x : Int))) h1, foldl_push_bytes]
    simp [bsOf, strOfNums, ByteArray.empty, ByteArray.emptyWithCapacity]
    rfl
/-- what Decode tells, once two numbers are taken -/
def decT (b : List Nat) (t v : Int) (r : List Nat) : List Lab × Smp × Int :=
  if (readL (bsOf r)).2 = 0 ∧ encN (readL (bsOf r)).1 ⟨t, v⟩ = (b, 0) then ((readL (bsOf r)).1, ⟨t, v⟩, 0) else ([], ⟨0, 0⟩, 4)
/-- the bytes behind the first number -/
def dr1 (b : List Nat) : List Nat := b.drop (takeN b).2.1
def decN (b : List Nat) : List Lab × Smp × Int :=
  if (takeN b).2.2 ≠ 0 then ([], ⟨0, 0⟩, 4) else if (takeN (dr1 b)).2.2 ≠ 0 then ([], ⟨0, 0⟩, 4) else decT b (zagN (takeN b).1) (zagN (takeN (dr1 b)).1) (dr1 (dr1 b))
def DecP (r : List Lab × Smp × Int) (w : World) (v : Value) (w' : World) : Prop :=
  ∃ A n c, v = .tuple #[.slice A n c, .agg #[.int .i64 r.2.1.t, .int .i64 r.2.1.v], .int .i64 r.2.2] ∧ r.1.length = n ∧ w'.ownsRow w.heap.size 85 2 (.slice A n c) n (labCs r.1) ∧ Below w.heap.size w w'
/-- where the loop stands -/
def DecSt (b : List Nat) (r : List Nat) (a0 a1 : Int) : Nat → Prop
  | 0 => r = b ∧ a0 = 0 ∧ a1 = 0
  | 1 => (takeN b).2.2 = 0 ∧ r = dr1 b ∧ a0 = zagN (takeN b).1 ∧ a1 = 0
  | _ => (takeN b).2.2 = 0 ∧ (takeN (dr1 b)).2.2 = 0 ∧ r = dr1 (dr1 b) ∧ a0 = zagN (takeN b).1 ∧ a1 = zagN (takeN (dr1 b)).1
theorem decT_bad {b : List Nat} (h : (takeN b).2.2 ≠ 0) : decN b = ([], ⟨0, 0⟩, 4) := by unfold decN; rw [if_pos h]
theorem decT_bad2 {b : List Nat} (h0 : (takeN b).2.2 = 0) (h : (takeN (dr1 b)).2.2 ≠ 0) : decN b = ([], ⟨0, 0⟩, 4) := by unfold decN; rw [if_neg (by simpa using h0), if_pos h]
theorem decT_on {b : List Nat} (h0 : (takeN b).2.2 = 0) (h : (takeN (dr1 b)).2.2 = 0) : decN b = decT b (zagN (takeN b).1) (zagN (takeN (dr1 b)).1) (dr1 (dr1 b)) := by unfold decN; rw [if_neg (by simpa using h0), if_neg (by simpa using h)]
theorem bytes_drop {l : List Nat} (h : Bytes l) (k : Nat) : Bytes (l.drop k) := fun x hx => h x (List.mem_of_mem_drop hx)
theorem Blk.newD (w : World) (t : TypeId) (cs : Array Value) (g : Nat) (h : w.heap.size = g) : Blk (w.alloc (.cells cs t)) g t cs := by subst h; exact Blk.new _ _ _
theorem two_kept {w : World} {g g2 : Nat} {t : TypeId} {x y : Value} (h : Blk w g2 t #[x, y]) (hne : g2 ≠ g) (u v : Value) (d : Nat) : (((w.drewN d).setCell ⟨g, 0, none⟩ u).setCell ⟨g, 1, none⟩ v).cell? ⟨g2, 0, none⟩ = some x ∧ (((w.drewN d).setCell ⟨g, 0, none⟩ u).setCell ⟨g, 1, none⟩ v).cell? ⟨g2, 1, none⟩ = some y := by
  have h1 : Blk (((w.drewN d).setCell ⟨g, 0, none⟩ u).setCell ⟨g, 1, none⟩ v) g2 t #[x, y] := ((Below.heap_setCell _ ⟨g, 1, none⟩ _ g2 hne).trans (Below.heap_setCell _ ⟨g, 0, none⟩ _ g2 hne)).trans (h.drewN d)
  exact ⟨h1.cell 0, h1.cell 1⟩
def arr2 (a0 a1 : Int) : Array Value := #[.int .i64 a0, .int .i64 a1]
/-- the world where the loop stands -/
structure DecW (b : List Nat) (w0 : World) (wr : World) (j : Nat) (R : Option Addr) (q c : Nat) (r : List Nat) (a0 a1 : Int) : Prop where
  len : r.length = q
  qc : q ≤ c
  cm : c ≤ maxLen
  no : R = none → c = 0
  has : Has wr w0.heap.size R (u8s r)
  byt : Bytes r
  st : DecSt b r a0 a1 j
  ia : in64 a0
  ib : in64 a1
  arr : Blk wr (w0.heap.size + 1) 178 (arr2 a0 a1)
  res : Blk wr w0.heap.size 26 #[.int .i64 0, .int .i64 0]
  bel : Below w0.heap.size w0 wr
theorem dec_len {b r : List Nat} {a0 a1 : Int} {j : Nat} (h : DecSt b r a0 a1 j) : r.length ≤ b.length := by
  unfold DecSt at h
  split at h
  · rw [h.1]; exact Nat.le_refl _
  · rw [h.2.1]; unfold dr1; rw [List.length_drop]; omega
  · rw [h.2.2.1]; unfold dr1; rw [List.length_drop, List.length_drop]; omega
theorem u8s_drop (l : List Nat) (k : Nat) : (u8s l).drop k = u8s (l.drop k) := by unfold u8s; rw [List.map_drop]
theorem DecW.step0 {b r : List Nat} {w0 wr w3 : World} {ad : Addr} {q c u k : Nat} {a0 a1 : Int} (h : DecW b w0 wr 0 (some ad) q c r a0 a1) (hx : takeN r = (u, k, 0)) (hu : u < 18446744073709551616) (hb3 : Below wr.heap.size wr w3) (R' : Option Addr) (hR : R' = if c = k then some ad else some (ad.add (k * 1))) (g : Nat) (hg : w0.heap.size = g) :
    DecW b w0 (w3.setCell ⟨g + 1, 0, none⟩ (.int .i64 (zagN u))) 1 R' (q - k) (c - k) (r.drop k) (zagN u) a1 := by
  subst hg
  obtain ⟨h1, h2, h3⟩ := h.st
  have hb := bnext h.bel hb3
  refine ⟨by rw [List.length_drop, h.len], Nat.sub_le_sub_right h.qc _, Nat.le_trans (Nat.sub_le _ _) h.cm, fun e => (by rw [hR] at e; split at e <;> cases e), ?_, bytes_drop h.byt _, ⟨by rw [← h1, hx], by unfold dr1; rw [← h1, hx], by rw [← h1, hx], h3⟩, zagN_in hu, h.ib, ?_, ?_, hb.setCell (by show w0.heap.size ≤ w0.heap.size + 1; omega) _⟩
  · have h9 := Has.cut (k := k) (n := q) (size := 1) (cap := c) h.has (by rw [u8s_len, h.len, Nat.mul_one]) h.qc
    rw [Nat.mul_one, u8s_drop] at h9
    rw [hR, Nat.mul_one]
    have h10 : Has w3 w0.heap.size (if c = k then some ad else some (ad.add k)) (u8s (r.drop k)) := h9.below (hb3.mono h.bel.size)
    exact h10.below ((Below.refl _ _).setCell (by show w0.heap.size ≤ w0.heap.size + 1; omega) _)
  · exact (h.arr.next hb3).set 0 _
  · exact (Below.heap_setCell w3 ⟨w0.heap.size + 1, 0, none⟩ _ w0.heap.size (by show w0.heap.size ≠ w0.heap.size + 1; omega)).trans (h.res.next hb3)
theorem DecW.step1 {b r : List Nat} {w0 wr w3 : World} {ad : Addr} {q c u k : Nat} {a0 a1 : Int} (h : DecW b w0 wr 1 (some ad) q c r a0 a1) (hx : takeN r = (u, k, 0)) (hu : u < 18446744073709551616) (hb3 : Below wr.heap.size wr w3) (R' : Option Addr) (hR : R' = if c = k then some ad else some (ad.add (k * 1))) (g : Nat) (hg : w0.heap.size = g) :
    DecW b w0 (w3.setCell ⟨g + 1, 1, none⟩ (.int .i64 (zagN u))) 2 R' (q - k) (c - k) (r.drop k) a0 (zagN u) := by
  subst hg
  obtain ⟨h1, h2, h3, h4⟩ := h.st
  have hb := bnext h.bel hb3
  refine ⟨by rw [List.length_drop, h.len], Nat.sub_le_sub_right h.qc _, Nat.le_trans (Nat.sub_le _ _) h.cm, fun e => (by rw [hR] at e; split at e <;> cases e), ?_, bytes_drop h.byt _, ⟨h1, by rw [← h2, hx], by rw [← h2]; unfold dr1; rw [hx], h3, by rw [← h2, hx]⟩, h.ia, zagN_in hu, ?_, ?_, hb.setCell (by show w0.heap.size ≤ w0.heap.size + 1; omega) _⟩
  · have h9 := Has.cut (k := k) (n := q) (size := 1) (cap := c) h.has (by rw [u8s_len, h.len, Nat.mul_one]) h.qc
    rw [Nat.mul_one, u8s_drop] at h9
    rw [hR, Nat.mul_one]
    have h10 : Has w3 w0.heap.size (if c = k then some ad else some (ad.add k)) (u8s (r.drop k)) := h9.below (hb3.mono h.bel.size)
    exact h10.below ((Below.refl _ _).setCell (by show w0.heap.size ≤ w0.heap.size + 1; omega) _)
  · exact (h.arr.next hb3).set 1 _
  · exact (Below.heap_setCell w3 ⟨w0.heap.size + 1, 1, none⟩ _ w0.heap.size (by show w0.heap.size ≠ w0.heap.size + 1; omega)).trans (h.res.next hb3)
theorem decP_bad {b : List Nat} {w w' : World} (h : decN b = ([], ⟨0, 0⟩, 4)) (hb : Below w.heap.size w w') : DecP (decN b) w (.tuple #[.slice none 0 0, .agg #[.int .i64 0, .int .i64 0], .int .i64 4]) w' := by
  rw [h]
  exact ⟨none, 0, 0, rfl, rfl, World.ownsRow_nil _ _ _ _, hb⟩
theorem readL_okD (s : ByteArray) (hs : s.size ≤ maxLen) : (∀ x ∈ (readL s).1, LabOk x) ∧ (readL s).1.length ≤ s.size := by
  obtain ⟨h1, h2⟩ := readN_ok s
  unfold readL
  split
  · exact ⟨by simp, by simp⟩
  · split
    · refine ⟨fun x hx => ?_, by rw [List.length_map]; exact h2⟩
      obtain ⟨y, hy, rfl⟩ := List.mem_map.1 hx
      exact ⟨Nat.le_trans (h1 y hy).1 hs, Nat.le_trans (h1 y hy).2 hs⟩
    · exact ⟨by simp, by simp⟩
set_option maxRecDepth 1000000 in
set_option maxHeartbeats 8000000 in
theorem dec_any (A : Option Addr) (n c : Nat) (b : List Nat) (hn : b.length = n) (hlt : n < 4294967281) (hnc : n ≤ c) (hc : c ≤ maxLen) (hA : A = none → c = 0) (hb : Bytes b) (w : World) (h : Has w w.heap.size A (u8s b)) (tS : SgAt w) :
    Calls Tryz.prog 89 #[.slice A n c] w (RV (DecP (decN b) w)) := by
  obtain ⟨W0, hW0⟩ : ∃ W0, (w.alloc (.cells #[.int .i64 0, .int .i64 0] 26)).alloc (.cells #[.int .i64 0, .int .i64 0] 178) = W0 := ⟨_, rfl⟩
  obtain ⟨g, hg⟩ : ∃ g, w.heap.size = g := ⟨_, rfl⟩
  have hb0 : Below w.heap.size w W0 := by rw [← hW0]; exact (one_allocB _ _).alloc (one_allocB _ _).size _
  have hD0 : DecW b w W0 0 A n c b 0 0 := ⟨hn, hnc, hc, hA, h.below hb0, hb, ⟨rfl, rfl, rfl⟩, by unfold in64; omega, by unfold in64; omega, by rw [← hW0]; exact Blk.newD _ _ _ _ (Array.size_push _), by rw [← hW0]; exact (Blk.new _ _ _).alloc _, hb0⟩
  have Hn := Lib.hid hn
  have Hh := Lib.hid h
  have HA := Lib.hid hA
  have Hb := Lib.hid hb
  have HS := Lib.hid tS
  have HW0 := Lib.hid hW0
  have Hg := Lib.hid hg
  have HD0 := Lib.hid hD0
  clear hn h hA hb tS hW0 hg hD0 hb0
  go_enter Tryz.func89, Tryz.ntmps89
  go_wp2_with fail
  rw [HW0.out, Hg.out]
  go_loopw [17, 6] (fun i rest wr => ∃ (j : Nat) (R : Option Addr) (q c2 : Nat) (r : List Nat) (a0 a1 : Int), j ≤ 2 ∧ i = .int .i64 (j : Nat) ∧ rest = .slice R q c2 ∧ Hid (DecW b w wr j R q c2 r a0 a1)) (fun i _ _ => 2 - (intOf i).toNat)
  case atStart => exact ⟨0, A, n, c, b, 0, 0, by omega, rfl, rfl, HD0⟩
  case round =>
    obtain ⟨j, R, q, c2, r, a0, a1, hj, rfl, rfl, hD⟩ := hrel
    rcases (show j = 0 ∨ j = 1 ∨ j = 2 by omega) with rfl | rfl | rfl
    · obtain ⟨⟨u, k, er⟩, hx⟩ : ∃ x, takeN r = x := ⟨_, rfl⟩
      have HT := take_any' R q c2 r hD.out.len (by have := hD.out.len; have := hD.out.qc; have := hD.out.cm; omega) hD.out.byt wr (hD.out.has.more hD.out.bel.size)
      rw [hx] at HT
      simp only [R3] at HT
      have HT := Lib.hid HT
      have Hx := Lib.hid hx
      clear hx
      by_cases her : er = 0
      · subst her
        have ok := Lib.hid (takeN_ok hD.out.byt Hx.out)
        have ult := Lib.hid (takeN_lt hD.out.byt Hx.out)
        have hkq : k ≤ q := by have := ok.out.2.1; have := hD.out.len; omega
        have hqc := hD.out.qc
        obtain ⟨ad, rfl⟩ : ∃ ad, R = some ad := by
          cases R with
          | none => have := hD.out.no rfl; have := ok.out.1; omega
          | some ad => exact ⟨ad, rfl⟩
        go_wp2_with fail
        refine HT.out.mono ?_
        rintro e w2 ⟨rfl, hd⟩
        obtain ⟨d, rfl⟩ := hd
        go_wp2_with fail
        rcases (show c2 = k ∨ ¬ c2 = k by omega) with hck | hck
        · have Hck := Lib.hid hck
          go_region_held3 (fun _ => True) (trivial) (first | (go_at_call 111; refine (zag_any u ult.out _).mono ?_; rintro e w3 ⟨rfl, d3, hw3⟩; have kz : Blk w3 (g + 1) 178 (arr2 a0 a1) := (by rw [hw3, ← Hg.out]; exact hD.out.arr); have hb3 : Below wr.heap.size wr w3 := (by rw [hw3, World.drewN_drewN]; exact drawn_below ⟨_, rfl⟩); have z0 : w3.cell? ⟨g + 1, 0, none⟩ = some (.int .i64 a0) := kz.cell 0; have fz0 : w3.frozen? ⟨g + 1, 0, none⟩ = false := kz.frozen 0; clear hw3))
          go_wp2_with fail
          go_roundw
          case rel => exact ⟨1, _, q - k, c2 - k, r.drop k, zagN u, a1, by omega, by go_num, (by first | rfl | (rw [Hck.out, Nat.sub_self])), Lib.hid (DecW.step0 hD.out Hx.out ult.out hb3 _ (by rw [if_pos Hck.out]) g Hg.out)⟩
          case measure => simp [intOf] <;> omega
        · have Hck := Lib.hid hck
          go_region_held3 (fun _ => True) (trivial) (first | (go_at_call 111; refine (zag_any u ult.out _).mono ?_; rintro e w3 ⟨rfl, d3, hw3⟩; have kz : Blk w3 (g + 1) 178 (arr2 a0 a1) := (by rw [hw3, ← Hg.out]; exact hD.out.arr); have hb3 : Below wr.heap.size wr w3 := (by rw [hw3, World.drewN_drewN]; exact drawn_below ⟨_, rfl⟩); have z0 : w3.cell? ⟨g + 1, 0, none⟩ = some (.int .i64 a0) := kz.cell 0; have fz0 : w3.frozen? ⟨g + 1, 0, none⟩ = false := kz.frozen 0; clear hw3))
          go_wp2_with fail
          go_roundw
          case rel => exact ⟨1, _, q - k, c2 - k, r.drop k, zagN u, a1, by omega, by go_num, (by first | rfl | (rw [Hck.out, Nat.sub_self])), Lib.hid (DecW.step0 hD.out Hx.out ult.out hb3 _ (by rw [if_neg Hck.out, Nat.mul_one]) g Hg.out)⟩
          case measure => simp [intOf] <;> omega
      · have hF := Lib.hid (show decN b = ([], ⟨0, 0⟩, 4) from decT_bad (by rw [← hD.out.st.1, Hx.out]; exact her))
        have her2 : ¬ (er : Int) = 0 := by omega
        have y0 : wr.cell? ⟨g, 0, none⟩ = some (.int .i64 0) := by rw [← Hg.out]; exact hD.out.res.cell 0
        have y1 : wr.cell? ⟨g, 1, none⟩ = some (.int .i64 0) := by rw [← Hg.out]; exact hD.out.res.cell 1
        have f0 : wr.frozen? ⟨g, 0, none⟩ = false := by rw [← Hg.out]; exact hD.out.res.frozen 0
        have f1 : wr.frozen? ⟨g, 1, none⟩ = false := by rw [← Hg.out]; exact hD.out.res.frozen 1
        have hbr := hD.out.bel
        go_wp2_with fail
        refine HT.out.mono ?_
        rintro e w2 ⟨rfl, hd⟩
        obtain ⟨d, rfl⟩ := hd
        go_wp2_with fail
        refine bodyPost_ret (v := .tuple #[.slice none 0 0, .agg #[.int .i64 0, .int .i64 0], .int .i64 4]) (by simp [results, Tryz.results89, go_sem, *]) rfl (RV.mk ?_)
        exact decP_bad hF.out (((below_drewN hbr _).setCell (by show w.heap.size ≤ g; rw [← Hg.out]; exact Nat.le_refl _) _).setCell (by show w.heap.size ≤ g; rw [← Hg.out]; exact Nat.le_refl _) _)
    · obtain ⟨⟨u, k, er⟩, hx⟩ : ∃ x, takeN r = x := ⟨_, rfl⟩
      have HT := take_any' R q c2 r hD.out.len (by have := hD.out.len; have := hD.out.qc; have := hD.out.cm; omega) hD.out.byt wr (hD.out.has.more hD.out.bel.size)
      rw [hx] at HT
      simp only [R3] at HT
      have HT := Lib.hid HT
      have Hx := Lib.hid hx
      clear hx
      by_cases her : er = 0
      · subst her
        have ok := Lib.hid (takeN_ok hD.out.byt Hx.out)
        have ult := Lib.hid (takeN_lt hD.out.byt Hx.out)
        have hkq : k ≤ q := by have := ok.out.2.1; have := hD.out.len; omega
        have hqc := hD.out.qc
        obtain ⟨ad, rfl⟩ : ∃ ad, R = some ad := by
          cases R with
          | none => have := hD.out.no rfl; have := ok.out.1; omega
          | some ad => exact ⟨ad, rfl⟩
        go_wp2_with fail
        refine HT.out.mono ?_
        rintro e w2 ⟨rfl, hd⟩
        obtain ⟨d, rfl⟩ := hd
        go_wp2_with fail
        rcases (show c2 = k ∨ ¬ c2 = k by omega) with hck | hck
        · have Hck := Lib.hid hck
          go_region_held3 (fun _ => True) (trivial) (first | (go_at_call 111; refine (zag_any u ult.out _).mono ?_; rintro e w3 ⟨rfl, d3, hw3⟩; have kz : Blk w3 (g + 1) 178 (arr2 a0 a1) := (by rw [hw3, ← Hg.out]; exact hD.out.arr); have hb3 : Below wr.heap.size wr w3 := (by rw [hw3, World.drewN_drewN]; exact drawn_below ⟨_, rfl⟩); have z0 : w3.cell? ⟨g + 1, 1, none⟩ = some (.int .i64 a1) := kz.cell 1; have fz0 : w3.frozen? ⟨g + 1, 1, none⟩ = false := kz.frozen 1; clear hw3))
          go_wp2_with fail
          go_roundw
          case rel => exact ⟨2, _, q - k, c2 - k, r.drop k, a0, zagN u, by omega, by go_num, (by first | rfl | (rw [Hck.out, Nat.sub_self])), Lib.hid (DecW.step1 hD.out Hx.out ult.out hb3 _ (by rw [if_pos Hck.out]) g Hg.out)⟩
          case measure => simp [intOf] <;> omega
        · have Hck := Lib.hid hck
          go_region_held3 (fun _ => True) (trivial) (first | (go_at_call 111; refine (zag_any u ult.out _).mono ?_; rintro e w3 ⟨rfl, d3, hw3⟩; have kz : Blk w3 (g + 1) 178 (arr2 a0 a1) := (by rw [hw3, ← Hg.out]; exact hD.out.arr); have hb3 : Below wr.heap.size wr w3 := (by rw [hw3, World.drewN_drewN]; exact drawn_below ⟨_, rfl⟩); have z0 : w3.cell? ⟨g + 1, 1, none⟩ = some (.int .i64 a1) := kz.cell 1; have fz0 : w3.frozen? ⟨g + 1, 1, none⟩ = false := kz.frozen 1; clear hw3))
          go_wp2_with fail
          go_roundw
          case rel => exact ⟨2, _, q - k, c2 - k, r.drop k, a0, zagN u, by omega, by go_num, (by first | rfl | (rw [Hck.out, Nat.sub_self])), Lib.hid (DecW.step1 hD.out Hx.out ult.out hb3 _ (by rw [if_neg Hck.out, Nat.mul_one]) g Hg.out)⟩
          case measure => simp [intOf] <;> omega
      · have hF := Lib.hid (show decN b = ([], ⟨0, 0⟩, 4) from decT_bad2 hD.out.st.1 (by rw [← hD.out.st.2.1, Hx.out]; exact her))
        have her2 : ¬ (er : Int) = 0 := by omega
        have y0 : wr.cell? ⟨g, 0, none⟩ = some (.int .i64 0) := by rw [← Hg.out]; exact hD.out.res.cell 0
        have y1 : wr.cell? ⟨g, 1, none⟩ = some (.int .i64 0) := by rw [← Hg.out]; exact hD.out.res.cell 1
        have f0 : wr.frozen? ⟨g, 0, none⟩ = false := by rw [← Hg.out]; exact hD.out.res.frozen 0
        have f1 : wr.frozen? ⟨g, 1, none⟩ = false := by rw [← Hg.out]; exact hD.out.res.frozen 1
        have hbr := hD.out.bel
        go_wp2_with fail
        refine HT.out.mono ?_
        rintro e w2 ⟨rfl, hd⟩
        obtain ⟨d, rfl⟩ := hd
        go_wp2_with fail
        refine bodyPost_ret (v := .tuple #[.slice none 0 0, .agg #[.int .i64 0, .int .i64 0], .int .i64 4]) (by simp [results, Tryz.results89, go_sem, *]) rfl (RV.mk ?_)
        exact decP_bad hF.out (((below_drewN hbr _).setCell (by show w.heap.size ≤ g; rw [← Hg.out]; exact Nat.le_refl _) _).setCell (by show w.heap.size ≤ g; rw [← Hg.out]; exact Nat.le_refl _) _)
    · have st := Lib.hid hD.out.st
      have hrl : r.length ≤ b.length := dec_len st.out
      have hlen := hD.out.len
      have hqc := hD.out.qc
      have hcm := hD.out.cm
      have hbr := Lib.hid hD.out.bel
      have hTr : SgAt wr := HS.out.next hD.out.bel
      have hrs : (bsOf r).size < 4294967281 := by rw [bsOf_size]; have := Hn.out; omega
      have hcv := conv_has (W := wr) (A := R) (n := q) (c := c2) hlen (fun e => by have := hD.out.no e; omega) (hD.out.has.more hD.out.bel.size)
      obtain ⟨okA, okB⟩ := readL_okD (bsOf r) (by unfold maxLen; omega)
      have hRd := Lib.hid (lread_any (bsOf r) hrs wr hTr)
      have hE := Lib.hid (show decN b = decT b a0 a1 r by rw [decT_on st.out.1 st.out.2.1, st.out.2.2.1, st.out.2.2.2.1, st.out.2.2.2.2])
      unfold decT at hE
      obtain ⟨⟨L, eL⟩, hL⟩ : ∃ x, readL (bsOf r) = x := ⟨_, rfl⟩
      rw [hL] at hE hRd okA okB
      have HL := Lib.hid hL
      have okA := Lib.hid okA
      have okB := Lib.hid okB
      have Hlen := Lib.hid hlen
      clear hL hlen hTr
      have harr := Lib.hid (show Blk wr (g + 1) 178 (arr2 a0 a1) by rw [← Hg.out]; exact hD.out.arr)
      have hres := Lib.hid (show Blk wr g 26 #[.int .i64 0, .int .i64 0] by rw [← Hg.out]; exact hD.out.res)
      go_wp2_with fail
      refine hRd.out.mono ?_
      rintro e w1 ⟨v, rfl, AL, cL, rfl, hoL, hb1⟩
      have hoL := Lib.hid hoL
      have harr1 := Lib.hid (harr.out.next hb1)
      have hres1 := Lib.hid (hres.out.next hb1)
      have x0 : w1.cell? ⟨g + 1, 0, none⟩ = some (.int .i64 a0) := harr1.out.cell 0
      have x1 : w1.cell? ⟨g + 1, 1, none⟩ = some (.int .i64 a1) := harr1.out.cell 1
      go_wp2_with fail
      obtain ⟨W2, hW2⟩ : ∃ W2, w1.alloc (.cells #[.int .i64 a0, .int .i64 a1] 26) = W2 := ⟨_, rfl⟩
      obtain ⟨g2, hg2⟩ : ∃ g2, w1.heap.size = g2 := ⟨_, rfl⟩
      have hb2 : Below w1.heap.size w1 W2 := by rw [← hW2]; exact one_allocB _ _
      have hb02 := Lib.hid (bnext hbr.out (bnext hb1 hb2))
      have kx : Blk W2 g2 26 #[.int .i64 a0, .int .i64 a1] := by rw [← hW2]; exact Blk.newD _ _ _ _ hg2
      have hres2 := Lib.hid (hres1.out.next hb2)
      have hoL2 := Lib.hid (own_next hoL.out hb2)
      have hLl : L.length ≤ maxLen := by have := okB.out; have := hrs; unfold maxLen; omega
      have hEn := enc_any AL L.length cL L rfl hLl ⟨a0, a1⟩ ⟨hD.out.ia, hD.out.ib⟩ W2 (Has.of_own hoL2.out) okA.out (HS.out.next hb02.out)
      obtain ⟨⟨B2, f⟩, hB2⟩ : ∃ x, encN L ⟨a0, a1⟩ = x := ⟨_, rfl⟩
      rw [hB2] at hEn hE
      rw [hW2, hg2]
      have hg2w : g2 < W2.heap.size := kx.lt
      have HW2 := Lib.hid hW2
      have Hg2 := Lib.hid hg2
      clear hW2 hg2 hb2 x0 x1
      refine hEn.mono ?_
      rintro e w3 ⟨v, rfl, A3, n3, c3, rfl, ho3, hb3⟩
      have hb03 := Lib.hid (bnext hb02.out hb3)
      have hres3 := hres2.out.next hb3
      have y0 : w3.cell? ⟨g, 0, none⟩ = some (.int .i64 0) := hres3.cell 0
      have y1 : w3.cell? ⟨g, 1, none⟩ = some (.int .i64 0) := hres3.cell 1
      have f0 : w3.frozen? ⟨g, 0, none⟩ = false := hres3.frozen 0
      have f1 : w3.frozen? ⟨g, 1, none⟩ = false := hres3.frozen 1
      have kx3 := kx.next hb3
      have z0 : w3.cell? ⟨g2, 0, none⟩ = some (.int .i64 a0) := kx3.cell 0
      have z1 : w3.cell? ⟨g2, 1, none⟩ = some (.int .i64 a1) := kx3.cell 1
      have ho3 := Lib.hid ho3
      have hoL3 := Lib.hid (own_next hoL2.out hb3)
      by_cases he1 : eL = 0
      · by_cases he2 : f = 0
        · subst he1
          subst he2
          have hn3 : B2.length = n3 := by have h9 := ho3.out.1; rw [u8s_len, Nat.mul_one] at h9; exact h9
          have hn3m : n3 ≤ maxLen := by
            have h9 : encN L ⟨a0, a1⟩ = (B2, 0) := hB2
            have h8 := hn3
            unfold encN at h9
            split at h9
            · injection h9 with h9 _; rw [← h9] at h8; rw [← h8]; exact Nat.zero_le _
            · rename_i hq
              split at h9
              · injection h9 with h9 _; rw [← h9] at h8; rw [← h8]; exact Nat.zero_le _
              · injection h9 with h9 _
                rw [← h9] at h8
                rw [← h8]
                have h7 := recN_len (L := L) (by simpa using hq) (x := ⟨a0, a1⟩) ⟨hD.out.ia, hD.out.ib⟩
                unfold maxLen
                omega
          have hEq := Lib.hid (equalU8_any A3 A n3 n c3 c B2 b hn3 Hn.out hn3m (by unfold maxLen; omega) w3 (Has.of_own ho3.out) (Has.next Hh.out hb03.out))
          by_cases hBb : B2 = b
          · have hF := Lib.hid (show decN b = (L, ⟨a0, a1⟩, 0) by rw [hE, if_pos ⟨rfl, by rw [hBb]⟩])
            rw [decide_eq_true hBb] at hEq
            go_wp2_with fail
            refine hEq.out.mono ?_
            rintro e w4 ⟨rfl, hd⟩
            obtain ⟨d, rfl⟩ := hd
            go_wp2_with fail
            have gne : g2 ≠ g := by have h1 := hres.out.lt; have h2 := hb1.size; have h3 := Hg2.out; omega
            go_region_held3 (fun w' => w'.cell? ⟨g2, 0, none⟩ = some (.int .i64 a0) ∧ w'.cell? ⟨g2, 1, none⟩ = some (.int .i64 a1)) (first | exact ⟨z0, z1⟩ | exact two_kept kx3 gne _ _ _) (fail)
            all_goals
              go_wp2_with fail
              refine bodyPost_ret (v := .tuple #[.slice AL L.length cL, .agg #[.int .i64 a0, .int .i64 a1], .int .i64 0]) (by simp [results, Tryz.results89, go_sem, *]) rfl (RV.mk ?_)
              rw [hF.out]
              exact ⟨AL, L.length, cL, rfl, rfl, own_less (ownsRow_setCell_below (ownsRow_setCell_below (show World.ownsRow (w3.drewN _) wr.heap.size 85 2 (.slice AL L.length cL) L.length (labCs L) from hoL3.out) (a := ⟨g, 0, none⟩) hres.out.lt _) (a := ⟨g, 1, none⟩) hres.out.lt _) hbr.out.size, (((below_drewN hb03.out _).setCell (by show w.heap.size ≤ g; rw [← Hg.out]; exact Nat.le_refl _) _).setCell (by show w.heap.size ≤ g; rw [← Hg.out]; exact Nat.le_refl _) _)⟩
          · have hF := Lib.hid (show decN b = ([], ⟨0, 0⟩, 4) by rw [hE, if_neg (by rintro ⟨_, h9⟩; injection h9 with h9 _; exact hBb h9)])
            rw [decide_eq_false hBb] at hEq
            go_wp2_with fail
            refine hEq.out.mono ?_
            rintro e w4 ⟨rfl, hd⟩
            obtain ⟨d, rfl⟩ := hd
            go_wp2_with fail
            refine bodyPost_ret (v := .tuple #[.slice none 0 0, .agg #[.int .i64 0, .int .i64 0], .int .i64 4]) (by simp [results, Tryz.results89, go_sem, *]) rfl (RV.mk ?_)
            exact decP_bad hF.out (((below_drewN hb03.out _).setCell (by show w.heap.size ≤ g; rw [← Hg.out]; exact Nat.le_refl _) _).setCell (by show w.heap.size ≤ g; rw [← Hg.out]; exact Nat.le_refl _) _)
        · have hF := Lib.hid (show decN b = ([], ⟨0, 0⟩, 4) by rw [hE, if_neg (by rintro ⟨_, h9⟩; injection h9 with _ h9; exact he2 h9)])
          subst he1
          go_wp2_with fail
          refine bodyPost_ret (v := .tuple #[.slice none 0 0, .agg #[.int .i64 0, .int .i64 0], .int .i64 4]) (by simp [results, Tryz.results89, go_sem, *]) rfl (RV.mk ?_)
          exact decP_bad hF.out ((hb03.out).setCell (by show w.heap.size ≤ g; rw [← Hg.out]; exact Nat.le_refl _) _ |>.setCell (by show w.heap.size ≤ g; rw [← Hg.out]; exact Nat.le_refl _) _)
      · have hF := Lib.hid (show decN b = ([], ⟨0, 0⟩, 4) by rw [hE, if_neg (by rintro ⟨h9, _⟩; exact he1 h9)])
        go_wp2_with fail
        refine bodyPost_ret (v := .tuple #[.slice none 0 0, .agg #[.int .i64 0, .int .i64 0], .int .i64 4]) (by simp [results, Tryz.results89, go_sem, *]) rfl (RV.mk ?_)
        exact decP_bad hF.out ((hb03.out).setCell (by show w.heap.size ≤ g; rw [← Hg.out]; exact Nat.le_refl _) _ |>.setCell (by show w.heap.size ≤ g; rw [← Hg.out]; exact Nat.le_refl _) _)
end Go.Proofs.YtihjgbhnlejhfaaGreatDoor
namespace Go.Proofs.YtihjgbhnlejhfaaGreatDoor
abbrev Ser := List Lab × List Smp
abbrev StD := List (ByteArray × Ser)
def findSt : StD → ByteArray → Option Ser
  | [], _ => none
  | p :: st, k => if p.1 = k then some p.2 else findSt st k
def putSt : StD → ByteArray → Ser → StD
  | [], k, y => [(k, y)]
  | p :: st, k, y => if p.1 = k then (k, y) :: st else p :: putSt st k y
theorem find_put (st : StD) (k : ByteArray) (y : Ser) (k' : ByteArray) : findSt (putSt st k y) k' = if k = k' then some y else findSt st k' := by
  induction st with
  | nil => unfold putSt findSt; rfl
  | cons p st ih =>
    unfold putSt
    split
    · rename_i h
      unfold findSt
      by_cases h2 : k = k'
      · rw [if_pos h2, if_pos h2]
      · rw [if_neg h2, if_neg h2, if_neg (by rw [h]; exact h2)]
    · rename_i h
      unfold findSt
      by_cases h2 : p.1 = k'
      · rw [if_pos h2, if_pos h2, if_neg (fun e => h (h2.trans e.symm))]
      · rw [if_neg h2, if_neg h2, ih]
theorem find_none {st : StD} {k : ByteArray} (h : ∀ p ∈ st, p.1 ≠ k) : findSt st k = none := by
  induction st with
  | nil => rfl
  | cons p st ih =>
    unfold findSt
    rw [if_neg (h p List.mem_cons_self)]
    exact ih fun q hq => h q (List.mem_cons_of_mem _ hq)
theorem find_mem {st : StD} {k : ByteArray} {y : Ser} (h : findSt st k = some y) : (k, y) ∈ st := by
  induction st with
  | nil => cases h
  | cons p st ih =>
    unfold findSt at h
    split at h
    · rename_i e
      injection h with h
      rw [← e, ← h]
      exact List.mem_cons_self
    · exact List.mem_cons_of_mem _ (ih h)
theorem find_of_mem {st : StD} {k : ByteArray} {y : Ser} (hn : (st.map (·.1)).Nodup) (h : (k, y) ∈ st) : findSt st k = some y := by
  induction st with
  | nil => cases h
  | cons p st ih =>
    obtain ⟨h1, h2⟩ := List.nodup_cons.1 (show (p.1 :: st.map (·.1)).Nodup from hn)
    unfold findSt
    rcases List.mem_cons.1 h with e | e
    · rw [← e, if_pos rfl]
    · rw [if_neg (fun e2 => h1 (by rw [e2]; exact List.mem_map.2 ⟨_, e, rfl⟩))]
      exact ih h2 e
theorem put_none {st : StD} {k : ByteArray} (h : ∀ p ∈ st, p.1 ≠ k) (y : Ser) : putSt st k y = st ++ [(k, y)] := by
  induction st with
  | nil => rfl
  | cons p st ih =>
    unfold putSt
    rw [if_neg (h p List.mem_cons_self), ih fun q hq => h q (List.mem_cons_of_mem _ hq)]
    rfl
theorem put_some {pre post : StD} {k : ByteArray} {v : Ser} (h : ∀ p ∈ pre, p.1 ≠ k) (y : Ser) : putSt (pre ++ (k, v) :: post) k y = pre ++ (k, y) :: post := by
  induction pre with
  | nil => show putSt ((k, v) :: post) k y = _; unfold putSt; rw [if_pos rfl]; rfl
  | cons p st ih =>
    show putSt (p :: (st ++ (k, v) :: post)) k y = _
    unfold putSt
    rw [if_neg (h p List.mem_cons_self), ih fun q hq => h q (List.mem_cons_of_mem _ hq)]
    rfl
/-- the series behind a sample -/
def serN (st : StD) (k : ByteArray) (L : List Lab) (x : Smp) : Ser :=
  match findSt st k with
  | none => (L, [x])
  | some y => (y.1, mergeUp y.2 [x])
/-- what a sample changes -/
def addN (st : StD) (L : List Lab) (x : Smp) : StD := putSt st (txL L) (serN st (txL L) L x)
/-- a series that takes one sample more -/
def SerOk (y : Ser) : Prop := chkS y.2 = 0 ∧ y.2.length < 1000 ∧ y.1.length ≤ 10 ∧ ∀ e ∈ y.1, LabOk e
def StOk (st : StD) : Prop := st.length < 200 ∧ ∀ p ∈ st, SerOk p.2
theorem mergeUp_one_len : ∀ (l : List Smp) (x : Smp), (mergeUp l [x]).length ≤ l.length + 1
  | [], x => by unfold mergeUp; simp
  | y :: l, x => by
    unfold mergeUp
    split
    · rw [List.length_cons, List.length_cons]
      exact Nat.succ_le_succ (mergeUp_one_len l x)
    · split
      · rw [List.length_cons]
        have e : mergeUp (y :: l) [] = y :: l := by unfold mergeUp; rfl
        rw [e]
        exact Nat.le_refl _
      · rw [List.length_cons, List.length_cons]
        have e : mergeUp l [] = l := by cases l <;> simp [mergeUp]
        rw [e]
        omega
theorem chkS_one (x : Smp) : chkS [x] = 0 := by unfold chkS ordUp; simp
theorem merge_one {l : List Smp} (h : chkS l = 0) (h2 : l.length < 1000) (x : Smp) : mergeN l [x] = (mergeUp l [x], 0) := by
  unfold mergeN
  rw [if_neg (by rw [h]; simp), if_neg (by rw [chkS_one]; simp), if_neg (by have := mergeUp_one_len l x; omega)]
theorem merge_none (x : Smp) : mergeN [] [x] = ([x], 0) := by
  have e : mergeUp [] [x] = [x] := by unfold mergeUp; rfl
  rw [merge_one (by unfold chkS ordUp; simp) (by simp) x, e]
/-- what Put tells, and what is there behind it: series and the bytes of the disk -/
def putN (s : StD × List Nat) (L : List Lab) (x : Smp) : (StD × List Nat) × Int :=
  if (encN L x).2 ≠ 0 then (s, (encN L x).2) else ((addN s.1 L x, s.2 ++ frameL (recN L x)), 0)
end Go.Proofs.YtihjgbhnlejhfaaGreatDoor
