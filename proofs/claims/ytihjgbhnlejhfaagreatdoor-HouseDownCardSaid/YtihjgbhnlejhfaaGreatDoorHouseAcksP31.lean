/- Texts of the proof of HouseAcks, joined (by merge.py). Conditions: each theorem's own hypotheses. -/
import Derived.Test.YtihjgbhnlejhfaaGreatDoorHouseAcksP3
import Derived.Test.YtihjgbhnlejhfaaGreatDoorHouseAcksP4
import Derived.Test.YtihjgbhnlejhfaaGreatDoorHouseAcksP18
import Derived.Test.YtihjgbhnlejhfaaGreatDoorHouseAcksP28
import Derived.Test.YtihjgbhnlejhfaaGreatDoorHouseAcksP30
import Derived.Deep.RegionHeldLaw
namespace Go.Proofs.YtihjgbhnlejhfaaGreatDoor
open Go.RowKit

/-- the text of labels -/
def txL (L : List Lab) : ByteArray := txtB (L.map asM)
/-- a put, as bytes -/
def recN (L : List Lab) (x : Smp) : List Nat := putL (zigN x.t) ++ putL (zigN x.v) ++ sb (txL L)
/-- what Encode tells -/
def encN (L : List Lab) (x : Smp) : List Nat × Int := if chkL L ≠ 0 then ([], chkL L) else if x.t < -1152921504606846976 ∨ 1152921504606846976 < x.t then ([], 6) else (recN L x, 0)
def SmpIn (x : Smp) : Prop := in64 x.t ∧ in64 x.v
def EncP (r : List Nat × Int) (w : World) (v : Value) (w' : World) : Prop :=
  ∃ A n c, v = .tuple #[.slice A n c, .int .i64 r.2] ∧ w'.ownsRow w.heap.size 5 1 (.slice A n c) n (u8s r.1) ∧ Below w.heap.size w w'
theorem recN_len {L : List Lab} (h : chkL L = 0) {x : Smp} (hx : SmpIn x) : (recN L x).length ≤ 1220 := by
  have h1 := putL_len10 (zigN_lt (n := x.t) hx.1)
  have h2 := putL_len10 (zigN_lt (n := x.v) hx.2)
  have h3 := txtB_size (chkM_asM h)
  unfold recN txL
  rw [List.length_append, List.length_append, sb_len]
  omega
theorem recN_bytes (L : List Lab) (x : Smp) : Bytes (recN L x) := by
  intro b hb
  unfold recN at hb
  rcases List.mem_append.1 hb with hb | hb
  · rcases List.mem_append.1 hb with hb | hb
    · exact putL_bytes _ b hb
    · exact putL_bytes _ b hb
  · exact sb_bytes _ b hb
def CatP (r : List Nat) (w : World) (v : Value) (w' : World) : Prop := ∃ A n c, v = .slice A n c ∧ w'.ownsRow w.heap.size 5 1 (.slice A n c) n (u8s r) ∧ Below w.heap.size w w'
theorem grown_ok (W : World) (s : ByteArray) (t : TypeId) (hs : s.size ≤ 1200) : s.size ≤ grownCap W s.size 0 t ∧ grownCap W s.size 0 t ≤ maxLen := ⟨grownCap_ge W s.size 0 t, grownCap_le_maxLen W s.size 0 t (by unfold maxLen; omega)⟩
theorem concat3_any (a b : Nat) (s : ByteArray) (l1 : (putL a).length ≤ 10) (l2 : (putL b).length ≤ 10) (hs : s.size ≤ 1200) {k : Nat} (hk : s.size ≤ k ∧ k ≤ maxLen) {W : World} {v1 v2 : Value} {q : Nat} (h1 : RecAt W v1 (putL a)) (h2 : RecAt W v2 (putL b)) (hT : Has W W.heap.size (some ⟨q, 0, none⟩) (u8s (sb s))) (g : Nat) (hg : g = W.heap.size) :
    Calls Tryz.prog 66 #[.slice (some ⟨g, 0, none⟩) 3 3] (W.alloc (.cells #[v1, v2, .slice (some ⟨q, 0, none⟩) s.size k] 76)) (RV (CatP [putL a, putL b, sb s].flatten W)) := by
  subst hg
  have hb := one_allocB W (.cells #[v1, v2, .slice (some ⟨q, 0, none⟩) s.size k] 76)
  have hT3 : RecAt (W.alloc (.cells #[v1, v2, .slice (some ⟨q, 0, none⟩) s.size k] 76)) (.slice (some ⟨q, 0, none⟩) s.size k) (sb s) := ⟨_, k, by rw [sb_len], by rw [sb_len]; exact hk.1, hk.2, by simp, hT.next hb⟩
  have h := concatB_any (some ⟨W.heap.size, 0, none⟩) 3 [putL a, putL b, sb s] [v1, v2, .slice (some ⟨q, 0, none⟩) s.size k] (by simp) (by unfold maxLen; omega) (by simp) (fun i hi => by
    rcases (show i = 0 ∨ i = 1 ∨ i = 2 by simp at hi; omega) with rfl | rfl | rfl
    · show (putL a).length ≤ 2000; omega
    · show (putL b).length ≤ 2000; omega
    · show (sb s).length ≤ 2000; rw [sb_len]; omega) (W.alloc (.cells #[v1, v2, .slice (some ⟨q, 0, none⟩) s.size k] 76)) (Has.fresh W #[v1, v2, .slice (some ⟨q, 0, none⟩) s.size k] _) (.cons (h1.next hb) (.cons (h2.next hb) (.cons hT3 .nil)))
  exact h.mono fun e w' ⟨v, he, A', c', hv, ho, hb'⟩ => ⟨v, he, A', _, c', hv, own_less ho hb.size, bnext hb hb'⟩
theorem concat3_later (a b : Nat) (s : ByteArray) (l1 : (putL a).length ≤ 10) (l2 : (putL b).length ≤ 10) (hs : s.size ≤ 1200) {k : Nat} (hk : s.size ≤ k ∧ k ≤ maxLen) {W : World} {v1 v2 : Value} {q : Nat} (h1 : RecAt W v1 (putL a)) (h2 : RecAt W v2 (putL b)) (hT : Has W W.heap.size (some ⟨q, 0, none⟩) (u8s (sb s))) (W' : World) (hb : Below W.heap.size W W') (g : Nat) (hg : g = W'.heap.size) :
    Calls Tryz.prog 66 #[.slice (some ⟨g, 0, none⟩) 3 3] (W'.alloc (.cells #[v1, v2, .slice (some ⟨q, 0, none⟩) s.size k] 76)) (RV (CatP [putL a, putL b, sb s].flatten W')) :=
  concat3_any a b s l1 l2 hs hk (h1.next hb) (h2.next hb) (hT.next hb) g hg
theorem concat3_now (a b : Nat) (s : ByteArray) (l1 : (putL a).length ≤ 10) (l2 : (putL b).length ≤ 10) (hs : s.size ≤ 1200) {k : Nat} (hk : s.size ≤ k ∧ k ≤ maxLen) {W : World} {v1 v2 : Value} {e : TypeId} (h1 : RecAt W v1 (putL a)) (h2 : RecAt W v2 (putL b)) (g : Nat) (hg : g = (Lib.bytesWorld W e s).heap.size) :
    Calls Tryz.prog 66 #[.slice (some ⟨g, 0, none⟩) 3 3] ((Lib.bytesWorld W e s).alloc (.cells #[v1, v2, .slice (some ⟨W.heap.size, 0, none⟩) s.size k] 76)) (RV (CatP [putL a, putL b, sb s].flatten (Lib.bytesWorld W e s))) :=
  concat3_any a b s l1 l2 hs hk (h1.next (below_bytesT (Below.refl _ _))) (h2.next (below_bytesT (Below.refl _ _))) (has_bytesS W e s) g hg
theorem keepE {w W : World} {g : Nat} {t : TypeId} {x0 x1 : Value} (h : Blk w g t #[x0, x1]) (hb : Below w.heap.size w W) : W.cell? ⟨g, 0, none⟩ = some x0 ∧ W.cell? ⟨g, 1, none⟩ = some x1 := ⟨(h.next hb).cell 0, (h.next hb).cell 1⟩
theorem recAt_own {w : World} {base c : Nat} {A : Option Addr} {r : List Nat} (h : w.ownsRow base 5 1 (.slice A r.length c) r.length (u8s r)) : RecAt w (.slice A r.length c) r := by
  obtain ⟨A', c', e, h1, h2, _, h3⟩ := own_form h
  injection e with e1 _ e2
  subst e1 e2
  exact ⟨A, c, rfl, h1, h2, h3, Has.of_own h⟩
set_option maxRecDepth 1000000 in
set_option maxHeartbeats 8000000 in
theorem enc_any (A : Option Addr) (n c : Nat) (L : List Lab) (hn : L.length = n) (hl : n ≤ maxLen) (x : Smp) (hx : SmpIn x) (w : World) (h : Has w w.heap.size A (labCs L)) (hL : ∀ e ∈ L, LabOk e) (tS : SgAt w) :
    Calls Tryz.prog 37 #[.slice A n c, .agg #[.int .i64 x.t, .int .i64 x.v]] w (RV (EncP (encN L x) w)) := by
  obtain ⟨t, v⟩ := x
  obtain ⟨ht64, hv64⟩ := hx
  simp only [] at ht64 hv64 ⊢
  obtain ⟨W0, hW0⟩ : ∃ W0, w.alloc (.cells #[.int .i64 t, .int .i64 v] 26) = W0 := ⟨_, rfl⟩
  obtain ⟨g, hg⟩ : ∃ g, w.heap.size = g := ⟨_, rfl⟩
  have hb0 : Below w.heap.size w W0 := by rw [← hW0]; exact one_allocB _ _
  have kx : Blk W0 g 26 #[.int .i64 t, .int .i64 v] := by rw [← hW0, ← hg]; exact Blk.new _ _ _
  have HT := Lib.hid (lbtext_any A n c L hn hl W0 (h.next hb0) hL (tS.next hb0))
  obtain ⟨r, hr⟩ : ∃ r, chkL L = r := ⟨_, rfl⟩
  have HR := Lib.hid hr
  have HW0 := Lib.hid hW0
  have Hg := Lib.hid hg
  clear hW0 hg h hL tS hn hl
  by_cases h0 : r = 0
  · have E := Lib.hid (show textN L = (txL L, 0) by unfold textN txL; rw [hr, if_neg (by simpa using h0)])
    rw [E.out] at HT
    have hs := Lib.hid (show (txL L).size ≤ 1200 from txtB_size (chkM_asM (hr.trans h0)))
    by_cases htr : t < -1152921504606846976 ∨ 1152921504606846976 < t
    · have hF := Lib.hid (fun (w' : World) (hb : Below w.heap.size w w') => show EncP (encN L ⟨t, v⟩) w (.tuple #[.slice none 0 0, .int .i64 6]) w' from ⟨none, 0, 0, by unfold encN; rw [hr, if_neg (by simpa using h0), if_pos htr], by unfold encN; rw [hr, if_neg (by simpa using h0), if_pos htr]; exact World.ownsRow_nil _ _ _ _, hb⟩)
      subst h0
      clear hr
      rcases (show t < -1152921504606846976 ∨ (¬ t < -1152921504606846976 ∧ 1152921504606846976 < t) by omega) with h1 | ⟨h1, h2⟩
      all_goals
        clear htr
        go_enter Tryz.func37, Tryz.ntmps37
        go_wp2_with fail
        rw [HW0.out, Hg.out]
        refine HT.out.mono ?_
        rintro e w1 ⟨rfl, hb1⟩
        have x0 : w1.cell? ⟨g, 0, none⟩ = some (.int .i64 t) := (kx.next hb1).cell 0
        go_wp2_with fail
        go_ret2
        exact RV.mk (hF.out _ (bnext hb0 hb1))
    · have E2 := Lib.hid (show encN L ⟨t, v⟩ = (recN L ⟨t, v⟩, 0) by unfold encN; rw [hr, if_neg (by simpa using h0), if_neg htr])
      obtain ⟨s, hs2⟩ : ∃ s, txL L = s := ⟨_, rfl⟩
      rw [hs2] at HT hs
      have hrec := Lib.hid (show recN L ⟨t, v⟩ = [putL (zigN t), putL (zigN v), sb s].flatten by unfold recN; rw [hs2]; simp)
      have h1 : ¬ t < -1152921504606846976 := by omega
      have h2 : ¬ 1152921504606846976 < t := by omega
      have hcv := fun (w : World) (s : ByteArray) => Lib.run_convert_string_bytes (P := Tryz.prog) w 9 76 5 s Tryz.underlying9 Tryz.underlying76 Tryz.underlying5
      have ht6 : -9223372036854775808 ≤ t ∧ t ≤ 9223372036854775807 := ht64
      have hv6 : -9223372036854775808 ≤ v ∧ v ≤ 9223372036854775807 := hv64
      have lt := zigN_lt (n := t) ht64
      have lv := zigN_lt (n := v) hv64
      obtain ⟨zt, hzt⟩ : ∃ z, zigN t = z := ⟨_, rfl⟩
      obtain ⟨zv, hzv⟩ : ∃ z, zigN v = z := ⟨_, rfl⟩
      rw [hzt, hzv] at hrec
      rw [hzt] at lt
      rw [hzv] at lv
      have Hzt := Lib.hid hzt
      have Hzv := Lib.hid hzv
      have l1 := Lib.hid (putL_len10 lt)
      have l2 := Lib.hid (putL_len10 lv)
      subst h0
      clear hr htr hs2 E hzt hzv
      go_enter Tryz.func37, Tryz.ntmps37
      go_wp2_with fail
      rw [HW0.out, Hg.out]
      refine HT.out.mono ?_
      rintro e w1 ⟨rfl, hb1⟩
      have kx1 := kx.next hb1
      have x0 : w1.cell? ⟨g, 0, none⟩ = some (.int .i64 t) := kx1.cell 0
      have x1 : w1.cell? ⟨g, 1, none⟩ = some (.int .i64 v) := kx1.cell 1
      have hb01 := bnext hb0 hb1
      go_wp2_with fail
      have hc := Below.refl w1.heap.size w1
      go_region_held_law (fun w' => w'.cell? ⟨g, 0, none⟩ = some (.int .i64 t) ∧ w'.cell? ⟨g, 1, none⟩ = some (.int .i64 v))
        (first | (refine keepE kx1 ?_; (repeat' (first | with_reducible exact hc | with_reducible refine below_drewB ?_ | with_reducible refine below_bytesT ?_ | with_reducible refine below_allocB ?_)); done) | (trace_state; fail))
        (first
          | (go_at_call 68
             first
              | ((with_reducible refine (zig_any t ht6 _).mono ?_); rw [Hzt.out]; rintro e wn ⟨rfl, hd⟩)
              | ((with_reducible refine (zig_any v hv6 _).mono ?_); rw [Hzv.out]; rintro e wn ⟨rfl, hd⟩)
             have hb := drawn_below hd
             try (have hT := hT.next (bnext (by (repeat' (first | with_reducible exact Below.refl _ _ | with_reducible refine below_drewB ?_ | with_reducible refine below_bytesT ?_ | with_reducible refine below_allocB ?_)); done) hb))
             try (with_reducible have hT := bytes_later hb)
             try (have hT : Has wn wn.heap.size (some ⟨w1.heap.size, 0, none⟩) (u8s (sb s)) := hT)
             try (have hP1 := hP1.next (bnext (by (repeat' (first | with_reducible exact Below.refl _ _ | with_reducible refine below_drewB ?_ | with_reducible refine below_bytesT ?_ | with_reducible refine below_allocB ?_)); done) hb))
             try (have hP2 := hP2.next (bnext (by (repeat' (first | with_reducible exact Below.refl _ _ | with_reducible refine below_drewB ?_ | with_reducible refine below_bytesT ?_ | with_reducible refine below_allocB ?_)); done) hb))
             have hc : Below w1.heap.size w1 wn := bnext (by (repeat' (first | with_reducible exact hc | with_reducible refine below_drewB ?_ | with_reducible refine below_bytesT ?_ | with_reducible refine below_allocB ?_)); done) hb)
          | (go_at_call 67
             (with_reducible refine (put_any zt lt _).mono ?_); rintro e wn ⟨v', rfl, A1, c1, rfl, hown1, hb⟩
             try (have hT := hT.next (bnext (by (repeat' (first | with_reducible exact Below.refl _ _ | with_reducible refine below_drewB ?_ | with_reducible refine below_bytesT ?_ | with_reducible refine below_allocB ?_)); done) hb))
             try (with_reducible have hT := bytes_later hb)
             try (have hT : Has wn wn.heap.size (some ⟨w1.heap.size, 0, none⟩) (u8s (sb s)) := hT)
             try (have hP2 := hP2.next (bnext (by (repeat' (first | with_reducible exact Below.refl _ _ | with_reducible refine below_drewB ?_ | with_reducible refine below_bytesT ?_ | with_reducible refine below_allocB ?_)); done) hb))
             have hP1 := recAt_own hown1
             have hc : Below w1.heap.size w1 wn := bnext (by (repeat' (first | with_reducible exact hc | with_reducible refine below_drewB ?_ | with_reducible refine below_bytesT ?_ | with_reducible refine below_allocB ?_)); done) hb)
          | (go_at_call 67
             (with_reducible refine (put_any zv lv _).mono ?_); rintro e wn ⟨v', rfl, A2, c2, rfl, hown2, hb⟩
             try (have hT := hT.next (bnext (by (repeat' (first | with_reducible exact Below.refl _ _ | with_reducible refine below_drewB ?_ | with_reducible refine below_bytesT ?_ | with_reducible refine below_allocB ?_)); done) hb))
             try (with_reducible have hT := bytes_later hb)
             try (have hT : Has wn wn.heap.size (some ⟨w1.heap.size, 0, none⟩) (u8s (sb s)) := hT)
             try (have hP1 := hP1.next (bnext (by (repeat' (first | with_reducible exact Below.refl _ _ | with_reducible refine below_drewB ?_ | with_reducible refine below_bytesT ?_ | with_reducible refine below_allocB ?_)); done) hb))
             have hP2 := recAt_own hown2
             have hc : Below w1.heap.size w1 wn := bnext (by (repeat' (first | with_reducible exact hc | with_reducible refine below_drewB ?_ | with_reducible refine below_bytesT ?_ | with_reducible refine below_allocB ?_)); done) hb)
          | (go_at_call 66
             first
              | (with_reducible refine (concat3_now zt zv s l1.out l2.out hs.out (grown_ok _ _ _ hs.out) hP1 hP2 _ rfl).mono ?_)
              | (with_reducible refine (concat3_later zt zv s l1.out l2.out hs.out (grown_ok _ _ _ hs.out) hP1 hP2 hT _ (by (repeat' (first | with_reducible exact Below.refl _ _ | with_reducible refine below_drewB ?_ | with_reducible refine below_allocB ?_)); done) _ rfl).mono ?_)
             rintro e wn ⟨v', rfl, A9, n9, c9, rfl, hown9, hb9⟩
             have hO9 := own_less (base' := w.heap.size) hown9 (Nat.le_trans hb01.size (Below.size (B := w1.heap.size) (w := w1) (by (repeat' (first | with_reducible exact hc | with_reducible refine below_drewB ?_ | with_reducible refine below_bytesT ?_ | with_reducible refine below_allocB ?_)); done)))
             have hc : Below w1.heap.size w1 wn := bnext (by (repeat' (first | with_reducible exact hc | with_reducible refine below_drewB ?_ | with_reducible refine below_bytesT ?_ | with_reducible refine below_allocB ?_)); done) hb9))
      all_goals
        have hF := Lib.hid (show EncP (encN L ⟨t, v⟩) w (.tuple #[.slice A9 n9 c9, .int .i64 0]) wn from by
          rw [E2.out]
          exact ⟨A9, n9, c9, rfl, by rw [hrec.out]; exact hO9, bnext hb01 hc⟩)
        clear hO9 hown9 hc
        go_wp2_with fail
        go_ret2
        exact RV.mk hF.out
  · have hF := Lib.hid (fun (w' : World) (hb : Below w.heap.size w w') => show EncP (encN L ⟨t, v⟩) w (.tuple #[.slice none 0 0, .int .i64 r]) w' from ⟨none, 0, 0, by unfold encN; rw [hr, if_pos h0], by unfold encN; rw [hr, if_pos h0]; exact World.ownsRow_nil _ _ _ _, hb⟩)
    have E := Lib.hid (show textN L = (⟨#[]⟩, r) by unfold textN; rw [hr, if_pos h0])
    rw [E.out] at HT
    have f1 : (r != 0) = true := bne_iff_ne.2 h0
    clear hr h0 E HR
    go_enter Tryz.func37, Tryz.ntmps37
    go_wp2_with fail
    rw [HW0.out]
    refine HT.out.mono ?_
    rintro e w1 ⟨rfl, hb1⟩
    go_wp2_with fail
    go_ret2
    exact RV.mk (hF.out _ (bnext hb0 hb1))
end Go.Proofs.YtihjgbhnlejhfaaGreatDoor
