/- What own of package rank makes of a rank. Conditions: the rank's rows lie in their cells. -/
import Derived.Test.YthofijhjbaaokaaCarry
import Derived.Test.YthofijhjbaaokaaCloneI64
namespace Go.Proofs.Ythofijhjbaaokaa
open Go.RowKit

/-- a rank's rows, the call's own -/
structure RkO (w : World) (b : Nat) (tv : Value) (T : List Int) (B : Option Addr) (e : Nat) (L : List (List Int)) (vs : List Value) : Prop where
  t : IntOwn w b tv T
  l : w.ownsRow b 22 1 (.slice B L.length e) L.length vs
  r : ∀ k, k < L.length → ∃ v, vs[k]? = some v ∧ IntOwn w b v (at_ L k) ∧ ∀ q, v.ownBlock = some q → tv.ownBlock ≠ some q
theorem ints_mk {w : World} : ∀ {L : List (List Int)} {vs : List Value}, vs.length = L.length → (∀ k, k < L.length → ∃ v, vs[k]? = some v ∧ IntAt w v (at_ L k)) → IntsAt w vs L
  | [], [], _, _ => .nil
  | r :: L, v :: vs, hl, h => by
    obtain ⟨v', h1, h2⟩ := h 0 (by simp)
    simp at h1
    subst h1
    rw [at_eq (by simp)] at h2
    refine .cons h2 (ints_mk (by simpa using hl) (fun k hk => ?_))
    obtain ⟨v'', h3, h4⟩ := h (k + 1) (by simp; exact hk)
    refine ⟨v'', by simpa using h3, ?_⟩
    rw [at_eq (by simp; exact hk)] at h4
    rw [at_eq hk]
    simpa using h4
section
variable {w w' : World} {b g : Nat} {O : Oth} {K : Int} {tv : Value} {T : List Int} {B : Option Addr} {e : Nat} {L : List (List Int)} {vs : List Value} {N S : Int}
theorem RkS.rows (h : RkS w b g O K tv T B e L vs N S) : RkO w b tv T B e L vs := ⟨h.t, h.l, h.r⟩
theorem RkO.s (h : RkO w b tv T B e L vs) (hk : Blk w g 26 #[.int .i64 K, tv, .slice B L.length e, .int .i64 N, .int .i64 S]) (hb : b ≤ g) (ho : ∀ q t cs, O q t cs → Blk w q t cs ∧ q ≠ g ∧ tv.ownBlock ≠ some q ∧ (Value.slice B L.length e).ownBlock ≠ some q) : RkS w b g O K tv T B e L vs N S := ⟨hk, hb, h.t, h.l, h.r, ho⟩
theorem RkO.next (h : RkO w b tv T B e L vs) (hb : Below w.heap.size w w') : RkO w' b tv T B e L vs :=
  ⟨h.t.next hb, own_next h.l hb, fun k hk => by
    obtain ⟨v, h1, h2, h3⟩ := h.r k hk
    exact ⟨v, h1, h2.next hb, h3⟩⟩
theorem RkO.less {b' : Nat} (h : RkO w b tv T B e L vs) (hb : b' ≤ b) : RkO w b' tv T B e L vs :=
  ⟨h.t.less hb, own_less h.l hb, fun k hk => by
    obtain ⟨v, h1, h2, h3⟩ := h.r k hk
    exact ⟨v, h1, h2.less hb, h3⟩⟩
/-- a cell of a block that is of another kind -/
theorem RkO.far {t : TypeId} {cs : Array Value} (h : RkO w b tv T B e L vs) (hk : Blk w g t cs) (h1 : t ≠ 2) (h2 : t ≠ 22) (i : Nat) (u : Value) : RkO (w.setCell ⟨g, i, none⟩ u) b tv T B e L vs :=
  ⟨h.t.set (h.t.neBlk hk h1) i u, own_setR h.l (own_neR hk h.l h2) i u, fun k hk' => by
    obtain ⟨v, h3, h4, h5⟩ := h.r k hk'
    exact ⟨v, h3, h4.set (h4.neBlk hk h1) i u, h5⟩⟩
theorem RkO.put5 {cs : Array Value} (h : RkO w b tv T B e L vs) (hk : Blk w g 26 cs) (x0 x1 x2 x3 x4 : Value) :
    RkO (((((w.setCell ⟨g, 0, none⟩ x0).setCell ⟨g, 1, none⟩ x1).setCell ⟨g, 2, none⟩ x2).setCell ⟨g, 3, none⟩ x3).setCell ⟨g, 4, none⟩ x4) b tv T B e L vs :=
  ((((h.far hk (by decide) (by decide) 0 x0).far (hk.set 0 x0) (by decide) (by decide) 1 x1).far ((hk.set 0 x0).set 1 x1) (by decide) (by decide) 2 x2).far (((hk.set 0 x0).set 1 x1).set 2 x2) (by decide) (by decide) 3 x3).far ((((hk.set 0 x0).set 1 x1).set 2 x2).set 3 x3) (by decide) (by decide) 4 x4
theorem below_put5 {w0 w : World} {b g : Nat} (h : Below b w0 w) (hb : b ≤ g) (x0 x1 x2 x3 x4 : Value) :
    Below b w0 (((((w.setCell ⟨g, 0, none⟩ x0).setCell ⟨g, 1, none⟩ x1).setCell ⟨g, 2, none⟩ x2).setCell ⟨g, 3, none⟩ x3).setCell ⟨g, 4, none⟩ x4) :=
  below_setR (below_setR (below_setR (below_setR (below_setR h hb 0 x0) hb 1 x1) hb 2 x2) hb 3 x3) hb 4 x4
theorem RkO.vlen (h : RkO w b tv T B e L vs) : vs.length = L.length := by have := h.l.1; omega
theorem RkO.inp (h : RkO w b tv T B e L vs) : IntAt w tv T ∧ L.length ≤ e ∧ e ≤ maxLen ∧ Has w w.heap.size B vs ∧ IntsAt w vs L := by
  obtain ⟨h1, h2⟩ := own_len h.l
  exact ⟨h.t.at, h1, h2, Has.of_own h.l, ints_mk h.vlen (fun k hk => by
    obtain ⟨v, h3, h4, _⟩ := h.r k hk
    exact ⟨v, h3, h4.at⟩)⟩
/-- one row more -/
theorem RkO.push {w5 : World} (h : RkO w b tv T B e L vs) (hg : w.grownBy w5 (Value.slice B L.length e).ownBlock) {A' : Option Addr} {c' : Nat} {v : Value} {r : List Int}
    (ho : w5.ownsRow b 22 1 (.slice A' (L.length + 1) c') (L.length + 1) (vs ++ [v])) (hv : IntOwn w b v r) (hd : ∀ q, v.ownBlock = some q → tv.ownBlock ≠ some q) :
    RkO w5 b tv T A' c' (L ++ [r]) (vs ++ [v]) := by
  have hb5 := fun v r (hv : IntOwn w b v r) => hv.growV h.l hg
  have e1 : (L ++ [r]).length = L.length + 1 := by simp
  refine ⟨hb5 _ _ h.t, by rw [e1]; exact ho, fun k hk => ?_⟩
  rw [e1] at hk
  rcases Nat.lt_or_ge k L.length with hlt | hge
  · obtain ⟨v', h1, h2, h3⟩ := h.r k hlt
    refine ⟨v', by rw [List.getElem?_append_left (by rw [h.vlen]; exact hlt)]; exact h1, ?_, h3⟩
    rw [show at_ (L ++ [r]) k = at_ L k from by simp [at_, List.getD, List.getElem?_append_left hlt]]
    exact hb5 _ _ h2
  · obtain rfl : k = L.length := by omega
    refine ⟨v, by rw [← h.vlen]; simp, ?_, hd⟩
    rw [show at_ (L ++ [r]) L.length = r from by simp [at_, List.getD]]
    exact hb5 _ _ hv
end
/-- what own, Add and Merge answer: a rank whose rows are the call's own -/
def RkV (b : Nat) (K : Int) (T : List Int) (L : List (List Int)) (N S : Int) (v : Value) (w : World) : Prop :=
  ∃ tv B e vs, v = .agg #[.int .i64 K, tv, .slice B L.length e, .int .i64 N, .int .i64 S] ∧ RkO w b tv T B e L vs

set_option maxRecDepth 1000000 in
set_option maxHeartbeats 16000000 in
theorem own_any (K : Int) (A : Option Addr) (c : Nat) (T : List Int) (B : Option Addr) (e : Nat) (L : List (List Int)) (vs : List Value) (N S : Int) (hLe : L.length ≤ e) (hem : e ≤ maxLen) (hLn : L.length ≤ 25) (hT64 : T.length ≤ 64) (hl64 : ∀ k, k < L.length → (at_ L k).length ≤ 64)
    (w : World) (hT : IntAt w (.slice A T.length c) T) (hB : Has w w.heap.size B vs) (hL : IntsAt w vs L) :
    Calls Try.prog 31 #[.agg #[.int .i64 K, .slice A T.length c, .slice B L.length e, .int .i64 N, .int .i64 S]] w (RV fun v w' => RkV w.heap.size K T L N S v w' ∧ Below w.heap.size w w') := by
  obtain ⟨A0, c0, e0, hT1, hT2, hT3, hT4, hTI⟩ := hT
  injection e0 with e01 e03 e02
  subst e01 e02
  clear e03
  have hb2 : Below w.heap.size w ((w.alloc (.cells #[.int .i64 K, .slice A T.length c, .slice B L.length e, .int .i64 N, .int .i64 S] 26)).alloc (.cells #[.int .i64 0, .slice none 0 0, .slice none 0 0, .int .i64 0, .int .i64 0] 26)) := ((Below.refl _ _).alloc (Nat.le_refl _) _).alloc (by simp) _
  have hk2 : Blk ((w.alloc (.cells #[.int .i64 K, .slice A T.length c, .slice B L.length e, .int .i64 N, .int .i64 S] 26)).alloc (.cells #[.int .i64 0, .slice none 0 0, .slice none 0 0, .int .i64 0, .int .i64 0] 26)) w.heap.size 26 #[.int .i64 K, .slice A T.length c, .slice B L.length e, .int .i64 N, .int .i64 S] := (Blk.new w _ _).alloc _
  have hr2 : Blk ((w.alloc (.cells #[.int .i64 K, .slice A T.length c, .slice B L.length e, .int .i64 N, .int .i64 S] 26)).alloc (.cells #[.int .i64 0, .slice none 0 0, .slice none 0 0, .int .i64 0, .int .i64 0] 26)) (w.heap.size + 1) 26 #[.int .i64 0, .slice none 0 0, .slice none 0 0, .int .i64 0, .int .i64 0] := by
    have := Blk.new (w.alloc (.cells #[.int .i64 K, .slice A T.length c, .slice B L.length e, .int .i64 N, .int .i64 S] 26)) 26 #[.int .i64 0, .slice none 0 0, .slice none 0 0, .int .i64 0, .int .i64 0]
    rwa [World.size_alloc] at this
  have hA0 : A = none → T.length = 0 ∧ c = 0 := fun e => by have := hT3 e; omega
  have HCl := Lib.hid (fun (w' : World) (h : Has w' w'.heap.size A (i64s T)) => cloneI64_any A T.length c (i64s T) (i64sC_len T) (i64sC_one T) hA0 (by omega) w' h)
  have HLs := Lib.hid hL
  have HBs := Lib.hid hB
  have H64 := Lib.hid hl64
  have HTI := Lib.hid hTI
  have HT4 := Lib.hid (hT4.next hb2)
  have Hsz := Lib.hid hb2.size
  clear hT1 hT2 hT3 hT4 hA0 hL hB hl64 hTI
  go_enter Try.func31, Try.ntmps31
  go_wp2_with fail
  refine (HCl.out _ (by exact HT4.out)).mono ?_
  rintro e9 w3 ⟨v, rfl, A3, c3, rfl, hown3, hb3⟩
  have hb03 : Below w.heap.size w w3 := hb2.trans (hb3.mono hb2.size)
  have hk3 := hk2.next hb3
  have hr3 := hr2.next hb3
  have hown3 := own_less hown3 Hsz.out
  have y1 : w3.cell? ⟨w.heap.size, 1, none⟩ = some (.slice A T.length c) := hk3.cell 1
  have f1 : w3.frozen? ⟨w.heap.size, 1, none⟩ = false := hk3.frozen 1
  have y2 : w3.cell? ⟨w.heap.size, 2, none⟩ = some (.slice B L.length e) := hk3.cell 2
  have ht3 : IntOwn w3 w.heap.size (.slice A3 T.length c3) T := ⟨A3, c3, rfl, hown3, HTI.out⟩
  have hk4 := hk3.set 1 (.slice A3 T.length c3)
  have hr4 : Blk (w3.setCell ⟨w.heap.size, 1, none⟩ (.slice A3 T.length c3)) (w.heap.size + 1) 26 #[.int .i64 0, .slice none 0 0, .slice none 0 0, .int .i64 0, .int .i64 0] := (Below.heap_setCell w3 ⟨w.heap.size, 1, none⟩ _ (w.heap.size + 1) (by show w.heap.size + 1 ≠ w.heap.size; omega)).trans hr3
  have ht4 := ht3.set (ht3.neBlk hk3 (by decide)) 1 (.slice A3 T.length c3)
  have hb04 := below_setR hb03 (Nat.le_refl _) 1 (.slice A3 T.length c3)
  have HK4 := Lib.hid hk4
  have HR4 := Lib.hid hr4
  have HT4 := Lib.hid ht4
  have HB4 := Lib.hid hb04
  clear hk2 hr2 hb2 hb3 hk3 hr3 hown3 ht3 hk4 hr4 ht4 hb04 hb03 HCl
  go_wp2_with fail
  obtain ⟨W4, hW4⟩ : ∃ W4, w3.setCell ⟨w.heap.size, 1, none⟩ (.slice A3 T.length c3) = W4 := ⟨_, rfl⟩
  rw [hW4] at HK4 HR4 HT4 HB4 ⊢
  clear hW4 y1 f1 y2
  have hk4 : Blk W4 w.heap.size 26 #[.int .i64 K, .slice A3 T.length c3, .slice B L.length e, .int .i64 N, .int .i64 S] := HK4.out
  have HK4 := Lib.hid hk4
  clear hk4
  go_loopw [3, 13] (fun o iv wq => ∃ (k : Nat) (Bk : Option Addr) (ek : Nat) (vk : List Value), k ≤ L.length ∧ iv = .int .i64 (k : Nat) ∧ o = .slice Bk k ek ∧ Hid (RkO wq w.heap.size (.slice A3 T.length c3) T Bk ek (L.take k) vk) ∧ Hid (Blk wq w.heap.size 26 #[.int .i64 K, .slice A3 T.length c3, .slice B L.length e, .int .i64 N, .int .i64 S]) ∧
      Hid (Blk wq (w.heap.size + 1) 26 #[.int .i64 0, .slice none 0 0, .slice none 0 0, .int .i64 0, .int .i64 0]) ∧ Below w.heap.size w wq) (fun _ iv _ => L.length + 5 - (intOf iv).toNat)
  case atStart => exact ⟨0, none, 0, [], by omega, rfl, rfl, Lib.hid ⟨HT4.out, World.ownsRow_nil _ _ _ _, fun k hk => by simp at hk⟩, HK4, HR4, HB4.out⟩
  case round =>
    obtain ⟨k, Bk, ek, vk, hk, rfl, rfl, hO, hK, hR, hbr⟩ := hrel
    obtain ⟨wq, rfl⟩ : ∃ wq, wq = wr := ⟨_, rfl⟩
    have hlk : (L.take k).length = k := by rw [List.length_take]; omega
    have Hlk := Lib.hid hlk
    clear hlk
    by_cases hlt : (k : Int) < (L.length : Int)
    · obtain ⟨u, hu, A5, c5, rfl, h51, h52, h53, h54, h55⟩ := (HLs.out.next hbr).get (show k < L.length by omega)
      obtain ⟨bd, rfl, _, cB⟩ := (HBs.out.below hbr).at hu
      have hk64 := H64.out k (by omega)
      have htk := Lib.hid (take_at (l := L) (k := k) (by omega))
      obtain ⟨r, hr⟩ : ∃ r, at_ L k = r := ⟨_, rfl⟩
      rw [hr] at cB h51 h54 h55 hk64 htk
      clear hr hu
      obtain ⟨p, hp⟩ : ∃ p, r.length = p := ⟨_, rfl⟩
      have Hp := Lib.hid hp
      rw [hp] at cB h51 hk64
      have HC5 := Lib.hid (cloneI64_any A5 p c5 (i64s r) (by rw [i64sC_len, hp]) (i64sC_one r) (fun e => by have := h53 e; omega) (by omega) wq h54)
      have H55 := Lib.hid h55
      have hbsz := hbr.size
      clear hp h51 h52 h53 h54 h55
      go_wp2_with fail
      refine HC5.out.mono ?_
      rintro e9 w5 ⟨v, rfl, A6, c6, rfl, hown6, hb5⟩
      have hO5 := hO.out.next hb5
      have hK5 := hK.out.next hb5
      have hR5 := hR.out.next hb5
      have hb05 := hbr.trans (hb5.mono hbsz)
      have hsz5 := hb05.size
      have hI6 : IntOwn w5 w.heap.size (.slice A6 p c6) r := ⟨A6, c6, by rw [Hp.out], by rw [Hp.out]; exact own_less hown6 hbsz, H55.out⟩
      have hd6 : ∀ q, (Value.slice A6 p c6).ownBlock = some q → (Value.slice A3 T.length c3).ownBlock ≠ some q := fun q h1 h2 => by
        have h3 := (hown6.lt q h1).1
        have h4 := (hO.out.t.lt h2).2
        omega
      have hlv := hO5.l
      rw [Hlk.out] at hlv
      have HO5 := Lib.hid hO5
      have HK5 := Lib.hid hK5
      have HR5 := Lib.hid hR5
      have Hlv := Lib.hid hlv
      have HI6 := Lib.hid hI6
      have HD6 := Lib.hid hd6
      clear hown6 hO5 hK5 hR5 hlv hI6 hd6 hb5 HC5
      go_wp2_with (at_builtin; refine wpList_append1 rfl _ _ _ rfl elV (v := .slice Bk k ek) rfl Hlv.out rfl rfl rfl ?_ ?k1 ?k2 ?k3 ?k4; intro A7 c7 w7 hown7 hgrow7 hbel7)
      case k1 => first | rfl | (intro u hu; simp at hu; subst hu; rfl)
      case k2 => omega
      case k3 => unfold maxLen; omega
      case k4 => exact hsz5
      have hown7 : w7.ownsRow w.heap.size 22 1 (.slice A7 (k + 1) c7) (k + 1) (vk ++ [.slice A6 p c6]) := hown7
      have HP7 := Lib.hid (show RkO w7 w.heap.size (.slice A3 T.length c3) T A7 c7 (L.take (k + 1)) (vk ++ [.slice A6 p c6]) from by
        rw [htk.out]
        exact HO5.out.push (by rw [Hlk.out]; exact hgrow7) (by rw [Hlk.out]; exact hown7) HI6.out HD6.out)
      have HK7 := Lib.hid (HK5.out.grown hgrow7 (fun e => own_neR HK5.out Hlv.out (by decide) e.symm))
      have HR7 := Lib.hid (HR5.out.grown hgrow7 (fun e => own_neR HR5.out Hlv.out (by decide) e.symm))
      have HB7 := Lib.hid (hb05.trans hbel7)
      clear hown7 hgrow7 hbel7 hb05
      go_wp2_with fail
      go_roundw
      case rel => exact ⟨k + 1, A7, c7, _, by omega, by go_num, rfl, HP7, HK7, HR7, HB7.out⟩
      case measure => simp [intOf]; omega
    · have hkl : k = L.length := by omega
      subst hkl
      have y0 : wq.cell? ⟨w.heap.size, 0, none⟩ = some (.int .i64 K) := hK.out.cell 0
      have y1 : wq.cell? ⟨w.heap.size, 1, none⟩ = some (.slice A3 T.length c3) := hK.out.cell 1
      have y2 : wq.cell? ⟨w.heap.size, 2, none⟩ = some (.slice B L.length e) := hK.out.cell 2
      have y3 : wq.cell? ⟨w.heap.size, 3, none⟩ = some (.int .i64 N) := hK.out.cell 3
      have y4 : wq.cell? ⟨w.heap.size, 4, none⟩ = some (.int .i64 S) := hK.out.cell 4
      have f2 : wq.frozen? ⟨w.heap.size, 2, none⟩ = false := hK.out.frozen 2
      have z0 : wq.cell? ⟨w.heap.size + 1, 0, none⟩ = some (.int .i64 0) := hR.out.cell 0
      have z1 : wq.cell? ⟨w.heap.size + 1, 1, none⟩ = some (.slice none 0 0) := hR.out.cell 1
      have z2 : wq.cell? ⟨w.heap.size + 1, 2, none⟩ = some (.slice none 0 0) := hR.out.cell 2
      have z3 : wq.cell? ⟨w.heap.size + 1, 3, none⟩ = some (.int .i64 0) := hR.out.cell 3
      have z4 : wq.cell? ⟨w.heap.size + 1, 4, none⟩ = some (.int .i64 0) := hR.out.cell 4
      have g0 : wq.frozen? ⟨w.heap.size + 1, 0, none⟩ = false := hR.out.frozen 0
      have g1 : wq.frozen? ⟨w.heap.size + 1, 1, none⟩ = false := hR.out.frozen 1
      have g2 : wq.frozen? ⟨w.heap.size + 1, 2, none⟩ = false := hR.out.frozen 2
      have g3 : wq.frozen? ⟨w.heap.size + 1, 3, none⟩ = false := hR.out.frozen 3
      have g4 : wq.frozen? ⟨w.heap.size + 1, 4, none⟩ = false := hR.out.frozen 4
      have hO : Hid (RkO wq w.heap.size (.slice A3 T.length c3) T Bk ek L vk) := Lib.hid (by have := hO.out; rwa [List.take_length] at this)
      go_wp2_with fail
      refine bodyPost_ret (v := .agg #[.int .i64 K, .slice A3 T.length c3, .slice Bk L.length ek, .int .i64 N, .int .i64 S]) (by simp [results, Try.results31, go_sem, *]) rfl (RV.mk ?_)
      have hR1 : Blk (wq.setCell ⟨w.heap.size, 2, none⟩ (.slice Bk L.length ek)) (w.heap.size + 1) 26 #[.int .i64 0, .slice none 0 0, .slice none 0 0, .int .i64 0, .int .i64 0] := (Below.heap_setCell wq ⟨w.heap.size, 2, none⟩ _ (w.heap.size + 1) (by show w.heap.size + 1 ≠ w.heap.size; omega)).trans hR.out
      exact ⟨⟨_, _, _, _, rfl, (hO.out.far hK.out (by decide) (by decide) 2 _).put5 hR1 _ _ _ _ _⟩, below_put5 (below_setR hbr (Nat.le_refl _) 2 _) (Nat.le_succ _) _ _ _ _ _⟩
end Go.Proofs.Ythofijhjbaaokaa
