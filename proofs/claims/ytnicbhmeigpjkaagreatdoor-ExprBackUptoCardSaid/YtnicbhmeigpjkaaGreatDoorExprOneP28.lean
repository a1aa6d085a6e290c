/- Texts of the proof of ExprOne, joined (by merge.py). Conditions: each theorem's own hypotheses. -/
import Derived.Test.YtnicbhmeigpjkaaGreatDoorExprOneP3
import Derived.Test.YtnicbhmeigpjkaaGreatDoorExprOneP24
import Derived.Test.YtnicbhmeigpjkaaGreatDoorExprOneP25
import Derived.Test.YtnicbhmeigpjkaaGreatDoorExprOneP27
import Derived.Lib.LaidTab
namespace Go.Proofs.YtnicbhmeigpjkaaGreatDoor
open Go.RowKit

def wdB (k : Nat) : ByteArray := if k = 3 then ⟨#[115, 117, 109]⟩ else if k = 4 then ⟨#[109, 97, 120]⟩ else if k = 5 then ⟨#[99, 111, 117, 110, 116]⟩ else if k = 6 then ⟨#[32, 43, 32]⟩ else if k = 7 then ⟨#[32, 45, 32]⟩ else if k = 8 then ⟨#[32, 42, 32]⟩ else ⟨#[]⟩
theorem wdB_bl : ∀ k : Nat, bl (wdB k) = wB (k : Int)
  | 0 | 1 | 2 | 3 | 4 | 5 | 6 | 7 | 8 => rfl
  | k + 9 => by
    unfold wdB wB
    rw [if_neg (by omega), if_neg (by omega), if_neg (by omega), if_neg (by omega), if_neg (by omega), if_neg (by omega), if_neg (by omega), if_neg (by omega), if_neg (by omega), if_neg (by omega), if_neg (by omega), if_neg (by omega)]
    rfl
def WdAt (w : World) : Prop := 0 < w.heap.size ∧ ∀ k, k < 9 → w.cell? ⟨0, k, none⟩ = some (.string (wdB k))
theorem WdAt.next {w w' : World} (h : WdAt w) (hb : Below w.heap.size w w') : WdAt w' := ⟨Nat.lt_of_lt_of_le h.1 hb.size, fun k hk => (hb.cell (p := ⟨0, k, none⟩) h.1).trans (h.2 k hk)⟩
def PwAt (w : World) : Prop := Lib.TabIs Tryz.prog w "internal/strconv.uint64pow10" .u64 Lib.pow10Tab
theorem gPw : Tryz.prog.globalNamed "internal/strconv.uint64pow10" = some 3 := by kernel_rfl
theorem PwAt.of {w w' : World} (h : PwAt w) (hb : w'.heap[3]? = w.heap[3]?) : PwAt w' := by
  unfold PwAt Lib.TabIs World.var? at h ⊢
  rw [gPw] at h ⊢
  simp only [Option.bind_some] at h ⊢
  rw [hb]
  exact h
theorem PwAt.lt {w : World} (h : PwAt w) : 3 < w.heap.size := by
  unfold PwAt Lib.TabIs World.var? at h
  rw [gPw] at h
  simp only [Option.bind_some] at h
  cases hh : w.heap[3]? with
  | none => rw [hh] at h; cases h
  | some o => exact (Array.getElem?_eq_some_iff.1 hh).1
theorem PwAt.next {w w' : World} (h : PwAt w) (hb : Below w.heap.size w w') : PwAt w' := h.of (hb.block _ h.lt)
theorem below_growX (w : World) (k : Nat) (os : Array Obj) : Below w.heap.size w (Go.Sort.grow (w.drewN k) os) :=
  ⟨rfl, rfl, rfl, by show w.heap.size ≤ (w.heap ++ os).size; rw [Array.size_append]; omega, fun j hj => by show (w.heap ++ os)[j]? = w.heap[j]?; exact Array.getElem?_append_left hj⟩
theorem fmt_any (n : Int) (h : in64 n) (w : World) (tP : PwAt w) : Calls Tryz.prog 63 #[.int .i64 n, .int .i64 10] w (R1 (.string ⟨(Lib.itoa n).toArray⟩) (Below w.heap.size w)) := by
  refine (Tryz.strconv_FormatInt_10 n h.1 h.2 w tP).mono ?_
  rintro e w' ⟨rfl, k, os, rfl⟩
  exact R1.mk rfl (below_growX w k os)
theorem names_lens : ∀ b : List ByteArray, (∀ s ∈ b, nameOk s = true) → Lib.lens (b.map bl) ≤ 20 * b.length
  | [], _ => Nat.le_refl _
  | s :: b, h => by
    have h1 := nameOk_le (h s List.mem_cons_self)
    have h2 := names_lens b (fun y hy => h y (List.mem_cons_of_mem _ hy))
    rw [List.map_cons, List.length_cons, Lib.lens, List.map_cons, List.sum_cons, bl_len]
    unfold Lib.lens at h2
    omega
theorem byT_len {b : List ByteArray} (h : chkL (byL b) = 0) : (byT b).length ≤ 300 := by
  obtain ⟨h1, h2⟩ := by_names h
  have h3 := names_lens b h2
  unfold byT
  cases b with
  | nil => simp
  | cons s b =>
    rw [if_neg (List.cons_ne_nil _ _), List.length_append, List.map_cons, Lib.join_length, ← List.map_cons, List.length_map]
    rw [List.length_cons] at h1 h3
    simp only [List.length_cons, List.length_nil]
    omega
theorem wB_len (k : Int) : (wB k).length ≤ 5 := by
  unfold wB
  split
  · decide
  · split
    · decide
    · split
      · decide
      · split
        · decide
        · split
          · decide
          · split <;> decide
theorem txL_at : ∀ {x : List ExE} {i : Nat}, i < x.length → at_ (ExE.txL x) i = (at_ x i).tx
  | _ :: _, 0, _ => by simp only [ExE.txL]; rfl
  | _ :: x, i + 1, h => by
    simp only [ExE.txL]
    exact txL_at (x := x) (i := i) (by simpa using h)
/-- what is told is not long -/
theorem tx_len : ∀ e : ExE, e.chk = 0 → e.Nu → e.tx.length ≤ 2000 * e.cnt := by
  refine ExE.induct fun e ih => ?_
  intro hc hnu
  obtain ⟨ho, hs⟩ := chk_iff.1 hc
  obtain ⟨hbad, hms, hbs⟩ := ho
  rw [ExE.cnt_eq, ExE.tx_eq]
  have hn := hnu.num
  have hsub := hnu.sub
  obtain ⟨k, n, w, ma, mc, m, ba, bc, b, xa, xc, x⟩ := e
  simp only [ExE.kind, ExE.n, ExE.w, ExE.m, ExE.b, ExE.x] at *
  unfold badX at hbad
  have hw := wB_len k
  have hby := byT_len hbs
  have hat : ∀ i, i < x.length → (at_ (ExE.txL x) i).length ≤ 2000 * (at_ x i).cnt := fun i hi => by
    rw [txL_at hi]
    exact ih _ (at_mem hi) (hs _ (at_mem hi)) (hsub _ (at_mem hi))
  unfold rawT
  by_cases p1 : partsN k = 1
  · rw [if_pos p1]
    have h0 := hat 0 (by omega)
    have h1 := cnt_mem (at_mem (show 0 < x.length by omega))
    simp only [List.length_append, List.length_cons, List.length_nil]
    omega
  · by_cases p2 : partsN k = 2
    · rw [if_neg p1, if_pos p2]
      have h0 := hat 0 (by omega)
      have h1 := hat 1 (by omega)
      obtain ⟨y, z, rfl⟩ : ∃ y z, x = [y, z] := list2X (by omega)
      have e0 : at_ [y, z] 0 = y := rfl
      have e1 : at_ [y, z] 1 = z := rfl
      rw [e0] at h0
      rw [e1] at h1
      simp only [List.length_append, List.length_cons, List.length_nil, ExE.cntL]
      omega
    · rw [if_neg p1, if_neg p2]
      split
      · have := itoa_len hn.1 hn.2
        omega
      · have hk2 : k = 2 := by
          unfold partsN at p1 p2 hbad
          rename_i hk1
          by_cases h : k = 1 ∨ k = 2
          · rcases h with h | h
            · exact absurd h hk1
            · exact h
          · exfalso
            rw [if_neg h] at p1 p2 hbad
            split at p1
            · exact p1 rfl
            · rename_i h2
              rw [if_neg h2] at p2 hbad
              split at p2
              · exact p2 rfl
              · rename_i h3
                rw [if_neg h3] at hbad
                omega
        have h1 := txtB_size hms
        have h2 := itoa_len (n := w) (by omega) (by omega)
        simp only [List.length_append, List.length_cons, List.length_nil, bl_len]
        omega
theorem spot_none {w : World} {a : Addr} {u : Value} (h : w.cell? a = some u) : a = ⟨a.block, a.off, none⟩ := by
  obtain ⟨b, o, s⟩ := a
  cases s with
  | none => rfl
  | some s =>
    exfalso
    unfold World.cell? at h
    split at h
    · simp at h
    · cases h
/-- strings.Join of names with a comma -/
theorem joinX_any (ba : Option Addr) (bn bc : Nat) (b : List ByteArray) (hbn : b.length = bn) (h0 : 0 < bn) (h1 : bn ≤ bc) (h2 : bn ≤ 1048576) (hJ : (Lib.join (b.map bl) [44]).length ≤ 300) (w : World) (h : Has w w.heap.size ba (strCs b)) :
    Calls Tryz.prog 62 #[.slice ba bn bc, .string ⟨#[44]⟩] w (R1 (.string ⟨(Lib.join (b.map bl) [44]).toArray⟩) (Below w.heap.size w)) := by
  have hb0 : 0 < b.length := by omega
  obtain ⟨ad, rfl, hlt, c0⟩ := h.at (strCs_atX hb0)
  have hsp : ad = ⟨ad.block, ad.off, none⟩ := by
    have : ad.add 0 = ad := by unfold Addr.add; rw [if_pos rfl]
    rw [this] at c0
    exact spot_none c0
  subst hbn
  rw [hsp]
  refine (Tryz.strings_Join ad.block ad.off bc b ⟨#[44]⟩ w (fun j x hx => ?_) hlt (by omega) h1 (Nat.le_trans hJ (by decide))).mono ?_
  · have hj : j < b.length := (List.getElem?_eq_some_iff.1 hx).1
    obtain ⟨ad', e, _, h2⟩ := h.at (strCs_atX hj)
    injection e with e
    subst e
    rw [hsp] at h2
    have e2 : (⟨ad.block, ad.off, none⟩ : Addr).add j = ⟨ad.block, ad.off + j, none⟩ := by
      unfold Addr.add
      split
      · rename_i h0
        rw [h0]
        rfl
      · rfl
    rw [e2] at h2
    rw [h2, at_eq hj]
    rw [List.getElem?_eq_getElem hj] at hx
    injection hx with hx
    rw [hx]
  · rintro e w' ⟨rfl, hb⟩
    exact R1.mk rfl hb
theorem bl_arr (l : List UInt8) : bl ⟨l.toArray⟩ = l := rfl
set_option maxRecDepth 1000000 in
set_option maxHeartbeats 8000000 in
theorem xtext_go : ∀ (e : ExE) (w : World), e.G w → e.chk = 0 → e.cnt ≤ 100 → WdAt w → SgAt w → PwAt w → Calls Tryz.prog 38 #[exV e] w (R1 (.string ⟨e.tx.toArray⟩) (Below w.heap.size w)) := by
  refine ExE.induct fun e ih => ?_
  intro w hG hchk hcnt tW tS tP
  have hsub := hG.sub
  have ho := hG.own
  obtain ⟨⟨hbad, hms, hbs⟩, hcs⟩ := chk_iff.1 hchk
  have htx := e.tx_eq
  have hce := e.cnt_eq
  have hlenX := fun y hy => tx_len y (hcs y hy) (ExE.G.nu y (hsub y hy))
  have hcntX := fun y (hy : y ∈ e.x) => cnt_mem hy
  clear hG hchk
  cases e with | mk k0 n0 w0 ma mc m ba bc b xa xc x =>
  have hn64 : in64 n0 := ho.n
  have hw64 : in64 w0 := ho.wi
  have ml : m.length ≤ mc := ho.ml
  have hmc : mc ≤ maxLen := ho.mc
  have bl1 : b.length ≤ bc := ho.bl
  have hbc : bc ≤ maxLen := ho.bc
  have xl : x.length ≤ xc := ho.xl
  have hxc : xc ≤ maxLen := ho.xc
  have xh : Has w w.heap.size xa (exCs x) := ho.xh
  have bh : Has w w.heap.size ba (strCs b) := ho.bh
  have mh : Has w w.heap.size ma (mtCs m) := ho.mh
  have mok : ∀ y ∈ m, MtOk y := ho.ms
  unfold exV
  simp only [ExE.kind, ExE.n, ExE.w, ExE.ma, ExE.mc, ExE.m, ExE.ba, ExE.bc, ExE.b, ExE.xa, ExE.xc, ExE.x] at ih hsub htx hbad hms hbs hcs hce hlenX hcntX ⊢
  obtain ⟨T, hT⟩ : ∃ T : ByteArray, (⟨(ExE.mk k0 n0 w0 ma mc m ba bc b xa xc x).tx.toArray⟩ : ByteArray) = T := ⟨_, rfl⟩
  have hTb : bl T = rawT k0 n0 w0 m b (ExE.txL x) := by rw [← hT, bl_arr, htx]
  rw [hT]
  rw [hce] at hcnt
  clear hT htx hce ho
  obtain ⟨n, hn⟩ : ∃ n, x.length = n := ⟨_, rfl⟩
  obtain ⟨mn, hmn⟩ : ∃ n, m.length = n := ⟨_, rfl⟩
  obtain ⟨bn, hbn⟩ : ∃ n, b.length = n := ⟨_, rfl⟩
  rw [hn] at xl hbad ⊢
  rw [hmn] at ml hbad ⊢
  rw [hbn] at bl1 hbad ⊢
  obtain ⟨W0, hW0⟩ : ∃ W0, w.alloc (.cells #[.int .i64 k0, .int .i64 n0, .int .i64 w0, .slice ma mn mc, .slice ba bn bc, .slice xa n xc] 28) = W0 := ⟨_, rfl⟩
  obtain ⟨q, hq⟩ : ∃ q, w.heap.size = q := ⟨_, rfl⟩
  have hb0 : Below w.heap.size w W0 := by rw [← hW0]; exact one_allocB _ _
  have kx : Blk W0 q 28 #[.int .i64 k0, .int .i64 n0, .int .i64 w0, .slice ma mn mc, .slice ba bn bc, .slice xa n xc] := by rw [← hW0]; exact Blk.newM _ _ _ _ hq
  have x0 : W0.cell? ⟨q, 0, none⟩ = some (.int .i64 k0) := kx.cell 0
  have x1 : W0.cell? ⟨q, 1, none⟩ = some (.int .i64 n0) := kx.cell 1
  have x2 : W0.cell? ⟨q, 2, none⟩ = some (.int .i64 w0) := kx.cell 2
  have x3 : W0.cell? ⟨q, 3, none⟩ = some (.slice ma mn mc) := kx.cell 3
  have x4 : W0.cell? ⟨q, 4, none⟩ = some (.slice ba bn bc) := kx.cell 4
  have x5 : W0.cell? ⟨q, 5, none⟩ = some (.slice xa n xc) := kx.cell 5
  have HP := Lib.hid (fun (w' : World) => xparts_any k0 w')
  have HW0 := Lib.hid hW0
  have Hq := Lib.hid hq
  have Hn := Lib.hid hn
  have Hbn := Lib.hid hbn
  have Hmn := Lib.hid hmn
  replace hb0 := Lib.hid hb0
  replace ih := Lib.hid ih
  replace hsub := Lib.hid hsub
  replace hbad := Lib.hid hbad
  replace hms := Lib.hid hms
  replace hbs := Lib.hid hbs
  replace hcs := Lib.hid hcs
  replace hTb := Lib.hid hTb
  replace hlenX := Lib.hid hlenX
  replace hcntX := Lib.hid hcntX
  replace xh := Lib.hid (xh.next hb0.out)
  replace bh := Lib.hid (bh.next hb0.out)
  replace mh := Lib.hid (mh.next hb0.out)
  replace mok := Lib.hid mok
  replace tW := Lib.hid (tW.next hb0.out)
  replace tS := Lib.hid (tS.next hb0.out)
  replace tP := Lib.hid (tP.next hb0.out)
  replace hn64 := Lib.hid hn64
  replace hw64 := Lib.hid hw64
  replace hcnt := Lib.hid hcnt
  clear hW0 hq hn hmn hbn
  go_enter Tryz.func38, Tryz.ntmps38
  go_upto_region 1 with fail
  rw [HW0.out, Hq.out]
  go_wp2_with fail
  refine (HP.out _).mono ?_
  rintro e1 w' ⟨rfl, hw'⟩
  obtain rfl := hw'.symm
  obtain ⟨p, hp⟩ : ∃ p, partsN k0 = p := ⟨_, rfl⟩
  rw [hp]
  by_cases p1 : p = 1
  · subst p1
    have hk := parts_one hp
    obtain ⟨kn, rfl⟩ := Int.eq_ofNat_of_zero_le (show 0 ≤ k0 by omega)
    have hk9 : kn < 9 := by omega
    have wc := tW.out.2 kn hk9
    have hn1 : n = 1 := by have := hbad.out; unfold badX at this; rw [hp] at this; omega
    subst hn1
    have hxl : 0 < x.length := by rw [Hn.out]; omega
    obtain ⟨ad, had, hadb, c0, c1, c2, c3, c4, c5⟩ := exCs_cells xh.out hxl
    have hmem : at_ x 0 ∈ x := at_mem hxl
    have hHt : bl T = wB (kn : Int) ++ byT b ++ [40] ++ (at_ x 0).tx ++ [41] := by
      have := hTb.out
      unfold rawT at this
      rw [if_pos hp, txL_at hxl] at this
      exact this
    obtain ⟨y, hy⟩ : ∃ y, at_ x 0 = y := ⟨_, rfl⟩
    rw [hy] at c0 c1 c2 c3 c4 c5 hmem hHt
    have hyG := ExE.G.next hb0.out _ (hsub.out _ hmem)
    have hyC := fun (w' : World) (hb : Below W0.heap.size W0 w') => ih.out y hmem w' (ExE.G.next hb _ hyG) (hcs.out y hmem) (by have := hcntX.out y hmem; have := hcnt.out; omega) (tW.out.next hb) (tS.out.next hb) (tP.out.next hb)
    have hylen : y.tx.length ≤ 200000 := by have h1 := hlenX.out y hmem; have h2 := hcntX.out y hmem; have h3 := hcnt.out; omega
    unfold exV at hyC
    obtain ⟨yT, hyT⟩ : ∃ yT : ByteArray, (⟨y.tx.toArray⟩ : ByteArray) = yT := ⟨_, rfl⟩
    have hyb : bl yT = y.tx := by rw [← hyT, bl_arr]
    have hys : yT.size ≤ 200000 := by rw [← bl_len, hyb]; exact hylen
    rw [hyT] at hyC
    obtain ⟨wd, hwd⟩ : ∃ wd, wdB kn = wd := ⟨_, rfl⟩
    have hwb : bl wd = wB (kn : Int) := by rw [← hwd, wdB_bl]
    have hws : wd.size ≤ 5 := by rw [← bl_len, hwb]; exact wB_len _
    rw [hwd] at wc
    rw [← hyb, ← hwb] at hHt
    have hadd : ad.add (0 * 6) = ad := by rw [Nat.zero_mul]; unfold Addr.add; simp
    rw [hadd] at c0 c1 c2 c3 c4 c5
    replace hyC := Lib.hid hyC
    replace hHt := Lib.hid hHt
    subst had
    clear hyG hy hxl hadd hylen hyT hyb hwd hwb
    cases hb : b with
    | nil =>
      obtain rfl : bn = 0 := by rw [← Hbn.out, hb]; rfl
      rw [hb] at hHt
      have hv : Value.string (wd ++ ⟨#[40]⟩ ++ yT ++ ⟨#[41]⟩) = Value.string T := congrArg Value.string (bl_ext (by
        rw [hHt.out]
        simp only [bl_app, byT, if_pos, List.append_nil]
        rfl))
      replace hv := Lib.hid hv
      go_wp2_with fail
      refine (hyC.out _ (Below.refl _ _)).mono ?_
      rintro e1 w1 ⟨rfl, hb1⟩
      go_wp2_with fail
      go_ret
      exact R1.mk hv.out (bnext hb0.out hb1)
    | cons s0 b0 =>
      have hbn0 : 0 < bn := by rw [← Hbn.out, hb, List.length_cons]; omega
      have hjoin : (Lib.join (b.map bl) [44]).length ≤ 300 := by
        have h1 := byT_len hbs.out
        unfold byT at h1
        rw [if_neg (by rw [hb]; exact List.cons_ne_nil _ _), List.length_append] at h1
        exact Nat.le_trans (Nat.le_add_left _ _) h1
      have HJ := joinX_any ba bn bc b Hbn.out hbn0 bl1 (by have := (by_names hbs.out).1; rw [Hbn.out] at this; omega) hjoin W0 bh.out
      obtain ⟨J, hJ⟩ : ∃ J : ByteArray, (⟨(Lib.join (b.map bl) [44]).toArray⟩ : ByteArray) = J := ⟨_, rfl⟩
      have hJb : bl J = Lib.join (b.map bl) [44] := by rw [← hJ, bl_arr]
      have hJs : J.size ≤ 300 := by rw [← bl_len, hJb]; exact hjoin
      rw [hJ] at HJ
      have hv : Value.string (wd ++ (⟨#[32, 98, 121, 32]⟩ ++ J) ++ ⟨#[40]⟩ ++ yT ++ ⟨#[41]⟩) = Value.string T := congrArg Value.string (bl_ext (by
        rw [hHt.out]
        unfold byT
        rw [if_neg (by rw [hb]; exact List.cons_ne_nil _ _), ← hJb]
        simp only [bl_app, List.append_assoc]
        rfl))
      replace HJ := Lib.hid HJ
      replace hv := Lib.hid hv
      clear hJ hJb hjoin hb
      go_wp2_with fail
      refine HJ.out.mono ?_
      rintro e1 w1 ⟨rfl, hb1⟩
      have kx1 := kx.next hb1
      have y5 : w1.cell? ⟨q, 5, none⟩ = some (.slice (some ad) 1 xc) := kx1.cell 5
      have d0 := (hb1.cell hadb).trans c0
      have d1 := (hb1.cell (p := ⟨ad.block, ad.off + 1, none⟩) hadb).trans c1
      have d2 := (hb1.cell (p := ⟨ad.block, ad.off + 2, none⟩) hadb).trans c2
      have d3 := (hb1.cell (p := ⟨ad.block, ad.off + 3, none⟩) hadb).trans c3
      have d4 := (hb1.cell (p := ⟨ad.block, ad.off + 4, none⟩) hadb).trans c4
      have d5 := (hb1.cell (p := ⟨ad.block, ad.off + 5, none⟩) hadb).trans c5
      have hC1 := Lib.hid (hyC.out w1 hb1)
      replace hb1 := Lib.hid (bnext hb0.out hb1)
      clear c0 c1 c2 c3 c4 c5 x0 x1 x2 x3 x4 x5 kx kx1
      go_wp2_with fail
      refine hC1.out.mono ?_
      rintro e1 w2 ⟨rfl, hb2⟩
      go_wp2_with fail
      go_ret
      exact R1.mk hv.out (bnext hb1.out hb2)
  by_cases p2 : p = 2
  · subst p2
    have hk : k0 = 6 ∨ k0 = 7 ∨ k0 = 8 := by
      unfold partsN at hp
      split at hp
      · cases hp
      · split at hp
        · cases hp
        · split at hp
          · assumption
          · cases hp
    obtain ⟨kn, rfl⟩ := Int.eq_ofNat_of_zero_le (show 0 ≤ k0 by omega)
    have hk9 : kn < 9 := by omega
    have wc := tW.out.2 kn hk9
    have hn1 : n = 2 := by have := hbad.out; unfold badX at this; rw [hp] at this; omega
    subst hn1
    have hxl : 0 < x.length := by rw [Hn.out]; omega
    have hxl1 : 1 < x.length := by rw [Hn.out]; omega
    obtain ⟨y, z, hyz⟩ : ∃ y z, x = [y, z] := list2X Hn.out
    obtain ⟨ad, had, hadb, c0, c1, c2, c3, c4, c5⟩ := exCs_cells xh.out hxl
    obtain ⟨ad', had', _, d0, d1, d2, d3, d4, d5⟩ := exCs_cells xh.out hxl1
    have hadz : ad = ad' := by rw [had] at had'; injection had'
    subst hadz
    have haty : at_ x 0 = y := by rw [hyz]; rfl
    have hatz : at_ x 1 = z := by rw [hyz]; rfl
    have hadd : ad.add (0 * 6) = ad := by rw [Nat.zero_mul]; unfold Addr.add; simp
    have hadd6 : ad.add 6 = ⟨ad.block, ad.off + 6, none⟩ := by unfold Addr.add; rw [if_neg (by decide)]
    rw [haty, hadd] at c0
    rw [haty, hadd] at c1 c2 c3 c4 c5
    rw [hatz, Nat.one_mul, hadd6] at d0 d1 d2 d3 d4 d5
    have hmy : y ∈ x := by rw [hyz]; simp
    have hmz : z ∈ x := by rw [hyz]; simp
    have hHt : bl T = [40] ++ y.tx ++ wB (kn : Int) ++ z.tx ++ [41] := by
      have := hTb.out
      unfold rawT at this
      rw [if_neg (by rw [hp]; decide), if_pos hp, txL_at hxl, txL_at hxl1, haty, hatz] at this
      exact this
    have hyG := ExE.G.next hb0.out _ (hsub.out _ hmy)
    have hzG := ExE.G.next hb0.out _ (hsub.out _ hmz)
    have hyC := fun (w' : World) (hb : Below W0.heap.size W0 w') => ih.out y hmy w' (ExE.G.next hb _ hyG) (hcs.out y hmy) (by have := hcntX.out y hmy; have := hcnt.out; omega) (tW.out.next hb) (tS.out.next hb) (tP.out.next hb)
    have hzC := fun (w' : World) (hb : Below W0.heap.size W0 w') => ih.out z hmz w' (ExE.G.next hb _ hzG) (hcs.out z hmz) (by have := hcntX.out z hmz; have := hcnt.out; omega) (tW.out.next hb) (tS.out.next hb) (tP.out.next hb)
    have hylen : y.tx.length ≤ 200000 := by have h1 := hlenX.out y hmy; have h2 := hcntX.out y hmy; have h3 := hcnt.out; omega
    have hzlen : z.tx.length ≤ 200000 := by have h1 := hlenX.out z hmz; have h2 := hcntX.out z hmz; have h3 := hcnt.out; omega
    unfold exV at hyC hzC
    obtain ⟨yT, hyT⟩ : ∃ yT : ByteArray, (⟨y.tx.toArray⟩ : ByteArray) = yT := ⟨_, rfl⟩
    have hyb : bl yT = y.tx := by rw [← hyT, bl_arr]
    have hys : yT.size ≤ 200000 := by rw [← bl_len, hyb]; exact hylen
    rw [hyT] at hyC
    obtain ⟨zT, hzT⟩ : ∃ zT : ByteArray, (⟨z.tx.toArray⟩ : ByteArray) = zT := ⟨_, rfl⟩
    have hzb : bl zT = z.tx := by rw [← hzT, bl_arr]
    have hzs : zT.size ≤ 200000 := by rw [← bl_len, hzb]; exact hzlen
    rw [hzT] at hzC
    obtain ⟨wd, hwd⟩ : ∃ wd, wdB kn = wd := ⟨_, rfl⟩
    have hwb : bl wd = wB (kn : Int) := by rw [← hwd, wdB_bl]
    have hws : wd.size ≤ 5 := by rw [← bl_len, hwb]; exact wB_len _
    rw [hwd] at wc
    rw [← hyb, ← hzb, ← hwb] at hHt
    have hv : Value.string (⟨#[40]⟩ ++ yT ++ wd ++ zT ++ ⟨#[41]⟩) = Value.string T := congrArg Value.string (bl_ext (by
      rw [hHt]
      simp only [bl_app]
      rfl))
    replace hyC := Lib.hid hyC
    replace hzC := Lib.hid hzC
    replace hv := Lib.hid hv
    have hS0 : W0.cell? ⟨q, 0, none⟩ = some (.int .i64 (kn : Int)) ∧ W0.cell? ⟨0, kn, none⟩ = some (.string wd) ∧ W0.cell? ⟨q, 5, none⟩ = some (.slice (some ad) 2 xc) ∧ W0.cell? ad = some (.int .i64 y.kind) ∧ W0.cell? ⟨ad.block, ad.off + 1, none⟩ = some (.int .i64 y.n) ∧ W0.cell? ⟨ad.block, ad.off + 2, none⟩ = some (.int .i64 y.w) ∧ W0.cell? ⟨ad.block, ad.off + 3, none⟩ = some (.slice y.ma y.m.length y.mc) ∧ W0.cell? ⟨ad.block, ad.off + 4, none⟩ = some (.slice y.ba y.b.length y.bc) ∧ W0.cell? ⟨ad.block, ad.off + 5, none⟩ = some (.slice y.xa y.x.length y.xc) ∧ W0.cell? ⟨ad.block, ad.off + 6, none⟩ = some (.int .i64 z.kind) ∧ W0.cell? ⟨ad.block, ad.off + 6 + 1, none⟩ = some (.int .i64 z.n) ∧ W0.cell? ⟨ad.block, ad.off + 6 + 2, none⟩ = some (.int .i64 z.w) ∧ W0.cell? ⟨ad.block, ad.off + 6 + 3, none⟩ = some (.slice z.ma z.m.length z.mc) ∧ W0.cell? ⟨ad.block, ad.off + 6 + 4, none⟩ = some (.slice z.ba z.b.length z.bc) ∧ W0.cell? ⟨ad.block, ad.off + 6 + 5, none⟩ = some (.slice z.xa z.x.length z.xc) :=
      ⟨x0, wc, by rw [← had]; exact x5, c0, c1, c2, c3, c4, c5, d0, d1, d2, d3, d4, d5⟩
    subst had
    clear hyG hzG hyz haty hatz hxl hxl1 hadd hadd6 hylen hzlen hyT hyb hzT hzb hwd hwb hHt c0 c1 c2 c3 c4 c5 d0 d1 d2 d3 d4 d5 wc had' hmy hmz
    go_upto_region 8 with fail
    clear x0 x1 x2 x3 x4 x5
    go_region_held_law (fun w' => w'.cell? ⟨q, 0, none⟩ = some (.int .i64 (kn : Int)) ∧ w'.cell? ⟨0, kn, none⟩ = some (.string wd) ∧ w'.cell? ⟨q, 5, none⟩ = some (.slice (some ad) 2 xc) ∧ w'.cell? ad = some (.int .i64 y.kind) ∧ w'.cell? ⟨ad.block, ad.off + 1, none⟩ = some (.int .i64 y.n) ∧ w'.cell? ⟨ad.block, ad.off + 2, none⟩ = some (.int .i64 y.w) ∧ w'.cell? ⟨ad.block, ad.off + 3, none⟩ = some (.slice y.ma y.m.length y.mc) ∧ w'.cell? ⟨ad.block, ad.off + 4, none⟩ = some (.slice y.ba y.b.length y.bc) ∧ w'.cell? ⟨ad.block, ad.off + 5, none⟩ = some (.slice y.xa y.x.length y.xc) ∧ w'.cell? ⟨ad.block, ad.off + 6, none⟩ = some (.int .i64 z.kind) ∧ w'.cell? ⟨ad.block, ad.off + 6 + 1, none⟩ = some (.int .i64 z.n) ∧ w'.cell? ⟨ad.block, ad.off + 6 + 2, none⟩ = some (.int .i64 z.w) ∧ w'.cell? ⟨ad.block, ad.off + 6 + 3, none⟩ = some (.slice z.ma z.m.length z.mc) ∧ w'.cell? ⟨ad.block, ad.off + 6 + 4, none⟩ = some (.slice z.ba z.b.length z.bc) ∧ w'.cell? ⟨ad.block, ad.off + 6 + 5, none⟩ = some (.slice z.xa z.x.length z.xc))
      (first | exact hS0 | (refine keep15 hS0 ?_; (repeat' (first | with_reducible exact hb3 | with_reducible exact hb2 | with_reducible exact Below.refl _ _ | with_reducible refine below_drewM ?_ | with_reducible refine below_allocM ?_ _))); done)
      (first
        | (have hz := hb2'
           go_at_call 38
           refine (hzC.out _ (by (repeat' (first | with_reducible exact hb2 | with_reducible exact Below.refl _ _ | with_reducible refine below_drewM ?_ | with_reducible refine below_allocM ?_ _)); done)).mono ?_
           rintro e9 w3 ⟨rfl, hb3'⟩
           have hb3 : Below W0.heap.size W0 w3 := bnext (by (repeat' (first | with_reducible exact hb2 | with_reducible exact Below.refl _ _ | with_reducible refine below_drewM ?_ | with_reducible refine below_allocM ?_ _)); done) hb3')
        | (go_at_call 38
           refine (hyC.out _ (by (repeat' (first | with_reducible exact Below.refl _ _ | with_reducible refine below_drewM ?_ | with_reducible refine below_allocM ?_ _)); done)).mono ?_
           rintro e9 w2 ⟨rfl, hb2'⟩
           have hb2 : Below W0.heap.size W0 w2 := bnext (by (repeat' (first | with_reducible exact Below.refl _ _ | with_reducible refine below_drewM ?_ | with_reducible refine below_allocM ?_ _)); done) hb2'))
    all_goals
      go_wp2_with fail
      go_ret
      exact R1.mk hv.out (bnext hb0.out hb3)
  · have hk12 : k0 = 1 ∨ k0 = 2 := by
      have hb := hbad.out
      unfold badX at hb
      rw [hp] at hb
      unfold partsN at hp
      split at hp
      · assumption
      · exfalso
        split at hp
        · exact p1 hp.symm
        · split at hp
          · exact p2 hp.symm
          · omega
    have hRt : bl T = if k0 = 1 then Lib.itoa n0 else bl (txtB m) ++ [91] ++ Lib.itoa w0 ++ [93] := by
      have := hTb.out
      unfold rawT at this
      rw [if_neg (by rw [hp]; exact p1), if_neg (by rw [hp]; exact p2)] at this
      exact this
    have e1 : (p == 1) = false := by rw [beq_eq_false_iff_ne]; exact p1
    have e2 : (p == 2) = false := by rw [beq_eq_false_iff_ne]; exact p2
    rcases hk12 with rfl | rfl
    · rw [if_pos rfl] at hRt
      have HF := fmt_any n0 hn64.out W0 tP.out
      rw [show (⟨(Lib.itoa n0).toArray⟩ : ByteArray) = T from bl_ext (by rw [hRt]; rfl)] at HF
      replace HF := Lib.hid HF
      clear hRt
      go_wp2_with fail
      refine HF.out.mono ?_
      rintro e1 w1 ⟨rfl, hb1⟩
      go_wp2_with fail
      go_ret
      exact R1.mk rfl (bnext hb0.out hb1)
    · rw [if_neg (by decide)] at hRt
      have HM := lmtext_any ma mn mc m Hmn.out (by omega) W0 mh.out mok.out tS.out
      have hmt : mtextN m = (txtB m, 0) := by unfold mtextN; rw [if_neg (by rw [hms.out]; simp)]
      rw [hmt] at HM
      have HF := fun (w' : World) (hb : Below W0.heap.size W0 w') => fmt_any w0 hw64.out w' (tP.out.next hb)
      obtain ⟨F, hF⟩ : ∃ F : ByteArray, (⟨(Lib.itoa w0).toArray⟩ : ByteArray) = F := ⟨_, rfl⟩
      obtain ⟨M, hM⟩ : ∃ M : ByteArray, txtB m = M := ⟨_, rfl⟩
      have hFb : bl F = Lib.itoa w0 := by rw [← hF, bl_arr]
      have hFs : F.size ≤ 20 := by rw [← bl_len, hFb]; exact itoa_len hw64.out.1 hw64.out.2
      have hMs : M.size ≤ 1200 := by rw [← hM]; exact txtB_size hms.out
      have hv : Value.string (M ++ ⟨#[91]⟩ ++ F ++ ⟨#[93]⟩) = Value.string T := congrArg Value.string (bl_ext (by
        rw [hRt, hM, ← hFb]
        simp only [bl_app]
        rfl))
      rw [hM] at HM
      rw [hF] at HF
      dsimp only at HM
      replace HM := Lib.hid HM
      replace HF := Lib.hid HF
      replace hv := Lib.hid hv
      clear hRt hmt hF hM hFb
      go_wp2_with fail
      refine HM.out.mono ?_
      rintro e1 w1 ⟨rfl, hb1⟩
      have kx1 := kx.next hb1
      have y2 : w1.cell? ⟨q, 2, none⟩ = some (.int .i64 w0) := kx1.cell 2
      have HF1 := Lib.hid (HF.out w1 hb1)
      replace hb1 := Lib.hid (bnext hb0.out hb1)
      clear kx1
      go_wp2_with fail
      refine HF1.out.mono ?_
      rintro e1 w2 ⟨rfl, hb2⟩
      go_wp2_with fail
      go_ret
      exact R1.mk hv.out (bnext hb1.out hb2)
end Go.Proofs.YtnicbhmeigpjkaaGreatDoor
namespace Go.Proofs.YtnicbhmeigpjkaaGreatDoor
open Go.RowKit

set_option maxRecDepth 1000000 in
set_option maxHeartbeats 4000000 in
theorem xText_any (e : ExE) (w : World) (hG : e.G w) (hk : e.cnt ≤ 1099511627776) (tW : WdAt w) (tS : SgAt w) (tP : PwAt w) : Calls Tryz.prog 21 #[exV e] w (R1 (.tuple #[.string (textX e).1, .int .i64 (textX e).2]) (Below w.heap.size w)) := by
  have hxT : textX e = if e.chkT ≠ 0 then (noS, e.chkT) else (⟨e.tx.toArray⟩, 0) := rfl
  obtain ⟨W0, hW0⟩ : ∃ W0, w.alloc (.cells #[.int .i64 e.kind, .int .i64 e.n, .int .i64 e.w, .slice e.ma e.m.length e.mc, .slice e.ba e.b.length e.bc, .slice e.xa e.x.length e.xc] 28) = W0 := ⟨_, rfl⟩
  obtain ⟨q, hq⟩ : ∃ q, w.heap.size = q := ⟨_, rfl⟩
  have hb0 : Below w.heap.size w W0 := by rw [← hW0]; exact one_allocB _ _
  have kx : Blk W0 q 28 #[.int .i64 e.kind, .int .i64 e.n, .int .i64 e.w, .slice e.ma e.m.length e.mc, .slice e.ba e.b.length e.bc, .slice e.xa e.x.length e.xc] := by rw [← hW0]; exact Blk.newM _ _ _ _ hq
  have x0 : W0.cell? ⟨q, 0, none⟩ = some (.int .i64 e.kind) := kx.cell 0
  have x1 : W0.cell? ⟨q, 1, none⟩ = some (.int .i64 e.n) := kx.cell 1
  have x2 : W0.cell? ⟨q, 2, none⟩ = some (.int .i64 e.w) := kx.cell 2
  have x3 : W0.cell? ⟨q, 3, none⟩ = some (.slice e.ma e.m.length e.mc) := kx.cell 3
  have x4 : W0.cell? ⟨q, 4, none⟩ = some (.slice e.ba e.b.length e.bc) := kx.cell 4
  have x5 : W0.cell? ⟨q, 5, none⟩ = some (.slice e.xa e.x.length e.xc) := kx.cell 5
  have HC := xcheckT_any e W0 (ExE.G.next hb0 e hG) hk
  have HT := fun (w' : World) (hb : Below W0.heap.size W0 w') (h1 : e.chk = 0) (h2 : e.cnt ≤ 100) => xtext_go e w' (ExE.G.next hb e (ExE.G.next hb0 e hG)) h1 h2 (tW.next (bnext hb0 hb)) (tS.next (bnext hb0 hb)) (tP.next (bnext hb0 hb))
  obtain ⟨k, hkT⟩ : ∃ k, e.chkT = k := ⟨_, rfl⟩
  have hiff : k = 0 → e.cnt ≤ 100 ∧ e.chk = 0 := fun h => chkT_iff.1 (hkT.trans h)
  rw [hkT] at hxT HC
  unfold exV at HC HT ⊢
  replace HC := Lib.hid HC
  replace HT := Lib.hid HT
  have HW0 := Lib.hid hW0
  have Hq := Lib.hid hq
  replace hb0 := Lib.hid hb0
  replace kx := Lib.hid kx
  replace hiff := Lib.hid hiff
  replace hxT := Lib.hid hxT
  clear hW0 hq hG tW tS tP hkT
  obtain ⟨t, ht⟩ : ∃ t, textX e = t := ⟨_, rfl⟩
  rw [ht] at hxT ⊢
  clear ht
  go_enter Tryz.func21, Tryz.ntmps21
  go_upto_region 1 with fail
  rw [HW0.out, Hq.out]
  go_wp2_with fail
  refine HC.out.mono ?_
  rintro e1 w1 ⟨rfl, hb1⟩
  by_cases hk0 : k = 0
  · subst hk0
    have hv : Value.tuple #[.string (⟨e.tx.toArray⟩ : ByteArray), .int .i64 0] = Value.tuple #[.string t.1, .int .i64 t.2] := by rw [hxT.out, if_neg (fun h => h rfl)]
    have kx1 := kx.out.next hb1
    have HT1 := Lib.hid (HT.out w1 hb1 (hiff.out rfl).2 (hiff.out rfl).1)
    have y0 : w1.cell? ⟨q, 0, none⟩ = some (.int .i64 e.kind) := kx1.cell 0
    have y1 : w1.cell? ⟨q, 1, none⟩ = some (.int .i64 e.n) := kx1.cell 1
    have y2 : w1.cell? ⟨q, 2, none⟩ = some (.int .i64 e.w) := kx1.cell 2
    have y3 : w1.cell? ⟨q, 3, none⟩ = some (.slice e.ma e.m.length e.mc) := kx1.cell 3
    have y4 : w1.cell? ⟨q, 4, none⟩ = some (.slice e.ba e.b.length e.bc) := kx1.cell 4
    have y5 : w1.cell? ⟨q, 5, none⟩ = some (.slice e.xa e.x.length e.xc) := kx1.cell 5
    replace hb1 := Lib.hid (bnext hb0.out hb1)
    replace hv := Lib.hid hv
    clear x0 x1 x2 x3 x4 x5 kx1
    go_wp2_with fail
    refine HT1.out.mono ?_
    rintro e w2 ⟨rfl, hb2⟩
    replace hb2 := Lib.hid (bnext hb1.out hb2)
    clear y0 y1 y2 y3 y4 y5
    go_wp2_with fail
    go_ret2
    exact R1.mk hv.out hb2.out
  · have hv : Value.tuple #[.string (⟨#[]⟩ : ByteArray), .int .i64 k] = Value.tuple #[.string t.1, .int .i64 t.2] := by rw [hxT.out, if_pos hk0]; rfl
    have d1 : (k != 0) = true := by rw [bne_iff_ne]; exact hk0
    replace hb1 := Lib.hid (bnext hb0.out hb1)
    replace hv := Lib.hid hv
    go_wp2_with fail
    go_ret2
    exact R1.mk hv.out hb1.out
end Go.Proofs.YtnicbhmeigpjkaaGreatDoor
