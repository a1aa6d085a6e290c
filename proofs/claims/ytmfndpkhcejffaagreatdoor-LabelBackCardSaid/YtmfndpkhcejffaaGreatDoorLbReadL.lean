/- What Read of package label reads. Conditions: the text is no giant; the table of signs. -/
import Derived.Test.YtmfndpkhcejffaaGreatDoorLbRead
namespace Go.Proofs.YtmfndpkhcejffaaGreatDoor
open Go.RowKit

theorem elLabR : Elem Tryz.prog 22 42 2 32 := Elem.mk' (z := .agg #[.string ⟨#[]⟩, .string ⟨#[]⟩]) Tryz.underlying22 (by kernel_rfl) rfl (by decide)
theorem labCs_app1R (l : List Lab) (x : Lab) : labCs (l ++ [x]) = labCs l ++ (#[.string x.nm, .string x.v] : Array Value).toList := by simp [labCs, labC]
/-- a match as a label -/
def asL (x : Mt) : Lab := ⟨x.nm, x.v⟩
/-- what Read tells -/
def readL (s : ByteArray) : List Lab × Int :=
  if (readN s).2 ≠ 0 then ([], (readN s).2) else if textN ((readN s).1.map asL) = (s, 0) then ((readN s).1.map asL, 0) else ([], 4)
def RdL (w : World) (x : List Lab × Int) (v : Value) (w' : World) : Prop :=
  ∃ A c, v = .tuple #[.slice A x.1.length c, .int .i64 x.2] ∧ w'.ownsRow w.heap.size 42 2 (.slice A x.1.length c) x.1.length (labCs x.1) ∧ Below w.heap.size w w'
theorem rdGo_ok : ∀ (f : Nat) (rest : ByteArray) (out o : List Mt) (N : Nat), rest.size ≤ N → rdGo f rest out = some o → (∀ x ∈ out, x.nm.size ≤ N ∧ x.v.size ≤ N ∧ 1 ≤ x.k ∧ x.k ≤ 4) → (∀ x ∈ o, x.nm.size ≤ N ∧ x.v.size ≤ N ∧ 1 ≤ x.k ∧ x.k ≤ 4) ∧ o.length ≤ out.length + rest.size
  | 0, _, _, _, _, _, h, _ => by cases h
  | f + 1, rest, out, o, N, hN, h, hx => by
    rw [rdGo] at h
    split at h
    · injection h with h
      subst h
      exact ⟨hx, by omega⟩
    · cases hu : oneP rest with
      | none => rw [hu] at h; cases h
      | some mb =>
        obtain ⟨m, behind⟩ := mb
        rw [hu] at h
        obtain ⟨o1, o2, o3, o4, o5⟩ := oneP_ok hu
        have ht := trimC_le behind
        have h' : rdGo f (trimC behind) (out ++ [m]) = some o := h
        obtain ⟨r1, r2⟩ := rdGo_ok f (trimC behind) (out ++ [m]) o N (by omega) h' (fun x hh => by
          rcases List.mem_append.1 hh with g | g
          · exact hx x g
          · simp at g; subst g; exact ⟨by omega, by omega, o2, o3⟩)
        refine ⟨r1, ?_⟩
        rw [List.length_append, List.length_singleton] at r2
        omega
theorem readN_ok (s : ByteArray) : (∀ x ∈ (readN s).1, x.nm.size ≤ s.size ∧ x.v.size ≤ s.size) ∧ (readN s).1.length ≤ s.size := by
  have h0 : (∀ x ∈ ([] : List Mt), x.nm.size ≤ s.size ∧ x.v.size ≤ s.size) ∧ ([] : List Mt).length ≤ s.size := ⟨by simp, by simp⟩
  unfold readN
  split
  · obtain ⟨t, ht⟩ : ∃ t : ByteArray, ⟨(Lib.trimPrefix s.data.toList (⟨#[123]⟩ : ByteArray).data.toList).toArray⟩ = t := ⟨_, rfl⟩
    have hts : t.size ≤ s.size := by
      rw [← ht]
      show (Lib.trimPrefix s.data.toList (⟨#[123]⟩ : ByteArray).data.toList).toArray.size ≤ s.data.size
      rw [List.size_toArray, ← Array.length_toList]
      unfold Lib.trimPrefix
      split <;> first | (rw [List.length_drop]; omega) | exact Nat.le_refl _
    rw [ht]
    cases hu : rdGo (s.size + 1) t [] with
    | none => exact h0
    | some o =>
      obtain ⟨h1, h2⟩ := rdGo_ok _ _ _ _ s.size hts hu (by simp)
      unfold fin2
      simp only []
      split
      · exact ⟨fun x hx => ⟨(h1 x hx).1, (h1 x hx).2.1⟩, by simp only [List.length_nil] at h2; show o.length ≤ s.size; omega⟩
      · exact h0
  · exact h0

set_option maxRecDepth 1000000 in
set_option maxHeartbeats 8000000 in
theorem lread_any (s : ByteArray) (hs : s.size < 4294967281) (w : World) (tS : SgAt w) :
    Calls Tryz.prog 6 #[.string s] w (RV (RdL w (readL s))) := by
  obtain ⟨r, hr⟩ : ∃ r, readL s = r := ⟨_, rfl⟩
  rw [hr]
  have hM := lreadm_any s hs w tS
  obtain ⟨ok1, ok2⟩ := readN_ok s
  unfold readL at hr
  obtain ⟨x, hx⟩ : ∃ x, readN s = x := ⟨_, rfl⟩
  rw [hx] at hM hr ok1 ok2
  obtain ⟨L, er⟩ := x
  simp only [] at hr ok1 ok2
  have HM := Lib.hid hM
  have HS := Lib.hid tS
  have HE0 := Lib.hid hr
  have Hok := Lib.hid ok1
  clear hM tS hr ok1 hx
  go_enter Tryz.func6, Tryz.ntmps6
  go_wp2_with fail
  refine HM.out.mono ?_
  rintro e w1 ⟨v, rfl, A, c, rfl, hownM, hb1⟩
  simp only [] at hownM
  by_cases z0 : er = 0
  · subst z0
    have hE : r = if textN (L.map asL) = (s, 0) then (L.map asL, 0) else ([], 4) := by
      have := HE0.out
      rw [if_neg (by simp)] at this
      exact this.symm
    have HE := Lib.hid hE
    have HH := Lib.hid (Has.of_own hownM)
    obtain ⟨n, hn⟩ : ∃ n, L.length = n := ⟨_, rfl⟩
    rw [hn] at ok2
    have Hn := Lib.hid hn
    clear hE hownM HE0
    go_wp2_with fail
    clear hn
    go_loopw [6, 21] (fun ov iv wr => ∃ (k : Nat) (B : Option Addr) (d : Nat), k ≤ n ∧ iv = .int .i64 (k : Nat) ∧ ov = .slice B k d ∧ wr.ownsRow w1.heap.size 42 2 (.slice B k d) k (labCs ((L.take k).map asL)) ∧ Below w1.heap.size w1 wr) (fun _ iv _ => n + 5 - (intOf iv).toNat)
    case atStart => exact ⟨0, none, 0, by omega, rfl, rfl, World.ownsRow_nil _ _ _ _, Below.refl _ _⟩
    case round =>
      obtain ⟨k, B, d, hk, rfl, rfl, hown, hbrr⟩ := hrel
      have hbr := bnext hb1 hbrr
      have hbs := hbr.size
      by_cases hlt : (k : Int) < (n : Int)
      · have hkL : k < L.length := by rw [Hn.out]; omega
        obtain ⟨ad, rfl, _, c0⟩ := (HH.out.next hbrr).at (mtCs_0 hkL)
        obtain ⟨ad', e', _, c1⟩ := (HH.out.next hbrr).at (mtCs_1 hkL)
        injection e' with e'
        subst e'
        obtain ⟨ad', e', _, c2⟩ := (HH.out.next hbrr).at (mtCs_2 hkL)
        injection e' with e'
        subst e'
        have c1 := cell_off c1 (by decide)
        have c2 := cell_off c2 (by decide)
        have htk := take_at (l := L) (k := k) hkL
        obtain ⟨x, hx⟩ : ∃ x, at_ L k = x := ⟨_, rfl⟩
        rw [hx] at c0 c1 c2 htk
        obtain ⟨q, nm, v⟩ := x
        simp only [] at c0 c1 c2
        have Htk := Lib.hid htk
        have hrow : labCs ((L.take (k + 1)).map asL) = labCs ((L.take k).map asL) ++ (#[.string nm, .string v] : Array Value).toList := by
          rw [Htk.out, List.map_append, List.map_cons, List.map_nil, labCs_app1R]; rfl
        have Hrow := Lib.hid hrow
        have hb2 := (hbrr.alloc hbrr.size (.cells #[.int .i64 q, .string nm, .string v] 36))
        have hbs1 := hbrr.size
        clear htk hrow
        go_wp2_with (at_builtin; refine wpList_append1 rfl _ _ _ rfl elLabR (v := .slice B k d) rfl (hown.alloc _) (g := wr.heap.size + 1) rfl (by simp) rfl ?_ ?c1 ?c2 ?c3 ?c4; intro B9 d9 w9 hown9 hgrow9 hbel9)
        case c1 => first | (intro u hu; simp at hu; rcases hu with rfl | rfl <;> rfl) | exact ⟨rfl, rfl⟩ | rfl
        case c2 => omega
        case c3 => unfold maxLen; omega
        case c4 => omega
        have hbel09 : Below w1.heap.size w1 w9 := hb2.trans hbel9
        have Hown9 := Lib.hid hown9
        clear hown9 hgrow9 hbel9
        go_roundw
        case rel => exact ⟨k + 1, B9, d9, by omega, by go_num, rfl, by rw [Hrow.out]; exact Hown9.out, hbel09⟩
        case measure => simp [intOf]; omega
      · have hkn : k = n := by omega
        subst hkn
        rw [List.take_of_length_le (by rw [Hn.out]; omega)] at hown
        obtain ⟨M, hM⟩ : ∃ M, L.map asL = M := ⟨_, rfl⟩
        have hMl : M.length = k := by rw [← hM, List.length_map, Hn.out]
        have hMok : ∀ e ∈ M, LabOk e := fun e he => by
          rw [← hM] at he
          obtain ⟨y, hy, rfl⟩ := List.mem_map.1 he
          obtain ⟨g1, g2⟩ := Hok.out y hy
          exact ⟨Nat.le_trans g1 (by unfold maxLen; omega), Nat.le_trans g2 (by unfold maxLen; omega)⟩
        rw [hM] at hown
        have hT := lbtext_any B k d M hMl (by unfold maxLen; omega) wr (Has.of_own hown) hMok (HS.out.next hbr)
        have hE2 := HE.out
        rw [hM] at hE2
        obtain ⟨pe, hpe⟩ : ∃ pe, textN M = pe := ⟨_, rfl⟩
        rw [hpe] at hT hE2
        obtain ⟨p, er⟩ := pe
        have HT := Lib.hid hT
        have HE2 := Lib.hid hE2
        have Hown := Lib.hid hown
        clear hM hMok hown hT hE2 hpe HE HH HS Hok
        go_wp2_with fail
        refine HT.out.mono ?_
        rintro e w2 ⟨rfl, hb2⟩
        by_cases z : er = 0
        · subst z
          by_cases hps : p = s
          · have Hr := Lib.hid (show r = (M, 0) by rw [HE2.out, if_pos (by rw [hps])])
            have c0 : (p.toList == s.toList) = true := by rw [hps]; simp
            have hown2 := Lib.hid (own_next Hown.out hb2)
            subst hps
            clear HE2
            go_wp2_with fail
            go_ret2
            rw [Hr.out]
            exact RV.mk ⟨B, d, by rw [hMl]; rfl, by rw [hMl]; exact own_less hown2.out hb1.size, bnext hbr hb2⟩
          · have Hr := Lib.hid (show r = ([], 4) by rw [HE2.out, if_neg (by intro h; exact hps (congrArg Prod.fst h))])
            have c0 : (p.toList == s.toList) = false := by
              rw [Lib.toList_data, Lib.toList_data, beq_eq_false_iff_ne]
              intro h
              exact hps (ByteArray.ext (Array.ext' h))
            clear HE2
            go_wp2_with fail
            go_ret2
            rw [Hr.out]
            exact RV.mk ⟨none, 0, rfl, World.ownsRow_nil _ _ _ _, bnext hbr hb2⟩
        · have Hr := Lib.hid (show r = ([], 4) by rw [HE2.out, if_neg (by intro h; exact z (congrArg Prod.snd h))])
          have z' : (er == 0) = false := by rw [beq_eq_false_iff_ne]; exact z
          clear HE2
          go_wp2_with fail
          go_ret2
          rw [Hr.out]
          exact RV.mk ⟨none, 0, rfl, World.ownsRow_nil _ _ _ _, bnext hbr hb2⟩
  · have Hr := Lib.hid (show r = ([], er) by
      have := HE0.out
      rw [if_pos z0] at this
      exact this.symm)
    have z' : (er == 0) = false := by rw [beq_eq_false_iff_ne]; exact z0
    clear HE0 hownM
    go_wp2_with fail
    go_ret2
    rw [Hr.out]
    exact RV.mk ⟨none, 0, rfl, World.ownsRow_nil _ _ _ _, hb1⟩
end Go.Proofs.YtmfndpkhcejffaaGreatDoor
