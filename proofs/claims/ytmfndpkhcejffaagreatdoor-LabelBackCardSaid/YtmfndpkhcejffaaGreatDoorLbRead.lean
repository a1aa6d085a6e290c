/- What ReadMatch and Read of package label read. Conditions: the text is no giant; the table of signs. -/
import Derived.Test.YtmfndpkhcejffaaGreatDoorLbOne
namespace Go.Proofs.YtmfndpkhcejffaaGreatDoor
open Go.RowKit

theorem unq_len : ∀ (out l a b : List Nat), unqGo out l = some (a, b) → b.length < l.length ∧ a.length ≤ out.length + l.length
  | _, [], _, _, h => by simp [unqGo] at h
  | out, [x], a, b, h => by
    rw [unqGo] at h
    split at h
    · injection h with h
      injection h with h1 h2
      subst h1 h2
      simp
    · cases h
  | out, x :: y :: r, a, b, h => by
    rw [unqGo] at h
    split at h
    · injection h with h
      injection h with h1 h2
      subst h1 h2
      simp
    · split at h
      · have := unq_len _ r a b h
        simp at this ⊢
        omega
      · have := unq_len _ (y :: r) a b h
        simp at this ⊢
        omega
theorem kindGo_le (t : ByteArray) : ∀ (n k : Nat), kindGo t n = some k → 1 ≤ k ∧ k ≤ n ∧ Lib.hasPrefix t.data.toList (sgB k ++ (⟨#[34]⟩ : ByteArray)).data.toList = true
  | 0, _, h => by cases h
  | n + 1, k, h => by
    rw [kindGo] at h
    split at h
    · rename_i hp
      injection h with h
      subst h
      exact ⟨by omega, Nat.le_refl _, hp⟩
    · obtain ⟨h1, h2, h3⟩ := kindGo_le t n k h
      exact ⟨h1, by omega, h3⟩
theorem oneP_ok {s : ByteArray} {m : Mt} {rest : ByteArray} (h : oneP s = some (m, rest)) : rest.size < s.size ∧ 1 ≤ m.k ∧ m.k ≤ 4 ∧ m.nm.size ≤ s.size ∧ m.v.size ≤ s.size := by
  unfold oneP at h
  split at h
  · cases h
  · obtain ⟨i, hi⟩ : ∃ i, (ixE s.data.toList).toNat = i := ⟨_, rfl⟩
    rw [hi] at h
    have his : i ≤ s.size := by
      have := ixE_le s.data.toList
      rw [Array.length_toList] at this
      have h2 : (s.data.size : Int) = (s.size : Int) := rfl
      unfold ixE at hi
      omega
    cases hk : kindGo (s.extract i s.size) 4 with
    | none => rw [hk] at h; cases h
    | some k =>
      rw [hk] at h
      obtain ⟨k1, k2, k3⟩ := kindGo_le _ _ _ hk
      rw [oneT] at h
      obtain ⟨u, hu⟩ : ∃ u, unqGo [] (sb ((s.extract i s.size).extract ((sgB k).size + 1) (s.extract i s.size).size)) = u := ⟨_, rfl⟩
      rw [hu] at h
      cases u with
      | none => cases h
      | some ab =>
        obtain ⟨a, b⟩ := ab
        rw [oneU] at h
        injection h with h
        injection h with h1 h2
        obtain ⟨u1, u2⟩ := unq_len _ _ _ _ hu
        rw [sb_len, ByteArray.size_extract, ByteArray.size_extract] at u1 u2
        subst h1 h2
        have hn : (s.extract 0 i).size ≤ s.size := by rw [ByteArray.size_extract]; omega
        simp only [List.length_nil] at u2
        refine ⟨by rw [bsOf_size]; omega, by show (1 : Int) ≤ (k : Int); omega, by show (k : Int) ≤ 4; omega, hn, by show (bsOf a).size ≤ _; rw [bsOf_size]; omega⟩
/-- behind a match: without a comma -/
def trimC (b : ByteArray) : ByteArray := ⟨(Lib.trimPrefix b.data.toList (⟨#[44]⟩ : ByteArray).data.toList).toArray⟩
theorem trimC_le (b : ByteArray) : (trimC b).size ≤ b.size := by
  unfold trimC
  show (Lib.trimPrefix b.data.toList (⟨#[44]⟩ : ByteArray).data.toList).toArray.size ≤ b.data.size
  rw [List.size_toArray, ← Array.length_toList]
  unfold Lib.trimPrefix
  split
  · rw [List.length_drop]; omega
  · exact Nat.le_refl _
def rdGo : Nat → ByteArray → List Mt → Option (List Mt)
  | 0, _, _ => none
  | f + 1, rest, out => if rest = ⟨#[]⟩ ∨ rest = ⟨#[125]⟩ then some out else match oneP rest with
    | none => none
    | some (m, behind) => rdGo f (trimC behind) (out ++ [m])
def fin2 (s : ByteArray) : Option (List Mt) → List Mt × Int
  | none => ([], 4)
  | some out => if mtextN out = (s, 0) then (out, 0) else ([], 4)
/-- what ReadMatch tells -/
def readN (s : ByteArray) : List Mt × Int :=
  if Lib.hasPrefix s.data.toList (⟨#[123]⟩ : ByteArray).data.toList then fin2 s (rdGo (s.size + 1) ⟨(Lib.trimPrefix s.data.toList (⟨#[123]⟩ : ByteArray).data.toList).toArray⟩ []) else ([], 4)
def RdP (w : World) (x : List Mt × Int) (v : Value) (w' : World) : Prop :=
  ∃ A c, v = .tuple #[.slice A x.1.length c, .int .i64 x.2] ∧ w'.ownsRow w.heap.size 36 3 (.slice A x.1.length c) x.1.length (mtCs x.1) ∧ Below w.heap.size w w'
theorem rdGo_one {f : Nat} {rest : ByteArray} {out : List Mt} (h1 : rest ≠ ⟨#[]⟩) (h2 : rest ≠ ⟨#[125]⟩) : rdGo (f + 1) rest out = match oneP rest with
    | none => none
    | some (m, behind) => rdGo f (trimC behind) (out ++ [m]) := by
  rw [rdGo, if_neg (by intro h; rcases h with h | h <;> contradiction)]

set_option maxRecDepth 1000000 in
set_option maxHeartbeats 8000000 in
theorem lreadm_any (s : ByteArray) (hs : s.size < 4294967281) (w : World) (tS : SgAt w) :
    Calls Tryz.prog 9 #[.string s] w (RV (RdP w (readN s))) := by
  obtain ⟨r, hr⟩ : ∃ r, readN s = r := ⟨_, rfl⟩
  rw [hr]
  have HCP := Lib.hid (fun w => Tryz.strings_CutPrefix s ⟨#[123]⟩ w)
  obtain ⟨b, hb⟩ : ∃ b, Lib.hasPrefix s.data.toList (⟨#[123]⟩ : ByteArray).data.toList = b := ⟨_, rfl⟩
  obtain ⟨t, ht⟩ : ∃ t : ByteArray, ⟨(Lib.trimPrefix s.data.toList (⟨#[123]⟩ : ByteArray).data.toList).toArray⟩ = t := ⟨_, rfl⟩
  have hts : t.size ≤ s.size := by
    rw [← ht]
    show (Lib.trimPrefix s.data.toList (⟨#[123]⟩ : ByteArray).data.toList).toArray.size ≤ s.data.size
    rw [List.size_toArray, ← Array.length_toList]
    unfold Lib.trimPrefix
    split
    · rw [List.length_drop]; omega
    · exact Nat.le_refl _
  rw [hb, ht] at HCP
  have HS := Lib.hid tS
  unfold readN at hr
  rw [hb, ht] at hr
  clear hb ht tS
  cases b with
  | false =>
    have Hr := Lib.hid (show r = ([], 4) from hr.symm)
    clear hr
    go_enter Tryz.func9, Tryz.ntmps9
    go_wp2_with fail
    refine (HCP.out _).mono ?_
    rintro e w1 ⟨rfl, rfl⟩
    go_wp2_with fail
    go_ret2
    rw [Hr.out]
    exact RV.mk ⟨none, 0, rfl, World.ownsRow_nil _ _ _ _, Below.refl _ _⟩
  | true =>
    have hr2 : fin2 s (rdGo (s.size + 1) t []) = r := hr
    obtain ⟨R, hR⟩ : ∃ R, rdGo (s.size + 1) t [] = R := ⟨_, rfl⟩
    rw [hR] at hr2
    have HR := Lib.hid hR
    have HF := Lib.hid hr2
    clear hr hr2 hR
    go_enter Tryz.func9, Tryz.ntmps9
    go_wp2_with fail
    refine (HCP.out _).mono ?_
    rintro e w1 ⟨rfl, rfl⟩
    go_wp2_with fail
    go_loopw [4, 6] (fun rv ov wr => ∃ (rest : ByteArray) (out : List Mt) (f : Nat) (B : Option Addr) (d : Nat), rv = .string rest ∧ ov = .slice B out.length d ∧ out.length + rest.size ≤ s.size ∧ rest.size < f ∧ Hid (rdGo f rest out = R) ∧ Hid (∀ x ∈ out, MtOk x) ∧ wr.ownsRow w1.heap.size 36 3 (.slice B out.length d) out.length (mtCs out) ∧ Below w1.heap.size w1 wr) (fun rv _ _ => match rv with | .string x => x.size | _ => 0)
    case atStart => exact ⟨t, [], s.size + 1, none, 0, rfl, rfl, by simpa using hts, by omega, HR, Lib.hid (by simp), World.ownsRow_nil _ _ _ _, Below.refl _ _⟩
    case round =>
      obtain ⟨rest, out, f, B, d, rfl, rfl, hsum, hf, hg, hok, hown, hbr⟩ := hrel
      by_cases h1 : rest = ⟨#[]⟩ ∨ rest = ⟨#[125]⟩
      · obtain ⟨f, rfl⟩ : ∃ f', f = f' + 1 := ⟨f - 1, by omega⟩
        have hg2 := hg.out
        rw [rdGo, if_pos h1] at hg2
        have hM := lmtext_any B out.length d out rfl (by unfold maxLen; omega) wr (Has.of_own hown) hok.out (HS.out.next hbr)
        have hE : r = if mtextN out = (s, 0) then (out, 0) else ([], 4) := by rw [← HF.out, ← hg2]; rfl
        obtain ⟨pe, hpe⟩ : ∃ pe, mtextN out = pe := ⟨_, rfl⟩
        rw [hpe] at hM hE
        obtain ⟨p, er⟩ := pe
        have HM := Lib.hid hM
        have HE := Lib.hid hE
        have Hown := Lib.hid hown
        clear hg hg2 hok hM hE hpe hown HF HR
        rcases h1 with h1 | h1
        · have e0 : rest.toList.isEmpty = true := by rw [h1, Lib.toList_data]; rfl
          clear h1
          go_wp2_with fail
          refine (HM.out).mono ?_
          rintro e w2 ⟨rfl, hb2⟩
          by_cases z : er = 0
          · subst z
            by_cases hps : p = s
            · have Hr := Lib.hid (show r = (out, 0) by rw [HE.out, if_pos (by rw [hps])])
              have c0 : (p.toList == s.toList) = true := by rw [hps]; simp
              have hown2 := Lib.hid (own_next Hown.out hb2)
              subst hps
              clear HE
              go_wp2_with fail
              go_ret2
              rw [Hr.out]
              exact RV.mk ⟨B, d, rfl, hown2.out, bnext hbr hb2⟩
            · have Hr := Lib.hid (show r = ([], 4) by rw [HE.out, if_neg (by intro h; exact hps (congrArg Prod.fst h))])
              have c0 : (p.toList == s.toList) = false := by
                rw [Lib.toList_data, Lib.toList_data, beq_eq_false_iff_ne]
                intro h
                exact hps (ByteArray.ext (Array.ext' h))
              clear HE
              go_wp2_with fail
              go_ret2
              rw [Hr.out]
              exact RV.mk ⟨none, 0, rfl, World.ownsRow_nil _ _ _ _, bnext hbr hb2⟩
          · have Hr := Lib.hid (show r = ([], 4) by rw [HE.out, if_neg (by intro h; exact z (congrArg Prod.snd h))])
            have z' : (er == 0) = false := by rw [beq_eq_false_iff_ne]; exact z
            clear HE
            go_wp2_with fail
            go_ret2
            rw [Hr.out]
            exact RV.mk ⟨none, 0, rfl, World.ownsRow_nil _ _ _ _, bnext hbr hb2⟩
        · have e0 : rest.toList.isEmpty = false := by rw [h1, Lib.toList_data]; rfl
          have e1 : (rest.toList == [125]) = true := by rw [h1, Lib.toList_data]; rfl
          clear h1
          go_wp2_with fail
          refine (HM.out).mono ?_
          rintro e w2 ⟨rfl, hb2⟩
          by_cases z : er = 0
          · subst z
            by_cases hps : p = s
            · have Hr := Lib.hid (show r = (out, 0) by rw [HE.out, if_pos (by rw [hps])])
              have c0 : (p.toList == s.toList) = true := by rw [hps]; simp
              have hown2 := Lib.hid (own_next Hown.out hb2)
              subst hps
              clear HE
              go_wp2_with fail
              go_ret2
              rw [Hr.out]
              exact RV.mk ⟨B, d, rfl, hown2.out, bnext hbr hb2⟩
            · have Hr := Lib.hid (show r = ([], 4) by rw [HE.out, if_neg (by intro h; exact hps (congrArg Prod.fst h))])
              have c0 : (p.toList == s.toList) = false := by
                rw [Lib.toList_data, Lib.toList_data, beq_eq_false_iff_ne]
                intro h
                exact hps (ByteArray.ext (Array.ext' h))
              clear HE
              go_wp2_with fail
              go_ret2
              rw [Hr.out]
              exact RV.mk ⟨none, 0, rfl, World.ownsRow_nil _ _ _ _, bnext hbr hb2⟩
          · have Hr := Lib.hid (show r = ([], 4) by rw [HE.out, if_neg (by intro h; exact z (congrArg Prod.snd h))])
            have z' : (er == 0) = false := by rw [beq_eq_false_iff_ne]; exact z
            clear HE
            go_wp2_with fail
            go_ret2
            rw [Hr.out]
            exact RV.mk ⟨none, 0, rfl, World.ownsRow_nil _ _ _ _, bnext hbr hb2⟩
      · have h2 : rest ≠ ⟨#[]⟩ := fun e => h1 (.inl e)
        have h3 : rest ≠ ⟨#[125]⟩ := fun e => h1 (.inr e)
        obtain ⟨f, rfl⟩ : ∃ f', f = f' + 1 := ⟨f - 1, by omega⟩
        have hg2 := hg.out
        rw [rdGo_one h2 h3] at hg2
        have HO := Lib.hid (lone_any rest (by omega) wr (HS.out.next hbr))
        clear h1 hg
        have e0 : rest.toList.isEmpty = false := emptyS_false h2
        have e1 : (rest.toList == [125]) = false := by
          rw [Lib.toList_data, beq_eq_false_iff_ne]
          intro h
          exact h3 (ByteArray.ext (Array.ext' h))
        have hbs := hbr.size
        go_wp2_with fail
        refine HO.out.mono ?_
        rintro e w2 ⟨v, rfl, hv, hb2⟩
        obtain ⟨u, hu⟩ : ∃ u, oneP rest = u := ⟨_, rfl⟩
        rw [hu] at hv hg2
        cases u with
        | none =>
          obtain ⟨k, a, b, r', rfl⟩ := hv
          have Hr := Lib.hid (show r = ([], 4) by
            have h4 : R = none := hg2.symm
            rw [← HF.out, h4]; rfl)
          clear hg2 hown
          go_wp2_with fail
          go_ret2
          rw [Hr.out]
          exact RV.mk ⟨none, 0, rfl, World.ownsRow_nil _ _ _ _, (bnext hbr hb2).alloc (bnext hbr hb2).size _⟩
        | some mb =>
          obtain ⟨m, behind⟩ := mb
          obtain ⟨o1, o2, o3, o4, o5⟩ := oneP_ok hu
          have hv2 : v = .tuple #[.agg #[.int .i64 m.k, .string m.nm, .string m.v], .string behind, .bool true] := hv
          subst hv2
          have hg3 : rdGo f (trimC behind) (out ++ [m]) = R := hg2
          have Hg := Lib.hid hg3
          have htc := trimC_le behind
          have hmo : MtOk m := ⟨by unfold in64; omega, by unfold maxLen; omega, by unfold maxLen; omega⟩
          have Hok := Lib.hid (show ∀ x ∈ out ++ [m], MtOk x from fun x hx => by
            rcases List.mem_append.1 hx with h | h
            · exact hok.out x h
            · simp at h; subst h; exact hmo)
          have hown2 := own_next hown hb2
          have hb02 := bnext hbr hb2
          have HT := Lib.hid (fun w => Tryz.strings_TrimPrefix behind ⟨#[44]⟩ w)
          obtain ⟨q, nm, v⟩ := m
          simp only [] at o2 o3 o4 o5
          clear hg2 hg3 hv hown hok hmo
          have hb2a := hb02.alloc hb02.size (.cells #[.int .i64 q, .string nm, .string v] 36)
          have hbs2 := hb02.size
          go_wp2_with (at_builtin; refine wpList_append1 rfl _ _ _ rfl elMtT (v := .slice B out.length d) rfl (hown2.alloc _) (g := w2.heap.size + 1) rfl (by simp) rfl ?_ ?c1 ?c2 ?c3 ?c4; intro B9 d9 w9 hown9 hgrow9 hbel9)
          case c1 => first | (intro u hu; simp at hu; rcases hu with rfl | rfl | rfl <;> rfl) | exact ⟨rfl, rfl, rfl⟩ | rfl
          case c2 => omega
          case c3 => unfold maxLen; omega
          case c4 => first | exact hb2a.size | omega
          have hl9 : (out ++ [(⟨q, nm, v⟩ : Mt)]).length = out.length + 1 := by simp
          have Hown9 := Lib.hid (show w9.ownsRow w1.heap.size 36 3 (.slice B9 (out ++ [(⟨q, nm, v⟩ : Mt)]).length d9) (out ++ [(⟨q, nm, v⟩ : Mt)]).length (mtCs (out ++ [⟨q, nm, v⟩])) by rw [hl9, mtCs_app1T]; exact hown9)
          have hbel09 : Below w1.heap.size w1 w9 := hb2a.trans hbel9
          clear hown9 hgrow9 hbel9 hown2
          refine (HT.out _).mono ?_
          rintro e w10 ⟨rfl, rfl⟩
          go_wp2_with fail
          go_roundw
          case rel => exact ⟨trimC behind, out ++ [⟨q, nm, v⟩], f, B9, d9, rfl, by rw [hl9], by rw [hl9]; omega, by omega, Hg, Hok, Hown9.out, hbel09⟩
          case measure => show (trimC behind).size < rest.size; omega
end Go.Proofs.YtmfndpkhcejffaaGreatDoor
