/- Texts of the proof of HouseAcks, joined (by merge.py). Conditions: each theorem's own hypotheses. -/
import Derived.Test.YtihjgbhnlejhfaaGreatDoorHouseAcksP1
import Derived.Test.YtihjgbhnlejhfaaGreatDoorHouseAcksP28
import Derived.Test.YtihjgbhnlejhfaaGreatDoorHouseAcksP29
import Derived.Shelf.RegionOpenPlain
namespace Go.Proofs.YtihjgbhnlejhfaaGreatDoor
open Go.RowKit

/-- the sign that a text begins with, of those up to k -/
def kindGo (t : ByteArray) : Nat → Option Nat
  | 0 => none
  | k + 1 => if Lib.hasPrefix t.data.toList (sgB (k + 1) ++ (⟨#[34]⟩ : ByteArray)).data.toList then some (k + 1) else kindGo t k
def oneU (k : Nat) (nm : ByteArray) : Option (List Nat × List Nat) → Option (Mt × ByteArray)
  | none => none
  | some (a, b) => some (⟨(k : Int), nm, bsOf a⟩, bsOf b)
/-- behind the name: the sign, the value, what is left -/
def oneT (nm t : ByteArray) : Option Nat → Option (Mt × ByteArray)
  | none => none
  | some k => oneU k nm (unqGo [] (sb (t.extract ((sgB k).size + 1) t.size)))
/-- the first match of a text, and what is left -/
def oneP (s : ByteArray) : Option (Mt × ByteArray) :=
  if ixE s.data.toList < 0 then none else oneT (s.extract 0 (ixE s.data.toList).toNat) (s.extract (ixE s.data.toList).toNat s.size) (kindGo (s.extract (ixE s.data.toList).toNat s.size) 4)
def OneV : Option (Mt × ByteArray) → Value → Prop
  | none, v => ∃ (k : Int) (a b r : ByteArray), v = .tuple #[.agg #[.int .i64 k, .string a, .string b], .string r, .bool false]
  | some (m, rest), v => v = .tuple #[.agg #[.int .i64 m.k, .string m.nm, .string m.v], .string rest, .bool true]

theorem hasPrefix_leO {s p : List UInt8} (h : Lib.hasPrefix s p = true) : p.length ≤ s.length := by
  unfold Lib.hasPrefix at h
  exact (List.isPrefixOf_iff_prefix.1 h).length_le
theorem ixE_le : ∀ l : List UInt8, Lib.indexAny l [33, 61] ≤ (l.length : Int)
  | [] => by simp [Lib.indexAny]
  | b :: l => by
    have ih := ixE_le l
    rw [Lib.indexAny, List.length_cons]
    split
    · omega
    · split <;> omega
set_option maxRecDepth 1000000 in
set_option maxHeartbeats 8000000 in
theorem lone_any (s : ByteArray) (hs : s.size < 4294967281) (w : World) (tS : SgAt w) :
    Calls Tryz.prog 155 #[.string s] w (RV (fun v w' => OneV (oneP s) v ∧ Below w.heap.size w w')) := by
  obtain ⟨i, hi⟩ : ∃ i, ixE s.data.toList = i := ⟨_, rfl⟩
  obtain ⟨r, hr⟩ : ∃ r, oneP s = r := ⟨_, rfl⟩
  rw [hr]
  have hI := fun w => idxAny_any s hs w
  rw [hi] at hI
  have HI := Lib.hid hI
  have HS := Lib.hid tS
  obtain ⟨W0, hW0⟩ : ∃ W0, w.alloc (.cells #[.int .i64 0, .string ⟨#[]⟩, .string ⟨#[]⟩] 157) = W0 := ⟨_, rfl⟩
  obtain ⟨g, hg⟩ : ∃ g, w.heap.size = g := ⟨_, rfl⟩
  have hk0 : Blk W0 g 157 #[.int .i64 0, .string ⟨#[]⟩, .string ⟨#[]⟩] := by rw [← hW0, ← hg]; exact Blk.new _ _ _
  have hb0 : Below w.heap.size w W0 := by rw [← hW0]; exact one_allocP _ _
  have HW := Lib.hid hW0
  have HG := Lib.hid hg
  have hge : -1 ≤ i := by rw [← hi]; exact Lib.indexAny_ge _ _
  have hix : i ≤ (s.size : Int) := by
    rw [← hi, ← sb_len]
    unfold ixE sb
    rw [List.length_map]
    exact ixE_le _
  clear hI tS hW0
  by_cases hneg : i < 0
  · have Hre := Lib.hid (show r = none by rw [← hr, oneP, hi, if_pos hneg])
    have hgw : w.heap.size ≤ g := by omega
    clear hr hi hg hix hge
    go_enter Tryz.func155, Tryz.ntmps155
    go_wp2_with fail
    rw [HW.out]
    refine (HI.out W0).mono ?_
    rintro e w1 ⟨rfl, hb1⟩
    have hk2 := hk0.next hb1
    have hb01 := bnext hb0 hb1
    rw [HG.out]
    have z0 : w1.cell? ⟨g, 0, none⟩ = some (.int .i64 0) := hk2.cell 0
    have z1 : w1.cell? ⟨g, 1, none⟩ = some (.string ⟨#[]⟩) := hk2.cell 1
    have z2 : w1.cell? ⟨g, 2, none⟩ = some (.string ⟨#[]⟩) := hk2.cell 2
    have g0 := hk2.frozen 0
    have g1 := hk2.frozen 1
    have g2 := hk2.frozen 2
    clear hk0 hb1 hb0 hk2
    go_wp2_with fail
    refine bodyPost_ret (v := .tuple #[.agg #[.int .i64 0, .string ⟨#[]⟩, .string ⟨#[]⟩], .string ⟨#[]⟩, .bool false]) (by simp [results, Tryz.results155, go_sem, *]) rfl (RV.mk ⟨?_, ?_⟩)
    · rw [Hre.out]; exact ⟨_, _, _, _, rfl⟩
    · exact (((hb01.setCell hgw _).setCell hgw _).setCell hgw _)
  · obtain ⟨k, rfl⟩ : ∃ k : Nat, i = (k : Int) := ⟨i.toNat, by omega⟩
    have hr2 : oneT (s.extract 0 k) (s.extract k s.size) (kindGo (s.extract k s.size) 4) = r := by rw [← hr, oneP, hi, if_neg (by omega)]; rfl
    have HR := Lib.hid hr2
    have hk1 : (0 : Int) ≤ (k : Int) := by omega
    obtain ⟨t, ht⟩ : ∃ t, s.extract k s.size = t := ⟨_, rfl⟩
    obtain ⟨nm, hnm⟩ : ∃ nm, s.extract 0 k = nm := ⟨_, rfl⟩
    have hts : t.size < 4294967281 := by rw [← ht, ByteArray.size_extract]; omega
    rw [ht, hnm] at HR
    clear hr2 hr hi hneg hg
    go_enter Tryz.func155, Tryz.ntmps155
    go_wp2_with fail
    rw [HW.out]
    refine (HI.out W0).mono ?_
    rintro e w1 ⟨rfl, hb1⟩
    have hk2 := hk0.next hb1
    have hb01 := bnext hb0 hb1
    rw [HG.out]
    have y1 : w1.cell? ⟨g, 1, none⟩ = some (.string ⟨#[]⟩) := hk2.cell 1
    have f1 : w1.frozen? ⟨g, 1, none⟩ = false := hk2.frozen 1
    clear hk0 hb1 hb0
    go_wp2_with fail
    go_region_law (fail)
    go_wp2_with fail
    obtain ⟨W2, hW2⟩ : ∃ W2, (w1.setCell ⟨g, 1, none⟩ (.string nm)).drew = W2 := ⟨_, rfl⟩
    have hk3 : Blk W2 g 157 #[.int .i64 0, .string nm, .string ⟨#[]⟩] := by rw [← hW2]; exact hk2.set 1 (.string nm)
    have hgw : w.heap.size ≤ g := by rw [HG.out]; exact Nat.le_refl _
    have hb02 : Below w.heap.size w W2 := by rw [← hW2]; exact below_drewN (hb01.setCell hgw _) 1
    rw [hW2]
    clear hW2 hk2 y1 f1 hb01 ht hnm
    have sg2 := HS.out.next hb02
    have hsg0 : 0 < w.heap.size := HS.out.1
    have hsgg : 0 ≠ g := by omega
    go_loopw [6] (fun kv wr => ∃ n : Nat, n ≤ 4 ∧ kv = .int .i64 (n : Nat) ∧ Hid (oneT nm t (kindGo t n) = r) ∧ wr = W2) (fun kv _ => (intOf kv).toNat)
    case atStart => exact ⟨4, by omega, rfl, HR, rfl⟩
    case round =>
      obtain ⟨n, hn, rfl, hq, rfl⟩ := hrel
      by_cases h1 : (1 : Int) ≤ (n : Int)
      · have hkn : kindGo t n = if Lib.hasPrefix t.data.toList (sgB n ++ (⟨#[34]⟩ : ByteArray)).data.toList then some n else kindGo t (n - 1) := by
          obtain ⟨j, rfl⟩ : ∃ j, n = j + 1 := ⟨n - 1, by omega⟩
          rfl
        have y3 := sg2.2 n (by omega)
        have hq2 := hq.out
        rw [hkn] at hq2
        have hHP := fun w => Tryz.strings_HasPrefix t (sgB n ++ (⟨#[34]⟩ : ByteArray)) w
        have hs2 : (sgB n).size ≤ 2 := by
          unfold sgB
          split <;> decide
        obtain ⟨b, hb⟩ : ∃ b, Lib.hasPrefix t.data.toList (sgB n ++ (⟨#[34]⟩ : ByteArray)).data.toList = b := ⟨_, rfl⟩
        rw [hb] at hHP hq2
        obtain ⟨sg, hsg⟩ : ∃ sg, sgB n = sg := ⟨_, rfl⟩
        rw [hsg] at y3 hHP hs2 hb
        have Hsg := Lib.hid hsg
        have HHP := Lib.hid hHP
        have b1 : (0 : Int) ≤ (n : Int) := by omega
        have b2 : (n : Int) < 5 := by omega
        clear hkn hq hHP hsg
        cases b with
        | false =>
          have Hq := Lib.hid (show oneT nm t (kindGo t (n - 1)) = r from hq2)
          clear hq2 hb
          go_wp2_with fail
          refine (HHP.out _).mono ?_
          rintro e w3 ⟨rfl, rfl⟩
          go_wp2_with fail
          go_roundw
          case rel => exact ⟨n - 1, by omega, congrArg _ (by omega), Hq, by first | rfl | trivial⟩
          case measure => simp [intOf]; omega
        | true =>
          have hpl : sg.size + 1 ≤ t.size := by
            have := hasPrefix_leO hb
            rw [Array.length_toList, Array.length_toList] at this
            have h2 : (sg ++ (⟨#[34]⟩ : ByteArray)).size = sg.size + 1 := by rw [ByteArray.size_append]; rfl
            have h3 : (sg ++ (⟨#[34]⟩ : ByteArray)).size ≤ t.size := this
            omega
          have Hq := Lib.hid (show oneT nm t (some n) = r from hq2)
          have hp2 : ((sg.size : Nat) : Int) + 1 ≤ (t.size : Int) := by omega
          have y0 : wr.cell? ⟨g, 0, none⟩ = some (.int .i64 0) := hk3.cell 0
          have f0 : wr.frozen? ⟨g, 0, none⟩ = false := hk3.frozen 0
          obtain ⟨W3, hW3⟩ : ∃ W3, wr.setCell ⟨g, 0, none⟩ (.int .i64 (n : Nat)) = W3 := ⟨_, rfl⟩
          have hk4 : Blk W3 g 157 #[.int .i64 (n : Nat), .string nm, .string ⟨#[]⟩] := by rw [← hW3]; exact hk3.set 0 _
          have hb03 : Below w.heap.size w W3 := by rw [← hW3]; exact hb02.setCell hgw _
          have y4 := (HS.out.next hb03).2 n (by omega)
          rw [Hsg.out, ← hW3] at y4
          obtain ⟨s2, hs2e⟩ : ∃ s2, t.extract (sg.size + 1) t.size = s2 := ⟨_, rfl⟩
          have hs2l : s2.size ≤ 4294967296 := by rw [← hs2e, ByteArray.size_extract]; omega
          have hUq := lunq_any s2 hs2l W3
          have HW3 := Lib.hid hW3
          clear hq2 hb hW3
          obtain ⟨u, hu⟩ : ∃ u, unqGo [] (sb s2) = u := ⟨_, rfl⟩
          rw [hu] at hUq
          have hre : oneT nm t (some n) = oneU n nm u := by rw [oneT, Hsg.out, hs2e, hu]
          rw [Hq.out] at hre
          cases u with
          | none =>
            have HUq := Lib.hid (show Calls Tryz.prog 175 #[.string s2] W3 (R1 (.tuple #[.string ⟨#[]⟩, .string ⟨#[]⟩, .bool false]) (Below W3.heap.size W3)) from hUq)
            clear hUq
            go_wp2_with fail
            refine (HHP.out _).mono ?_
            rintro e w3 ⟨rfl, rfl⟩
            go_wp2_with fail
            rw [HW3.out]
            refine HUq.out.mono ?_
            rintro e w4 ⟨rfl, hb4⟩
            have hk5 := hk4.next hb4
            have hb04 := bnext hb03 hb4
            have z0 : w4.cell? ⟨g, 0, none⟩ = some (.int .i64 (n : Nat)) := hk5.cell 0
            have z1 : w4.cell? ⟨g, 1, none⟩ = some (.string nm) := hk5.cell 1
            have z2 : w4.cell? ⟨g, 2, none⟩ = some (.string ⟨#[]⟩) := hk5.cell 2
            have g0 := hk5.frozen 0
            have g1 := hk5.frozen 1
            have g2 := hk5.frozen 2
            go_wp2_with fail
            refine bodyPost_ret (v := .tuple #[.agg #[.int .i64 (n : Nat), .string nm, .string ⟨#[]⟩], .string ⟨#[]⟩, .bool false]) (by simp [results, Tryz.results155, go_sem, *]) rfl (RV.mk ⟨?_, ?_⟩)
            · rw [hre]; exact ⟨_, _, _, _, rfl⟩
            · exact ((((hb04.setCell hgw _).setCell hgw _).setCell hgw _).setCell hgw _)
          | some ab =>
            obtain ⟨a, b⟩ := ab
            have HUq := Lib.hid (show Calls Tryz.prog 175 #[.string s2] W3 (R1 (.tuple #[.string (bsOf a), .string (bsOf b), .bool true]) (Below W3.heap.size W3)) from hUq)
            obtain ⟨a', ha'⟩ : ∃ a', bsOf a = a' := ⟨_, rfl⟩
            obtain ⟨b', hb'⟩ : ∃ b', bsOf b = b' := ⟨_, rfl⟩
            rw [ha', hb'] at HUq
            have Hre := Lib.hid (show r = some (⟨(n : Int), nm, a'⟩, b') by rw [hre, oneU, ha', hb'])
            clear hUq hre ha' hb'
            go_wp2_with fail
            refine (HHP.out _).mono ?_
            rintro e w3 ⟨rfl, rfl⟩
            go_wp2_with fail
            rw [HW3.out]
            refine HUq.out.mono ?_
            rintro e w4 ⟨rfl, hb4⟩
            have hk5 := hk4.next hb4
            have hb04 := bnext hb03 hb4
            have z0 : w4.cell? ⟨g, 0, none⟩ = some (.int .i64 (n : Nat)) := hk5.cell 0
            have z1 : w4.cell? ⟨g, 1, none⟩ = some (.string nm) := hk5.cell 1
            have z2 : w4.cell? ⟨g, 2, none⟩ = some (.string ⟨#[]⟩) := hk5.cell 2
            have g0 := hk5.frozen 0
            have g1 := hk5.frozen 1
            have g2 := hk5.frozen 2
            go_wp2_with fail
            refine bodyPost_ret (v := .tuple #[.agg #[.int .i64 (n : Nat), .string nm, .string a'], .string b', .bool true]) (by simp [results, Tryz.results155, go_sem, *]) rfl (RV.mk ⟨?_, ?_⟩)
            · rw [Hre.out]; rfl
            · exact ((((hb04.setCell hgw _).setCell hgw _).setCell hgw _).setCell hgw _)
      · have hn0 : n = 0 := by omega
        subst hn0
        have Hre := Lib.hid (show r = none from hq.out.symm)
        have z0 : wr.cell? ⟨g, 0, none⟩ = some (.int .i64 0) := hk3.cell 0
        have z1 : wr.cell? ⟨g, 1, none⟩ = some (.string nm) := hk3.cell 1
        have z2 : wr.cell? ⟨g, 2, none⟩ = some (.string ⟨#[]⟩) := hk3.cell 2
        have g0 := hk3.frozen 0
        have g1 := hk3.frozen 1
        have g2 := hk3.frozen 2
        clear hq
        go_wp2_with fail
        refine bodyPost_ret (v := .tuple #[.agg #[.int .i64 0, .string nm, .string ⟨#[]⟩], .string ⟨#[]⟩, .bool false]) (by simp [results, Tryz.results155, go_sem, *]) rfl (RV.mk ⟨?_, ?_⟩)
        · rw [Hre.out]; exact ⟨_, _, _, _, rfl⟩
        · exact (((hb02.setCell hgw _).setCell hgw _).setCell hgw _)
end Go.Proofs.YtihjgbhnlejhfaaGreatDoor
namespace Go.Proofs.YtihjgbhnlejhfaaGreatDoor
open Go.RowKit

theorem unq_len : ∀ (out l a b : List Nat), unqGo out l = some (a, b) → b.length < l.length ∧ a.length ≤ out.length + l.length
  | _, [], _, _, h => by simp [unqGo] at h
  | out, [x], a, b, h => by
    rw [unqGo] at h
    split at h
    · injection h with h
      injection h with h1 h2
      subst h1 h2
      simp
    · cases h
  | out, x :: y :: r, a, b, h => by
    rw [unqGo] at h
    split at h
    · injection h with h
      injection h with h1 h2
      subst h1 h2
      simp
    · split at h
      · have := unq_len _ r a b h
        simp at this ⊢
        omega
      · have := unq_len _ (y :: r) a b h
        simp at this ⊢
        omega
theorem kindGo_le (t : ByteArray) : ∀ (n k : Nat), kindGo t n = some k → 1 ≤ k ∧ k ≤ n ∧ Lib.hasPrefix t.data.toList (sgB k ++ (⟨#[34]⟩ : ByteArray)).data.toList = true
  | 0, _, h => by cases h
  | n + 1, k, h => by
    rw [kindGo] at h
    split at h
    · rename_i hp
      injection h with h
      subst h
      exact ⟨by omega, Nat.le_refl _, hp⟩
    · obtain ⟨h1, h2, h3⟩ := kindGo_le t n k h
      exact ⟨h1, by omega, h3⟩
theorem oneP_ok {s : ByteArray} {m : Mt} {rest : ByteArray} (h : oneP s = some (m, rest)) : rest.size < s.size ∧ 1 ≤ m.k ∧ m.k ≤ 4 ∧ m.nm.size ≤ s.size ∧ m.v.size ≤ s.size := by
  unfold oneP at h
  split at h
  · cases h
  · obtain ⟨i, hi⟩ : ∃ i, (ixE s.data.toList).toNat = i := ⟨_, rfl⟩
    rw [hi] at h
    have his : i ≤ s.size := by
      have := ixE_le s.data.toList
      rw [Array.length_toList] at this
      have h2 : (s.data.size : Int) = (s.size : Int) := rfl
      unfold ixE at hi
      omega
    cases hk : kindGo (s.extract i s.size) 4 with
    | none => rw [hk] at h; cases h
    | some k =>
      rw [hk] at h
      obtain ⟨k1, k2, k3⟩ := kindGo_le _ _ _ hk
      rw [oneT] at h
      obtain ⟨u, hu⟩ : ∃ u, unqGo [] (sb ((s.extract i s.size).extract ((sgB k).size + 1) (s.extract i s.size).size)) = u := ⟨_, rfl⟩
      rw [hu] at h
      cases u with
      | none => cases h
      | some ab =>
        obtain ⟨a, b⟩ := ab
        rw [oneU] at h
        injection h with h
        injection h with h1 h2
        obtain ⟨u1, u2⟩ := unq_len _ _ _ _ hu
        rw [sb_len, ByteArray.size_extract, ByteArray.size_extract] at u1 u2
        subst h1 h2
        have hn : (s.extract 0 i).size ≤ s.size := by rw [ByteArray.size_extract]; omega
        simp only [List.length_nil] at u2
        refine ⟨by rw [bsOf_size]; omega, by show (1 : Int) ≤ (k : Int); omega, by show (k : Int) ≤ 4; omega, hn, by show (bsOf a).size ≤ _; rw [bsOf_size]; omega⟩
/-- behind a match: without a comma -/
def trimC (b : ByteArray) : ByteArray := ⟨(Lib.trimPrefix b.data.toList (⟨#[44]⟩ : ByteArray).data.toList).toArray⟩
theorem trimC_le (b : ByteArray) : (trimC b).size ≤ b.size := by
  unfold trimC
  show (Lib.trimPrefix b.data.toList (⟨#[44]⟩ : ByteArray).data.toList).toArray.size ≤ b.data.size
  rw [List.size_toArray, ← Array.length_toList]
  unfold Lib.trimPrefix
  split
  · rw [List.length_drop]; omega
  · exact Nat.le_refl _
def rdGo : Nat → ByteArray → List Mt → Option (List Mt)
  | 0, _, _ => none
  | f + 1, rest, out => if rest = ⟨#[]⟩ ∨ rest = ⟨#[125]⟩ then some out else match oneP rest with
    | none => none
    | some (m, behind) => rdGo f (trimC behind) (out ++ [m])
def fin2 (s : ByteArray) : Option (List Mt) → List Mt × Int
  | none => ([], 4)
  | some out => if mtextN out = (s, 0) then (out, 0) else ([], 4)
/-- what ReadMatch tells -/
def readN (s : ByteArray) : List Mt × Int :=
  if Lib.hasPrefix s.data.toList (⟨#[123]⟩ : ByteArray).data.toList then fin2 s (rdGo (s.size + 1) ⟨(Lib.trimPrefix s.data.toList (⟨#[123]⟩ : ByteArray).data.toList).toArray⟩ []) else ([], 4)
def RdP (w : World) (x : List Mt × Int) (v : Value) (w' : World) : Prop :=
  ∃ A c, v = .tuple #[.slice A x.1.length c, .int .i64 x.2] ∧ w'.ownsRow w.heap.size 157 3 (.slice A x.1.length c) x.1.length (mtCs x.1) ∧ Below w.heap.size w w'
theorem rdGo_one {f : Nat} {rest : ByteArray} {out : List Mt} (h1 : rest ≠ ⟨#[]⟩) (h2 : rest ≠ ⟨#[125]⟩) : rdGo (f + 1) rest out = match oneP rest with
    | none => none
    | some (m, behind) => rdGo f (trimC behind) (out ++ [m]) := by
  rw [rdGo, if_neg (by intro h; rcases h with h | h <;> contradiction)]

set_option maxRecDepth 1000000 in
set_option maxHeartbeats 8000000 in
theorem lreadm_any (s : ByteArray) (hs : s.size < 4294967281) (w : World) (tS : SgAt w) :
    Calls Tryz.prog 140 #[.string s] w (RV (RdP w (readN s))) := by
  obtain ⟨r, hr⟩ : ∃ r, readN s = r := ⟨_, rfl⟩
  rw [hr]
  have HCP := Lib.hid (fun w => Tryz.strings_CutPrefix s ⟨#[123]⟩ w)
  obtain ⟨b, hb⟩ : ∃ b, Lib.hasPrefix s.data.toList (⟨#[123]⟩ : ByteArray).data.toList = b := ⟨_, rfl⟩
  obtain ⟨t, ht⟩ : ∃ t : ByteArray, ⟨(Lib.trimPrefix s.data.toList (⟨#[123]⟩ : ByteArray).data.toList).toArray⟩ = t := ⟨_, rfl⟩
  have hts : t.size ≤ s.size := by
    rw [← ht]
    show (Lib.trimPrefix s.data.toList (⟨#[123]⟩ : ByteArray).data.toList).toArray.size ≤ s.data.size
    rw [List.size_toArray, ← Array.length_toList]
    unfold Lib.trimPrefix
    split
    · rw [List.length_drop]; omega
    · exact Nat.le_refl _
  rw [hb, ht] at HCP
  have HS := Lib.hid tS
  unfold readN at hr
  rw [hb, ht] at hr
  clear hb ht tS
  cases b with
  | false =>
    have Hr := Lib.hid (show r = ([], 4) from hr.symm)
    clear hr
    go_enter Tryz.func140, Tryz.ntmps140
    go_wp2_with fail
    refine (HCP.out _).mono ?_
    rintro e w1 ⟨rfl, rfl⟩
    go_wp2_with fail
    go_ret2
    rw [Hr.out]
    exact RV.mk ⟨none, 0, rfl, World.ownsRow_nil _ _ _ _, Below.refl _ _⟩
  | true =>
    have hr2 : fin2 s (rdGo (s.size + 1) t []) = r := hr
    obtain ⟨R, hR⟩ : ∃ R, rdGo (s.size + 1) t [] = R := ⟨_, rfl⟩
    rw [hR] at hr2
    have HR := Lib.hid hR
    have HF := Lib.hid hr2
    clear hr hr2 hR
    go_enter Tryz.func140, Tryz.ntmps140
    go_wp2_with fail
    refine (HCP.out _).mono ?_
    rintro e w1 ⟨rfl, rfl⟩
    go_wp2_with fail
    go_loopw [4, 6] (fun rv ov wr => ∃ (rest : ByteArray) (out : List Mt) (f : Nat) (B : Option Addr) (d : Nat), rv = .string rest ∧ ov = .slice B out.length d ∧ out.length + rest.size ≤ s.size ∧ rest.size < f ∧ Hid (rdGo f rest out = R) ∧ Hid (∀ x ∈ out, MtOk x) ∧ wr.ownsRow w1.heap.size 157 3 (.slice B out.length d) out.length (mtCs out) ∧ Below w1.heap.size w1 wr) (fun rv _ _ => match rv with | .string x => x.size | _ => 0)
    case atStart => exact ⟨t, [], s.size + 1, none, 0, rfl, rfl, by simpa using hts, by omega, HR, Lib.hid (by simp), World.ownsRow_nil _ _ _ _, Below.refl _ _⟩
    case round =>
      obtain ⟨rest, out, f, B, d, rfl, rfl, hsum, hf, hg, hok, hown, hbr⟩ := hrel
      by_cases h1 : rest = ⟨#[]⟩ ∨ rest = ⟨#[125]⟩
      · obtain ⟨f, rfl⟩ : ∃ f', f = f' + 1 := ⟨f - 1, by omega⟩
        have hg2 := hg.out
        rw [rdGo, if_pos h1] at hg2
        have hM := lmtext_any B out.length d out rfl (by unfold maxLen; omega) wr (Has.of_own hown) hok.out (HS.out.next hbr)
        have hE : r = if mtextN out = (s, 0) then (out, 0) else ([], 4) := by rw [← HF.out, ← hg2]; rfl
        obtain ⟨pe, hpe⟩ : ∃ pe, mtextN out = pe := ⟨_, rfl⟩
        rw [hpe] at hM hE
        obtain ⟨p, er⟩ := pe
        have HM := Lib.hid hM
        have HE := Lib.hid hE
        have Hown := Lib.hid hown
        clear hg hg2 hok hM hE hpe hown HF HR
        rcases h1 with h1 | h1
        · have e0 : rest.toList.isEmpty = true := by rw [h1, Lib.toList_data]; rfl
          clear h1
          go_wp2_with fail
          refine (HM.out).mono ?_
          rintro e w2 ⟨rfl, hb2⟩
          by_cases z : er = 0
          · subst z
            by_cases hps : p = s
            · have Hr := Lib.hid (show r = (out, 0) by rw [HE.out, if_pos (by rw [hps])])
              have c0 : (p.toList == s.toList) = true := by rw [hps]; simp
              have hown2 := Lib.hid (own_next Hown.out hb2)
              subst hps
              clear HE
              go_wp2_with fail
              go_ret2
              rw [Hr.out]
              exact RV.mk ⟨B, d, rfl, hown2.out, bnext hbr hb2⟩
            · have Hr := Lib.hid (show r = ([], 4) by rw [HE.out, if_neg (by intro h; exact hps (congrArg Prod.fst h))])
              have c0 : (p.toList == s.toList) = false := by
                rw [Lib.toList_data, Lib.toList_data, beq_eq_false_iff_ne]
                intro h
                exact hps (ByteArray.ext (Array.ext' h))
              clear HE
              go_wp2_with fail
              go_ret2
              rw [Hr.out]
              exact RV.mk ⟨none, 0, rfl, World.ownsRow_nil _ _ _ _, bnext hbr hb2⟩
          · have Hr := Lib.hid (show r = ([], 4) by rw [HE.out, if_neg (by intro h; exact z (congrArg Prod.snd h))])
            have z' : (er == 0) = false := by rw [beq_eq_false_iff_ne]; exact z
            clear HE
            go_wp2_with fail
            go_ret2
            rw [Hr.out]
            exact RV.mk ⟨none, 0, rfl, World.ownsRow_nil _ _ _ _, bnext hbr hb2⟩
        · have e0 : rest.toList.isEmpty = false := by rw [h1, Lib.toList_data]; rfl
          have e1 : (rest.toList == [125]) = true := by rw [h1, Lib.toList_data]; rfl
          clear h1
          go_wp2_with fail
          refine (HM.out).mono ?_
          rintro e w2 ⟨rfl, hb2⟩
          by_cases z : er = 0
          · subst z
            by_cases hps : p = s
            · have Hr := Lib.hid (show r = (out, 0) by rw [HE.out, if_pos (by rw [hps])])
              have c0 : (p.toList == s.toList) = true := by rw [hps]; simp
              have hown2 := Lib.hid (own_next Hown.out hb2)
              subst hps
              clear HE
              go_wp2_with fail
              go_ret2
              rw [Hr.out]
              exact RV.mk ⟨B, d, rfl, hown2.out, bnext hbr hb2⟩
            · have Hr := Lib.hid (show r = ([], 4) by rw [HE.out, if_neg (by intro h; exact hps (congrArg Prod.fst h))])
              have c0 : (p.toList == s.toList) = false := by
                rw [Lib.toList_data, Lib.toList_data, beq_eq_false_iff_ne]
                intro h
                exact hps (ByteArray.ext (Array.ext' h))
              clear HE
              go_wp2_with fail
              go_ret2
              rw [Hr.out]
              exact RV.mk ⟨none, 0, rfl, World.ownsRow_nil _ _ _ _, bnext hbr hb2⟩
          · have Hr := Lib.hid (show r = ([], 4) by rw [HE.out, if_neg (by intro h; exact z (congrArg Prod.snd h))])
            have z' : (er == 0) = false := by rw [beq_eq_false_iff_ne]; exact z
            clear HE
            go_wp2_with fail
            go_ret2
            rw [Hr.out]
            exact RV.mk ⟨none, 0, rfl, World.ownsRow_nil _ _ _ _, bnext hbr hb2⟩
      · have h2 : rest ≠ ⟨#[]⟩ := fun e => h1 (.inl e)
        have h3 : rest ≠ ⟨#[125]⟩ := fun e => h1 (.inr e)
        obtain ⟨f, rfl⟩ : ∃ f', f = f' + 1 := ⟨f - 1, by omega⟩
        have hg2 := hg.out
        rw [rdGo_one h2 h3] at hg2
        have HO := Lib.hid (lone_any rest (by omega) wr (HS.out.next hbr))
        clear h1 hg
        have e0 : rest.toList.isEmpty = false := emptyS_false h2
        have e1 : (rest.toList == [125]) = false := by
          rw [Lib.toList_data, beq_eq_false_iff_ne]
          intro h
          exact h3 (ByteArray.ext (Array.ext' h))
        have hbs := hbr.size
        go_wp2_with fail
        refine HO.out.mono ?_
        rintro e w2 ⟨v, rfl, hv, hb2⟩
        obtain ⟨u, hu⟩ : ∃ u, oneP rest = u := ⟨_, rfl⟩
        rw [hu] at hv hg2
        cases u with
        | none =>
          obtain ⟨k, a, b, r', rfl⟩ := hv
          have Hr := Lib.hid (show r = ([], 4) by
            have h4 : R = none := hg2.symm
            rw [← HF.out, h4]; rfl)
          clear hg2 hown
          go_wp2_with fail
          go_ret2
          rw [Hr.out]
          exact RV.mk ⟨none, 0, rfl, World.ownsRow_nil _ _ _ _, (bnext hbr hb2).alloc (bnext hbr hb2).size _⟩
        | some mb =>
          obtain ⟨m, behind⟩ := mb
          obtain ⟨o1, o2, o3, o4, o5⟩ := oneP_ok hu
          have hv2 : v = .tuple #[.agg #[.int .i64 m.k, .string m.nm, .string m.v], .string behind, .bool true] := hv
          subst hv2
          have hg3 : rdGo f (trimC behind) (out ++ [m]) = R := hg2
          have Hg := Lib.hid hg3
          have htc := trimC_le behind
          have hmo : MtOk m := ⟨by unfold in64; omega, by unfold maxLen; omega, by unfold maxLen; omega⟩
          have Hok := Lib.hid (show ∀ x ∈ out ++ [m], MtOk x from fun x hx => by
            rcases List.mem_append.1 hx with h | h
            · exact hok.out x h
            · simp at h; subst h; exact hmo)
          have hown2 := own_next hown hb2
          have hb02 := bnext hbr hb2
          have HT := Lib.hid (fun w => Tryz.strings_TrimPrefix behind ⟨#[44]⟩ w)
          obtain ⟨q, nm, v⟩ := m
          simp only [] at o2 o3 o4 o5
          clear hg2 hg3 hv hown hok hmo
          have hb2a := hb02.alloc hb02.size (.cells #[.int .i64 q, .string nm, .string v] 157)
          have hbs2 := hb02.size
          go_wp2_with (at_builtin; refine wpList_append1 rfl _ _ _ rfl elMtT (v := .slice B out.length d) rfl (hown2.alloc _) (g := w2.heap.size + 1) rfl (by simp) rfl ?_ ?c1 ?c2 ?c3 ?c4; intro B9 d9 w9 hown9 hgrow9 hbel9)
          case c1 => first | (intro u hu; simp at hu; rcases hu with rfl | rfl | rfl <;> rfl) | exact ⟨rfl, rfl, rfl⟩ | rfl
          case c2 => omega
          case c3 => unfold maxLen; omega
          case c4 => first | exact hb2a.size | omega
          have hl9 : (out ++ [(⟨q, nm, v⟩ : Mt)]).length = out.length + 1 := by simp
          have Hown9 := Lib.hid (show w9.ownsRow w1.heap.size 157 3 (.slice B9 (out ++ [(⟨q, nm, v⟩ : Mt)]).length d9) (out ++ [(⟨q, nm, v⟩ : Mt)]).length (mtCs (out ++ [⟨q, nm, v⟩])) by rw [hl9, mtCs_app1T]; exact hown9)
          have hbel09 : Below w1.heap.size w1 w9 := hb2a.trans hbel9
          clear hown9 hgrow9 hbel9 hown2
          refine (HT.out _).mono ?_
          rintro e w10 ⟨rfl, rfl⟩
          go_wp2_with fail
          go_roundw
          case rel => exact ⟨trimC behind, out ++ [⟨q, nm, v⟩], f, B9, d9, rfl, by rw [hl9], by rw [hl9]; omega, by omega, Hg, Hok, Hown9.out, hbel09⟩
          case measure => show (trimC behind).size < rest.size; omega
end Go.Proofs.YtihjgbhnlejhfaaGreatDoor
namespace Go.Proofs.YtihjgbhnlejhfaaGreatDoor
open Go.RowKit

theorem elLabR : Elem Tryz.prog 24 85 2 32 := Elem.mk' (z := .agg #[.string ⟨#[]⟩, .string ⟨#[]⟩]) Tryz.underlying24 (by kernel_rfl) rfl (by decide)
theorem labCs_app1R (l : List Lab) (x : Lab) : labCs (l ++ [x]) = labCs l ++ (#[.string x.nm, .string x.v] : Array Value).toList := by simp [labCs, labC]
/-- a match as a label -/
def asL (x : Mt) : Lab := ⟨x.nm, x.v⟩
/-- what Read tells -/
def readL (s : ByteArray) : List Lab × Int :=
  if (readN s).2 ≠ 0 then ([], (readN s).2) else if textN ((readN s).1.map asL) = (s, 0) then ((readN s).1.map asL, 0) else ([], 4)
def RdL (w : World) (x : List Lab × Int) (v : Value) (w' : World) : Prop :=
  ∃ A c, v = .tuple #[.slice A x.1.length c, .int .i64 x.2] ∧ w'.ownsRow w.heap.size 85 2 (.slice A x.1.length c) x.1.length (labCs x.1) ∧ Below w.heap.size w w'
theorem rdGo_ok : ∀ (f : Nat) (rest : ByteArray) (out o : List Mt) (N : Nat), rest.size ≤ N → rdGo f rest out = some o → (∀ x ∈ out, x.nm.size ≤ N ∧ x.v.size ≤ N ∧ 1 ≤ x.k ∧ x.k ≤ 4) → (∀ x ∈ o, x.nm.size ≤ N ∧ x.v.size ≤ N ∧ 1 ≤ x.k ∧ x.k ≤ 4) ∧ o.length ≤ out.length + rest.size
  | 0, _, _, _, _, _, h, _ => by cases h
  | f + 1, rest, out, o, N, hN, h, hx => by
    rw [rdGo] at h
    split at h
    · injection h with h
      subst h
      exact ⟨hx, by omega⟩
    · cases hu : oneP rest with
      | none => rw [hu] at h; cases h
      | some mb =>
        obtain ⟨m, behind⟩ := mb
        rw [hu] at h
        obtain ⟨o1, o2, o3, o4, o5⟩ := oneP_ok hu
        have ht := trimC_le behind
        have h' : rdGo f (trimC behind) (out ++ [m]) = some o := h
        obtain ⟨r1, r2⟩ := rdGo_ok f (trimC behind) (out ++ [m]) o N (by omega) h' (fun x hh => by
          rcases List.mem_append.1 hh with g | g
          · exact hx x g
          · simp at g; subst g; exact ⟨by omega, by omega, o2, o3⟩)
        refine ⟨r1, ?_⟩
        rw [List.length_append, List.length_singleton] at r2
        omega
theorem readN_ok (s : ByteArray) : (∀ x ∈ (readN s).1, x.nm.size ≤ s.size ∧ x.v.size ≤ s.size) ∧ (readN s).1.length ≤ s.size := by
  have h0 : (∀ x ∈ ([] : List Mt), x.nm.size ≤ s.size ∧ x.v.size ≤ s.size) ∧ ([] : List Mt).length ≤ s.size := ⟨by simp, by simp⟩
  unfold readN
  split
  · obtain ⟨t, ht⟩ : ∃ t : ByteArray, ⟨(Lib.trimPrefix s.data.toList (⟨#[123]⟩ : ByteArray).data.toList).toArray⟩ = t := ⟨_, rfl⟩
    have hts : t.size ≤ s.size := by
      rw [← ht]
      show (Lib.trimPrefix s.data.toList (⟨#[123]⟩ : ByteArray).data.toList).toArray.size ≤ s.data.size
      rw [List.size_toArray, ← Array.length_toList]
      unfold Lib.trimPrefix
      split <;> first | (rw [List.length_drop]; omega) | exact Nat.le_refl _
    rw [ht]
    cases hu : rdGo (s.size + 1) t [] with
    | none => exact h0
    | some o =>
      obtain ⟨h1, h2⟩ := rdGo_ok _ _ _ _ s.size hts hu (by simp)
      unfold fin2
      simp only []
      split
      · exact ⟨fun x hx => ⟨(h1 x hx).1, (h1 x hx).2.1⟩, by simp only [List.length_nil] at h2; show o.length ≤ s.size; omega⟩
      · exact h0
  · exact h0

set_option maxRecDepth 1000000 in
set_option maxHeartbeats 8000000 in
theorem lread_any (s : ByteArray) (hs : s.size < 4294967281) (w : World) (tS : SgAt w) :
    Calls Tryz.prog 112 #[.string s] w (RV (RdL w (readL s))) := by
  obtain ⟨r, hr⟩ : ∃ r, readL s = r := ⟨_, rfl⟩
  rw [hr]
  have hM := lreadm_any s hs w tS
  obtain ⟨ok1, ok2⟩ := readN_ok s
  unfold readL at hr
  obtain ⟨x, hx⟩ : ∃ x, readN s = x := ⟨_, rfl⟩
  rw [hx] at hM hr ok1 ok2
  obtain ⟨L, er⟩ := x
  simp only [] at hr ok1 ok2
  have HM := Lib.hid hM
  have HS := Lib.hid tS
  have HE0 := Lib.hid hr
  have Hok := Lib.hid ok1
  clear hM tS hr ok1 hx
  go_enter Tryz.func112, Tryz.ntmps112
  go_wp2_with fail
  refine HM.out.mono ?_
  rintro e w1 ⟨v, rfl, A, c, rfl, hownM, hb1⟩
  simp only [] at hownM
  by_cases z0 : er = 0
  · subst z0
    have hE : r = if textN (L.map asL) = (s, 0) then (L.map asL, 0) else ([], 4) := by
      have := HE0.out
      rw [if_neg (by simp)] at this
      exact this.symm
    have HE := Lib.hid hE
    have HH := Lib.hid (Has.of_own hownM)
    obtain ⟨n, hn⟩ : ∃ n, L.length = n := ⟨_, rfl⟩
    rw [hn] at ok2
    have Hn := Lib.hid hn
    clear hE hownM HE0
    go_wp2_with fail
    clear hn
    go_loopw [6, 21] (fun ov iv wr => ∃ (k : Nat) (B : Option Addr) (d : Nat), k ≤ n ∧ iv = .int .i64 (k : Nat) ∧ ov = .slice B k d ∧ wr.ownsRow w1.heap.size 85 2 (.slice B k d) k (labCs ((L.take k).map asL)) ∧ Below w1.heap.size w1 wr) (fun _ iv _ => n + 5 - (intOf iv).toNat)
    case atStart => exact ⟨0, none, 0, by omega, rfl, rfl, World.ownsRow_nil _ _ _ _, Below.refl _ _⟩
    case round =>
      obtain ⟨k, B, d, hk, rfl, rfl, hown, hbrr⟩ := hrel
      have hbr := bnext hb1 hbrr
      have hbs := hbr.size
      by_cases hlt : (k : Int) < (n : Int)
      · have hkL : k < L.length := by rw [Hn.out]; omega
        obtain ⟨ad, rfl, _, c0⟩ := (HH.out.next hbrr).at (mtCs_0 hkL)
        obtain ⟨ad', e', _, c1⟩ := (HH.out.next hbrr).at (mtCs_1 hkL)
        injection e' with e'
        subst e'
        obtain ⟨ad', e', _, c2⟩ := (HH.out.next hbrr).at (mtCs_2 hkL)
        injection e' with e'
        subst e'
        have c1 := cell_off c1 (by decide)
        have c2 := cell_off c2 (by decide)
        have htk := take_at (l := L) (k := k) hkL
        obtain ⟨x, hx⟩ : ∃ x, at_ L k = x := ⟨_, rfl⟩
        rw [hx] at c0 c1 c2 htk
        obtain ⟨q, nm, v⟩ := x
        simp only [] at c0 c1 c2
        have Htk := Lib.hid htk
        have hrow : labCs ((L.take (k + 1)).map asL) = labCs ((L.take k).map asL) ++ (#[.string nm, .string v] : Array Value).toList := by
          rw [Htk.out, List.map_append, List.map_cons, List.map_nil, labCs_app1R]; rfl
        have Hrow := Lib.hid hrow
        have hb2 := (hbrr.alloc hbrr.size (.cells #[.int .i64 q, .string nm, .string v] 157))
        have hbs1 := hbrr.size
        clear htk hrow
        go_wp2_with (at_builtin; refine wpList_append1 rfl _ _ _ rfl elLabR (v := .slice B k d) rfl (hown.alloc _) (g := wr.heap.size + 1) rfl (by simp) rfl ?_ ?c1 ?c2 ?c3 ?c4; intro B9 d9 w9 hown9 hgrow9 hbel9)
        case c1 => first | (intro u hu; simp at hu; rcases hu with rfl | rfl <;> rfl) | exact ⟨rfl, rfl⟩ | rfl
        case c2 => omega
        case c3 => unfold maxLen; omega
        case c4 => omega
        have hbel09 : Below w1.heap.size w1 w9 := hb2.trans hbel9
        have Hown9 := Lib.hid hown9
        clear hown9 hgrow9 hbel9
        go_roundw
        case rel => exact ⟨k + 1, B9, d9, by omega, by go_num, rfl, by rw [Hrow.out]; exact Hown9.out, hbel09⟩
        case measure => simp [intOf]; omega
      · have hkn : k = n := by omega
        subst hkn
        rw [List.take_of_length_le (by rw [Hn.out]; omega)] at hown
        obtain ⟨M, hM⟩ : ∃ M, L.map asL = M := ⟨_, rfl⟩
        have hMl : M.length = k := by rw [← hM, List.length_map, Hn.out]
        have hMok : ∀ e ∈ M, LabOk e := fun e he => by
          rw [← hM] at he
          obtain ⟨y, hy, rfl⟩ := List.mem_map.1 he
          obtain ⟨g1, g2⟩ := Hok.out y hy
          exact ⟨Nat.le_trans g1 (by unfold maxLen; omega), Nat.le_trans g2 (by unfold maxLen; omega)⟩
        rw [hM] at hown
        have hT := lbtext_any B k d M hMl (by unfold maxLen; omega) wr (Has.of_own hown) hMok (HS.out.next hbr)
        have hE2 := HE.out
        rw [hM] at hE2
        obtain ⟨pe, hpe⟩ : ∃ pe, textN M = pe := ⟨_, rfl⟩
        rw [hpe] at hT hE2
        obtain ⟨p, er⟩ := pe
        have HT := Lib.hid hT
        have HE2 := Lib.hid hE2
        have Hown := Lib.hid hown
        clear hM hMok hown hT hE2 hpe HE HH HS Hok
        go_wp2_with fail
        refine HT.out.mono ?_
        rintro e w2 ⟨rfl, hb2⟩
        by_cases z : er = 0
        · subst z
          by_cases hps : p = s
          · have Hr := Lib.hid (show r = (M, 0) by rw [HE2.out, if_pos (by rw [hps])])
            have c0 : (p.toList == s.toList) = true := by rw [hps]; simp
            have hown2 := Lib.hid (own_next Hown.out hb2)
            subst hps
            clear HE2
            go_wp2_with fail
            go_ret2
            rw [Hr.out]
            exact RV.mk ⟨B, d, by rw [hMl]; rfl, by rw [hMl]; exact own_less hown2.out hb1.size, bnext hbr hb2⟩
          · have Hr := Lib.hid (show r = ([], 4) by rw [HE2.out, if_neg (by intro h; exact hps (congrArg Prod.fst h))])
            have c0 : (p.toList == s.toList) = false := by
              rw [Lib.toList_data, Lib.toList_data, beq_eq_false_iff_ne]
              intro h
              exact hps (ByteArray.ext (Array.ext' h))
            clear HE2
            go_wp2_with fail
            go_ret2
            rw [Hr.out]
            exact RV.mk ⟨none, 0, rfl, World.ownsRow_nil _ _ _ _, bnext hbr hb2⟩
        · have Hr := Lib.hid (show r = ([], 4) by rw [HE2.out, if_neg (by intro h; exact z (congrArg Prod.snd h))])
          have z' : (er == 0) = false := by rw [beq_eq_false_iff_ne]; exact z
          clear HE2
          go_wp2_with fail
          go_ret2
          rw [Hr.out]
          exact RV.mk ⟨none, 0, rfl, World.ownsRow_nil _ _ _ _, bnext hbr hb2⟩
  · have Hr := Lib.hid (show r = ([], er) by
      have := HE0.out
      rw [if_pos z0] at this
      exact this.symm)
    have z' : (er == 0) = false := by rw [beq_eq_false_iff_ne]; exact z0
    clear HE0 hownM
    go_wp2_with fail
    go_ret2
    rw [Hr.out]
    exact RV.mk ⟨none, 0, rfl, World.ownsRow_nil _ _ _ _, hb1⟩
end Go.Proofs.YtihjgbhnlejhfaaGreatDoor
namespace Go.Proofs.YtihjgbhnlejhfaaGreatDoor
open Go.RowKit

/-- the bytes of a text -/
def bl (s : ByteArray) : List UInt8 := s.data.toList
theorem bl_ext {a b : ByteArray} (h : bl a = bl b) : a = b := ByteArray.ext (Array.ext' h)
theorem bl_app (a b : ByteArray) : bl (a ++ b) = bl a ++ bl b := by unfold bl; rw [ByteArray.data_append, Array.toList_append]
theorem bl_len (a : ByteArray) : (bl a).length = a.size := by unfold bl; rw [Array.length_toList]; rfl
theorem bl_extract (a : ByteArray) (i j : Nat) : bl (a.extract i j) = ((bl a).take j).drop i := by
  unfold bl
  rw [ByteArray.data_extract, Array.toList_extract]
  simp [List.extract, List.drop_take]
theorem bl_of (l : List UInt8) : bl ⟨l.toArray⟩ = l := rfl
theorem sb_bl (s : ByteArray) : sb s = (bl s).map (·.toNat) := rfl
theorem bl_bsOf_sb (s : ByteArray) : bsOf (sb s) = s := bsOf_sb s
theorem bsOf_map (l : List UInt8) : bsOf (l.map (·.toNat)) = ⟨l.toArray⟩ := by
  have := bsOf_sb ⟨l.toArray⟩
  exact this
theorem sb_bsOf : ∀ (l : List Nat), (∀ x ∈ l, x < 256) → sb (bsOf l) = l := by
  intro l h
  unfold sb bsOf strOfNums
  simp only [List.map_map]
  have : ∀ x ∈ l, ((fun x : UInt8 => x.toNat) ∘ (fun n : Int => UInt8.ofNat n.toNat) ∘ fun x : Nat => (x : Int)) x = x := by
    intro x hx
    have := h x hx
    simp; omega
  first
    | exact (List.map_congr_left this).trans (List.map_id' l)
    | (rw [List.map_congr_left this]; simp)
/-- what is quoted is read -/
theorem unq_rep : ∀ (l out tail : List Nat), unqGo out (repL l ++ 34 :: tail) = some (out ++ l, tail)
  | [], out, tail => by rw [show repL [] ++ 34 :: tail = 34 :: tail from rfl, unq_quote, List.append_nil]
  | x :: l, out, tail => by
    have ih := unq_rep l (out ++ [x]) tail
    rw [repL_cons, List.append_assoc]
    have hfin : out ++ [x] ++ l = out ++ x :: l := by simp
    by_cases h1 : x = 10
    · subst h1
      rw [show rep1 10 ++ (repL l ++ 34 :: tail) = 92 :: 110 :: (repL l ++ 34 :: tail) from rfl, unq_slash, if_pos rfl, ih, hfin]
    · by_cases h2 : x = 34
      · subst h2
        rw [show rep1 34 ++ (repL l ++ 34 :: tail) = 92 :: 34 :: (repL l ++ 34 :: tail) from rfl, unq_slash, if_neg (by decide), ih, hfin]
      · by_cases h3 : x = 92
        · subst h3
          rw [show rep1 92 ++ (repL l ++ 34 :: tail) = 92 :: 92 :: (repL l ++ 34 :: tail) from rfl, unq_slash, if_neg (by decide), ih, hfin]
        · rw [show rep1 x = [x] from by unfold rep1; rw [if_neg h1, if_neg h2, if_neg h3], List.singleton_append, unq_plain _ _ _ h2 h3, ih, hfin]
theorem ixE_at {n r : List UInt8} {c : UInt8} (hn : ∀ x ∈ n, x ≠ 33 ∧ x ≠ 61) (hc : c = 33 ∨ c = 61) : ixE (n ++ c :: r) = (n.length : Int) := by
  refine Lib.indexAny_hit (x := c) (fun j b hj hb => ?_) (by simp) (by rcases hc with rfl | rfl <;> decide)
  rw [List.getElem?_append_left hj] at hb
  obtain ⟨h1, h2⟩ := hn b (List.mem_of_getElem? hb)
  simp [h1, h2]
theorem kindGo_at (t : ByteArray) (k : Nat) (r : List UInt8) (h1 : 1 ≤ k) (h4 : k ≤ 4) (ht : bl t = bl (sgB k) ++ 34 :: r) : kindGo t 4 = some k := by
  have ht' : t.data.toList = bl (sgB k) ++ 34 :: r := ht
  have e4 : (sgB 4 ++ (⟨#[34]⟩ : ByteArray)).data.toList = [61, 126, 34] := rfl
  have e3 : (sgB 3 ++ (⟨#[34]⟩ : ByteArray)).data.toList = [61, 94, 34] := rfl
  have e2 : (sgB 2 ++ (⟨#[34]⟩ : ByteArray)).data.toList = [33, 61, 34] := rfl
  have e1 : (sgB 1 ++ (⟨#[34]⟩ : ByteArray)).data.toList = [61, 34] := rfl
  unfold kindGo kindGo kindGo kindGo kindGo
  rw [show (3 + 1 : Nat) = 4 from rfl, show (2 + 1 : Nat) = 3 from rfl, show (1 + 1 : Nat) = 2 from rfl, show (0 + 1 : Nat) = 1 from rfl, e4, e3, e2, e1, ht']
  rcases (show k = 1 ∨ k = 2 ∨ k = 3 ∨ k = 4 by omega) with rfl | rfl | rfl | rfl
  · rw [show bl (sgB 1) = [61] from rfl]; simp [Lib.hasPrefix, List.isPrefixOf]
  · rw [show bl (sgB 2) = [33, 61] from rfl]; simp [Lib.hasPrefix, List.isPrefixOf]
  · rw [show bl (sgB 3) = [61, 94] from rfl]; simp [Lib.hasPrefix, List.isPrefixOf]
  · rw [show bl (sgB 4) = [61, 126] from rfl]; simp [Lib.hasPrefix, List.isPrefixOf]
theorem repL_lt {l : List Nat} (h : ∀ x ∈ l, x < 256) : ∀ x ∈ repL l, x < 256 := by
  intro x hx
  obtain ⟨y, hy, hxy⟩ := List.mem_flatMap.1 hx
  have := h y hy
  unfold rep1 at hxy
  split at hxy
  · simp at hxy; omega
  · split at hxy
    · simp at hxy; omega
    · split at hxy
      · simp at hxy; omega
      · simp at hxy; omega
theorem sb_app (a b : ByteArray) : sb (a ++ b) = sb a ++ sb b := by rw [sb_bl, sb_bl, sb_bl, bl_app, List.map_append]
theorem sb_quo (v : ByteArray) : sb (quoB v) = 34 :: (repL (sb v) ++ [34]) := by
  unfold quoB
  rw [sb_app, sb_app, sb_bsOf _ (repL_lt (sb_lt v))]
  rfl
theorem name_bytes {nm : ByteArray} (h : nameOk nm = true) : ∀ x ∈ bl nm, x ≠ 33 ∧ x ≠ 61 := by
  intro x hx
  unfold nameOk at h
  simp only [Bool.and_eq_true] at h
  have := List.all_eq_true.1 h.2 x.toNat (by rw [sb_bl]; exact List.mem_map_of_mem hx)
  refine ⟨fun e => ?_, fun e => ?_⟩
  · subst e; revert this; decide
  · subst e; revert this; decide
/-- one match, told, is read -/
theorem oneP_at (m : Mt) (tail s : ByteArray) (hn : nameOk m.nm = true) (h1 : 1 ≤ m.k) (h4 : m.k ≤ 4) (hs : s = mtT m ++ tail) : oneP s = some (m, tail) := by
  obtain ⟨q, nm, v⟩ := m
  simp only [] at hn h1 h4
  obtain ⟨k, rfl⟩ : ∃ k : Nat, q = (k : Int) := ⟨q.toNat, by omega⟩
  have hmt : mtT ⟨(k : Int), nm, v⟩ = nm ++ sgB k ++ quoB v := by unfold mtT; rw [Int.toNat_natCast]
  have hbs : bl s = bl nm ++ (bl (sgB k) ++ (bl (quoB v) ++ bl tail)) := by
    rw [hs, hmt, bl_app, bl_app, bl_app, List.append_assoc, List.append_assoc]
  obtain ⟨c, r, hcr, hc⟩ : ∃ c r, bl (sgB k) = c :: r ∧ (c = 33 ∨ c = 61) := by
    rcases (show k = 1 ∨ k = 2 ∨ k = 3 ∨ k = 4 by omega) with rfl | rfl | rfl | rfl
    · exact ⟨61, [], rfl, .inr rfl⟩
    · exact ⟨33, [61], rfl, .inl rfl⟩
    · exact ⟨61, [94], rfl, .inr rfl⟩
    · exact ⟨61, [126], rfl, .inr rfl⟩
  have hix : ixE s.data.toList = ((bl nm).length : Int) := by
    show ixE (bl s) = _
    rw [hbs, hcr]
    exact ixE_at (name_bytes hn) hc
  have hnt : (ixE s.data.toList).toNat = nm.size := by rw [hix, bl_len]; omega
  unfold oneP
  rw [hnt, if_neg (by rw [hix]; omega)]
  have hnm : s.extract 0 nm.size = nm := bl_ext (by rw [bl_extract, hbs, List.drop_zero, ← bl_len, List.take_left])
  have hss : s.size = (bl s).length := (bl_len s).symm
  obtain ⟨t, ht⟩ : ∃ t, s.extract nm.size s.size = t := ⟨_, rfl⟩
  have hbt : bl t = bl (sgB k) ++ (bl (quoB v) ++ bl tail) := by
    rw [← ht, bl_extract, hss, List.take_length, hbs, ← bl_len nm, List.drop_left]
  rw [hnm, ht]
  obtain ⟨r2, hr2⟩ : ∃ r2, bl (quoB v) = 34 :: r2 := by
    unfold quoB
    rw [bl_app, bl_app]
    exact ⟨_, rfl⟩
  have hr2' : r2.map (·.toNat) = repL (sb v) ++ [34] := by
    have := sb_quo v
    rw [sb_bl, hr2, List.map_cons] at this
    injection this
  rw [kindGo_at t k (r2 ++ bl tail) (by omega) (by omega) (by rw [hbt, hr2]; simp), oneT]
  have hsb : sb (t.extract ((sgB k).size + 1) t.size) = repL (sb v) ++ 34 :: sb tail := by
    rw [sb_bl, bl_extract, ← bl_len t, List.take_length, hbt, hr2, ← bl_len (sgB k)]
    rw [show bl (sgB k) ++ (34 :: r2 ++ bl tail) = (bl (sgB k) ++ [34]) ++ (r2 ++ bl tail) from by simp]
    rw [show (bl (sgB k)).length + 1 = (bl (sgB k) ++ [34]).length from by simp, List.drop_left, List.map_append, hr2', ← sb_bl]
    simp
  rw [hsb, unq_rep, List.nil_append, oneU, bsOf_sb, bsOf_sb]
end Go.Proofs.YtihjgbhnlejhfaaGreatDoor
namespace Go.Proofs.YtihjgbhnlejhfaaGreatDoor
open Go.RowKit

theorem trimC_comma {b : ByteArray} {l : List UInt8} (h : bl b = 44 :: l) : bl (trimC b) = l := by
  have h' : b.data.toList = 44 :: l := h
  unfold trimC
  rw [bl_of, h']
  simp [Lib.trimPrefix, Lib.hasPrefix, List.isPrefixOf]
theorem trimC_end {b : ByteArray} (h : bl b = [125]) : trimC b = b := by
  have h' : b.data.toList = [125] := h
  apply bl_ext
  unfold trimC
  rw [bl_of, h']
  simp [Lib.trimPrefix, Lib.hasPrefix, List.isPrefixOf, h]
def MtR (m : Mt) : Prop := nameOk m.nm = true ∧ 1 ≤ m.k ∧ m.k ≤ 4
theorem joinTail_cons (x : List UInt8) (r : List (List UInt8)) : Lib.joinTail [44] (x :: r) = 44 :: (x ++ Lib.joinTail [44] r) := by simp [Lib.joinTail]
theorem rd_at : ∀ (M : List Mt) (out : List Mt) (f : Nat) (rest : ByteArray), (∀ m ∈ M, MtR m) → bl rest = Lib.join ((M.map mtT).map (fun x : ByteArray => x.data.toList)) [44] ++ [125] → rest.size < f → rdGo f rest out = some (out ++ M)
  | [], out, f, rest, _, hr, hf => by
    obtain ⟨f, rfl⟩ : ∃ g, f = g + 1 := ⟨f - 1, by omega⟩
    have : rest = ⟨#[125]⟩ := bl_ext (by rw [hr]; rfl)
    rw [rdGo, if_pos (.inr this), List.append_nil]
  | m :: M, out, f, rest, hm, hr, hf => by
    obtain ⟨f, rfl⟩ : ∃ g, f = g + 1 := ⟨f - 1, by omega⟩
    obtain ⟨m1, m2, m3⟩ := hm m (by simp)
    rw [List.map_cons, List.map_cons, Lib.join_cons, List.append_assoc] at hr
    obtain ⟨tail, ht⟩ : ∃ tail : ByteArray, bl tail = Lib.joinTail [44] ((M.map mtT).map (fun x : ByteArray => x.data.toList)) ++ [125] := ⟨⟨(Lib.joinTail [44] ((M.map mtT).map (fun x : ByteArray => x.data.toList)) ++ [125]).toArray⟩, rfl⟩
    have hrest : rest = mtT m ++ tail := bl_ext (by rw [hr, bl_app, ht]; rfl)
    have h1 := oneP_at m tail rest m1 m2 m3 hrest
    have hsz := (oneP_ok h1).1
    have hts : 1 ≤ tail.size := by rw [← bl_len, ht, List.length_append, List.length_singleton]; omega
    have n1 : rest ≠ ⟨#[]⟩ := fun e => by rw [e] at hsz; have : (⟨#[]⟩ : ByteArray).size = 0 := rfl; omega
    have n2 : rest ≠ ⟨#[125]⟩ := fun e => by rw [e] at hsz; have : (⟨#[125]⟩ : ByteArray).size = 1 := rfl; omega
    rw [rdGo_one n1 n2, h1]
    show rdGo f (trimC tail) (out ++ [m]) = _
    have htc := trimC_le tail
    have hnext : bl (trimC tail) = Lib.join ((M.map mtT).map (fun x : ByteArray => x.data.toList)) [44] ++ [125] := by
      cases M with
      | nil =>
        have : bl tail = [125] := ht
        rw [trimC_end this]; exact ht
      | cons m' M' =>
        rw [List.map_cons, List.map_cons, joinTail_cons] at ht
        rw [trimC_comma (l := (mtT m').data.toList ++ Lib.joinTail [44] ((M'.map mtT).map (fun x : ByteArray => x.data.toList)) ++ [125]) (by rw [ht]; simp), List.map_cons, List.map_cons, Lib.join_cons]
    rw [rd_at M (out ++ [m]) f (trimC tail) (fun x hx => hm x (by simp [hx])) hnext (by omega)]
    simp
theorem mtR_of {L : List Mt} (h : chkM L = 0) : ∀ x ∈ L, MtR x := by
  intro x hx
  have := (chkM_iff.1 h).2 x hx
  unfold mtErr at this
  split at this
  · cases this
  · split at this
    · cases this
    · rename_i a b
      exact ⟨by simpa using b, by omega, by omega⟩
theorem readN_told {M : List Mt} (h : chkM M = 0) : readN (txtB M) = (M, 0) := by
  have hb : (txtB M).data.toList = 123 :: (Lib.join ((M.map mtT).map (fun x : ByteArray => x.data.toList)) [44] ++ [125]) := by
    show bl (txtB M) = _
    unfold txtB
    rw [bl_app, bl_app, bl_of]
    simp [bl]
  have hm : mtextN M = (txtB M, 0) := by unfold mtextN; rw [if_neg (by rw [h]; simp)]
  unfold readN
  have e : (⟨#[123]⟩ : ByteArray).data.toList = [123] := rfl
  have hp : Lib.hasPrefix (txtB M).data.toList (⟨#[123]⟩ : ByteArray).data.toList = true := by rw [hb, e]; simp [Lib.hasPrefix, List.isPrefixOf]
  have ht : Lib.trimPrefix (txtB M).data.toList (⟨#[123]⟩ : ByteArray).data.toList = Lib.join ((M.map mtT).map (fun x : ByteArray => x.data.toList)) [44] ++ [125] := by rw [hb, e]; simp [Lib.trimPrefix, Lib.hasPrefix, List.isPrefixOf]
  rw [if_pos hp, ht]
  have hsz : (txtB M).size = (Lib.join ((M.map mtT).map (fun x : ByteArray => x.data.toList)) [44] ++ [125]).length + 1 := by
    rw [← bl_len]
    show (txtB M).data.toList.length = _
    rw [hb, List.length_cons]
  rw [rd_at M [] ((txtB M).size + 1) _ (mtR_of h) (bl_of _) (by
    rw [← bl_len, bl_of, hsz]; omega)]
  rw [List.nil_append, fin2, if_pos hm]
theorem asL_asM (L : List Lab) : (L.map asM).map asL = L := by
  rw [List.map_map]
  have : asL ∘ asM = id := by funext x; rfl
  rw [this, List.map_id]
theorem chkM_asM {L : List Lab} (h : chkL L = 0) : chkM (L.map asM) = 0 := by
  obtain ⟨h1, h2, _⟩ := chkL_iff.1 h
  refine chkM_iff.2 ⟨by rw [List.length_map]; exact h1, fun x hx => ?_⟩
  obtain ⟨y, hy, rfl⟩ := List.mem_map.1 hx
  obtain ⟨h3, h4⟩ := h2 y hy
  unfold mtErr
  have k1 : (asM y).k = 1 := rfl
  have k2 : (asM y).nm = y.nm := rfl
  have k3 : (asM y).v = y.v := rfl
  rw [if_neg (by rw [k1]; omega), if_neg (by rw [k2, h3]; decide), if_neg (by rw [k3]; omega)]
theorem readL_told {L : List Lab} (h : chkL L = 0) : readL (txtB (L.map asM)) = (L, 0) := by
  have hl : textN L = (txtB (L.map asM), 0) := by unfold textN; rw [if_neg (by rw [h]; simp)]
  unfold readL
  rw [readN_told (chkM_asM h)]
  simp only []
  rw [if_neg (by simp), asL_asM, if_pos hl]
theorem txtB_size {M : List Mt} (h : chkM M = 0) : (txtB M).size ≤ 1200 := by
  obtain ⟨h1, h2⟩ := mtS_of h
  have := joinT_len M h2
  unfold txtB
  rw [ByteArray.size_append, ByteArray.size_append]
  have e : (⟨(Lib.join ((M.map mtT).map (fun x : ByteArray => x.data.toList)) [44]).toArray⟩ : ByteArray).size = (Lib.join ((M.map mtT).map (fun x : ByteArray => x.data.toList)) [44]).length := by
    show (Lib.join ((M.map mtT).map (fun x : ByteArray => x.data.toList)) [44]).toArray.size = _
    rw [List.size_toArray]
  rw [e]
  have e1 : (⟨#[123]⟩ : ByteArray).size = 1 := rfl
  have e2 : (⟨#[125]⟩ : ByteArray).size = 1 := rfl
  omega
end Go.Proofs.YtihjgbhnlejhfaaGreatDoor
