/- What one of package label reads. Conditions: the text is no giant; the table of signs. -/
import Derived.Test.YtmfndpkhcejffaaGreatDoorLbUnq
import Derived.Test.YtmfndpkhcejffaaGreatDoorIxAll
import Derived.Test.YtmfndpkhcejffaaGreatDoorShHp
import Derived.Shelf.RegionOpenPlain
namespace Go.Proofs.YtmfndpkhcejffaaGreatDoor
open Go.RowKit

/-- the sign that a text begins with, of those up to k -/
def kindGo (t : ByteArray) : Nat → Option Nat
  | 0 => none
  | k + 1 => if Lib.hasPrefix t.data.toList (sgB (k + 1) ++ (⟨#[34]⟩ : ByteArray)).data.toList then some (k + 1) else kindGo t k
def oneU (k : Nat) (nm : ByteArray) : Option (List Nat × List Nat) → Option (Mt × ByteArray)
  | none => none
  | some (a, b) => some (⟨(k : Int), nm, bsOf a⟩, bsOf b)
/-- behind the name: the sign, the value, what is left -/
def oneT (nm t : ByteArray) : Option Nat → Option (Mt × ByteArray)
  | none => none
  | some k => oneU k nm (unqGo [] (sb (t.extract ((sgB k).size + 1) t.size)))
/-- the first match of a text, and what is left -/
def oneP (s : ByteArray) : Option (Mt × ByteArray) :=
  if ixE s.data.toList < 0 then none else oneT (s.extract 0 (ixE s.data.toList).toNat) (s.extract (ixE s.data.toList).toNat s.size) (kindGo (s.extract (ixE s.data.toList).toNat s.size) 4)
def OneV : Option (Mt × ByteArray) → Value → Prop
  | none, v => ∃ (k : Int) (a b r : ByteArray), v = .tuple #[.agg #[.int .i64 k, .string a, .string b], .string r, .bool false]
  | some (m, rest), v => v = .tuple #[.agg #[.int .i64 m.k, .string m.nm, .string m.v], .string rest, .bool true]

theorem hasPrefix_leO {s p : List UInt8} (h : Lib.hasPrefix s p = true) : p.length ≤ s.length := by
  unfold Lib.hasPrefix at h
  exact (List.isPrefixOf_iff_prefix.1 h).length_le
theorem ixE_le : ∀ l : List UInt8, Lib.indexAny l [33, 61] ≤ (l.length : Int)
  | [] => by simp [Lib.indexAny]
  | b :: l => by
    have ih := ixE_le l
    rw [Lib.indexAny, List.length_cons]
    split
    · omega
    · split <;> omega
set_option maxRecDepth 1000000 in
set_option maxHeartbeats 8000000 in
theorem lone_any (s : ByteArray) (hs : s.size < 4294967281) (w : World) (tS : SgAt w) :
    Calls Tryz.prog 17 #[.string s] w (RV (fun v w' => OneV (oneP s) v ∧ Below w.heap.size w w')) := by
  obtain ⟨i, hi⟩ : ∃ i, ixE s.data.toList = i := ⟨_, rfl⟩
  obtain ⟨r, hr⟩ : ∃ r, oneP s = r := ⟨_, rfl⟩
  rw [hr]
  have hI := fun w => idxAny_any s hs w
  rw [hi] at hI
  have HI := Lib.hid hI
  have HS := Lib.hid tS
  obtain ⟨W0, hW0⟩ : ∃ W0, w.alloc (.cells #[.int .i64 0, .string ⟨#[]⟩, .string ⟨#[]⟩] 36) = W0 := ⟨_, rfl⟩
  obtain ⟨g, hg⟩ : ∃ g, w.heap.size = g := ⟨_, rfl⟩
  have hk0 : Blk W0 g 36 #[.int .i64 0, .string ⟨#[]⟩, .string ⟨#[]⟩] := by rw [← hW0, ← hg]; exact Blk.new _ _ _
  have hb0 : Below w.heap.size w W0 := by rw [← hW0]; exact one_allocP _ _
  have HW := Lib.hid hW0
  have HG := Lib.hid hg
  have hge : -1 ≤ i := by rw [← hi]; exact Lib.indexAny_ge _ _
  have hix : i ≤ (s.size : Int) := by
    rw [← hi, ← sb_len]
    unfold ixE sb
    rw [List.length_map]
    exact ixE_le _
  clear hI tS hW0
  by_cases hneg : i < 0
  · have Hre := Lib.hid (show r = none by rw [← hr, oneP, hi, if_pos hneg])
    have hgw : w.heap.size ≤ g := by omega
    clear hr hi hg hix hge
    go_enter Tryz.func17, Tryz.ntmps17
    go_wp2_with fail
    rw [HW.out]
    refine (HI.out W0).mono ?_
    rintro e w1 ⟨rfl, hb1⟩
    have hk2 := hk0.next hb1
    have hb01 := bnext hb0 hb1
    rw [HG.out]
    have z0 : w1.cell? ⟨g, 0, none⟩ = some (.int .i64 0) := hk2.cell 0
    have z1 : w1.cell? ⟨g, 1, none⟩ = some (.string ⟨#[]⟩) := hk2.cell 1
    have z2 : w1.cell? ⟨g, 2, none⟩ = some (.string ⟨#[]⟩) := hk2.cell 2
    have g0 := hk2.frozen 0
    have g1 := hk2.frozen 1
    have g2 := hk2.frozen 2
    clear hk0 hb1 hb0 hk2
    go_wp2_with fail
    refine bodyPost_ret (v := .tuple #[.agg #[.int .i64 0, .string ⟨#[]⟩, .string ⟨#[]⟩], .string ⟨#[]⟩, .bool false]) (by simp [results, Tryz.results17, go_sem, *]) rfl (RV.mk ⟨?_, ?_⟩)
    · rw [Hre.out]; exact ⟨_, _, _, _, rfl⟩
    · exact (((hb01.setCell hgw _).setCell hgw _).setCell hgw _)
  · obtain ⟨k, rfl⟩ : ∃ k : Nat, i = (k : Int) := ⟨i.toNat, by omega⟩
    have hr2 : oneT (s.extract 0 k) (s.extract k s.size) (kindGo (s.extract k s.size) 4) = r := by rw [← hr, oneP, hi, if_neg (by omega)]; rfl
    have HR := Lib.hid hr2
    have hk1 : (0 : Int) ≤ (k : Int) := by omega
    obtain ⟨t, ht⟩ : ∃ t, s.extract k s.size = t := ⟨_, rfl⟩
    obtain ⟨nm, hnm⟩ : ∃ nm, s.extract 0 k = nm := ⟨_, rfl⟩
    have hts : t.size < 4294967281 := by rw [← ht, ByteArray.size_extract]; omega
    rw [ht, hnm] at HR
    clear hr2 hr hi hneg hg
    go_enter Tryz.func17, Tryz.ntmps17
    go_wp2_with fail
    rw [HW.out]
    refine (HI.out W0).mono ?_
    rintro e w1 ⟨rfl, hb1⟩
    have hk2 := hk0.next hb1
    have hb01 := bnext hb0 hb1
    rw [HG.out]
    have y1 : w1.cell? ⟨g, 1, none⟩ = some (.string ⟨#[]⟩) := hk2.cell 1
    have f1 : w1.frozen? ⟨g, 1, none⟩ = false := hk2.frozen 1
    clear hk0 hb1 hb0
    go_wp2_with fail
    go_region_law (fail)
    go_wp2_with fail
    obtain ⟨W2, hW2⟩ : ∃ W2, (w1.setCell ⟨g, 1, none⟩ (.string nm)).drew = W2 := ⟨_, rfl⟩
    have hk3 : Blk W2 g 36 #[.int .i64 0, .string nm, .string ⟨#[]⟩] := by rw [← hW2]; exact hk2.set 1 (.string nm)
    have hgw : w.heap.size ≤ g := by rw [HG.out]; exact Nat.le_refl _
    have hb02 : Below w.heap.size w W2 := by rw [← hW2]; exact below_drewN (hb01.setCell hgw _) 1
    rw [hW2]
    clear hW2 hk2 y1 f1 hb01 ht hnm
    have sg2 := HS.out.next hb02
    have hsg0 : 0 < w.heap.size := HS.out.1
    have hsgg : 0 ≠ g := by omega
    go_loopw [6] (fun kv wr => ∃ n : Nat, n ≤ 4 ∧ kv = .int .i64 (n : Nat) ∧ Hid (oneT nm t (kindGo t n) = r) ∧ wr = W2) (fun kv _ => (intOf kv).toNat)
    case atStart => exact ⟨4, by omega, rfl, HR, rfl⟩
    case round =>
      obtain ⟨n, hn, rfl, hq, rfl⟩ := hrel
      by_cases h1 : (1 : Int) ≤ (n : Int)
      · have hkn : kindGo t n = if Lib.hasPrefix t.data.toList (sgB n ++ (⟨#[34]⟩ : ByteArray)).data.toList then some n else kindGo t (n - 1) := by
          obtain ⟨j, rfl⟩ : ∃ j, n = j + 1 := ⟨n - 1, by omega⟩
          rfl
        have y3 := sg2.2 n (by omega)
        have hq2 := hq.out
        rw [hkn] at hq2
        have hHP := fun w => Tryz.strings_HasPrefix t (sgB n ++ (⟨#[34]⟩ : ByteArray)) w
        have hs2 : (sgB n).size ≤ 2 := by
          unfold sgB
          split <;> decide
        obtain ⟨b, hb⟩ : ∃ b, Lib.hasPrefix t.data.toList (sgB n ++ (⟨#[34]⟩ : ByteArray)).data.toList = b := ⟨_, rfl⟩
        rw [hb] at hHP hq2
        obtain ⟨sg, hsg⟩ : ∃ sg, sgB n = sg := ⟨_, rfl⟩
        rw [hsg] at y3 hHP hs2 hb
        have Hsg := Lib.hid hsg
        have HHP := Lib.hid hHP
        have b1 : (0 : Int) ≤ (n : Int) := by omega
        have b2 : (n : Int) < 5 := by omega
        clear hkn hq hHP hsg
        cases b with
        | false =>
          have Hq := Lib.hid (show oneT nm t (kindGo t (n - 1)) = r from hq2)
          clear hq2 hb
          go_wp2_with fail
          refine (HHP.out _).mono ?_
          rintro e w3 ⟨rfl, rfl⟩
          go_wp2_with fail
          go_roundw
          case rel => exact ⟨n - 1, by omega, congrArg _ (by omega), Hq, by first | rfl | trivial⟩
          case measure => simp [intOf]; omega
        | true =>
          have hpl : sg.size + 1 ≤ t.size := by
            have := hasPrefix_leO hb
            rw [Array.length_toList, Array.length_toList] at this
            have h2 : (sg ++ (⟨#[34]⟩ : ByteArray)).size = sg.size + 1 := by rw [ByteArray.size_append]; rfl
            have h3 : (sg ++ (⟨#[34]⟩ : ByteArray)).size ≤ t.size := this
            omega
          have Hq := Lib.hid (show oneT nm t (some n) = r from hq2)
          have hp2 : ((sg.size : Nat) : Int) + 1 ≤ (t.size : Int) := by omega
          have y0 : wr.cell? ⟨g, 0, none⟩ = some (.int .i64 0) := hk3.cell 0
          have f0 : wr.frozen? ⟨g, 0, none⟩ = false := hk3.frozen 0
          obtain ⟨W3, hW3⟩ : ∃ W3, wr.setCell ⟨g, 0, none⟩ (.int .i64 (n : Nat)) = W3 := ⟨_, rfl⟩
          have hk4 : Blk W3 g 36 #[.int .i64 (n : Nat), .string nm, .string ⟨#[]⟩] := by rw [← hW3]; exact hk3.set 0 _
          have hb03 : Below w.heap.size w W3 := by rw [← hW3]; exact hb02.setCell hgw _
          have y4 := (HS.out.next hb03).2 n (by omega)
          rw [Hsg.out, ← hW3] at y4
          obtain ⟨s2, hs2e⟩ : ∃ s2, t.extract (sg.size + 1) t.size = s2 := ⟨_, rfl⟩
          have hs2l : s2.size ≤ 4294967296 := by rw [← hs2e, ByteArray.size_extract]; omega
          have hUq := lunq_any s2 hs2l W3
          have HW3 := Lib.hid hW3
          clear hq2 hb hW3
          obtain ⟨u, hu⟩ : ∃ u, unqGo [] (sb s2) = u := ⟨_, rfl⟩
          rw [hu] at hUq
          have hre : oneT nm t (some n) = oneU n nm u := by rw [oneT, Hsg.out, hs2e, hu]
          rw [Hq.out] at hre
          cases u with
          | none =>
            have HUq := Lib.hid (show Calls Tryz.prog 25 #[.string s2] W3 (R1 (.tuple #[.string ⟨#[]⟩, .string ⟨#[]⟩, .bool false]) (Below W3.heap.size W3)) from hUq)
            clear hUq
            go_wp2_with fail
            refine (HHP.out _).mono ?_
            rintro e w3 ⟨rfl, rfl⟩
            go_wp2_with fail
            rw [HW3.out]
            refine HUq.out.mono ?_
            rintro e w4 ⟨rfl, hb4⟩
            have hk5 := hk4.next hb4
            have hb04 := bnext hb03 hb4
            have z0 : w4.cell? ⟨g, 0, none⟩ = some (.int .i64 (n : Nat)) := hk5.cell 0
            have z1 : w4.cell? ⟨g, 1, none⟩ = some (.string nm) := hk5.cell 1
            have z2 : w4.cell? ⟨g, 2, none⟩ = some (.string ⟨#[]⟩) := hk5.cell 2
            have g0 := hk5.frozen 0
            have g1 := hk5.frozen 1
            have g2 := hk5.frozen 2
            go_wp2_with fail
            refine bodyPost_ret (v := .tuple #[.agg #[.int .i64 (n : Nat), .string nm, .string ⟨#[]⟩], .string ⟨#[]⟩, .bool false]) (by simp [results, Tryz.results17, go_sem, *]) rfl (RV.mk ⟨?_, ?_⟩)
            · rw [hre]; exact ⟨_, _, _, _, rfl⟩
            · exact ((((hb04.setCell hgw _).setCell hgw _).setCell hgw _).setCell hgw _)
          | some ab =>
            obtain ⟨a, b⟩ := ab
            have HUq := Lib.hid (show Calls Tryz.prog 25 #[.string s2] W3 (R1 (.tuple #[.string (bsOf a), .string (bsOf b), .bool true]) (Below W3.heap.size W3)) from hUq)
            obtain ⟨a', ha'⟩ : ∃ a', bsOf a = a' := ⟨_, rfl⟩
            obtain ⟨b', hb'⟩ : ∃ b', bsOf b = b' := ⟨_, rfl⟩
            rw [ha', hb'] at HUq
            have Hre := Lib.hid (show r = some (⟨(n : Int), nm, a'⟩, b') by rw [hre, oneU, ha', hb'])
            clear hUq hre ha' hb'
            go_wp2_with fail
            refine (HHP.out _).mono ?_
            rintro e w3 ⟨rfl, rfl⟩
            go_wp2_with fail
            rw [HW3.out]
            refine HUq.out.mono ?_
            rintro e w4 ⟨rfl, hb4⟩
            have hk5 := hk4.next hb4
            have hb04 := bnext hb03 hb4
            have z0 : w4.cell? ⟨g, 0, none⟩ = some (.int .i64 (n : Nat)) := hk5.cell 0
            have z1 : w4.cell? ⟨g, 1, none⟩ = some (.string nm) := hk5.cell 1
            have z2 : w4.cell? ⟨g, 2, none⟩ = some (.string ⟨#[]⟩) := hk5.cell 2
            have g0 := hk5.frozen 0
            have g1 := hk5.frozen 1
            have g2 := hk5.frozen 2
            go_wp2_with fail
            refine bodyPost_ret (v := .tuple #[.agg #[.int .i64 (n : Nat), .string nm, .string a'], .string b', .bool true]) (by simp [results, Tryz.results17, go_sem, *]) rfl (RV.mk ⟨?_, ?_⟩)
            · rw [Hre.out]; rfl
            · exact ((((hb04.setCell hgw _).setCell hgw _).setCell hgw _).setCell hgw _)
      · have hn0 : n = 0 := by omega
        subst hn0
        have Hre := Lib.hid (show r = none from hq.out.symm)
        have z0 : wr.cell? ⟨g, 0, none⟩ = some (.int .i64 0) := hk3.cell 0
        have z1 : wr.cell? ⟨g, 1, none⟩ = some (.string nm) := hk3.cell 1
        have z2 : wr.cell? ⟨g, 2, none⟩ = some (.string ⟨#[]⟩) := hk3.cell 2
        have g0 := hk3.frozen 0
        have g1 := hk3.frozen 1
        have g2 := hk3.frozen 2
        clear hq
        go_wp2_with fail
        refine bodyPost_ret (v := .tuple #[.agg #[.int .i64 0, .string nm, .string ⟨#[]⟩], .string ⟨#[]⟩, .bool false]) (by simp [results, Tryz.results17, go_sem, *]) rfl (RV.mk ⟨?_, ?_⟩)
        · rw [Hre.out]; exact ⟨_, _, _, _, rfl⟩
        · exact (((hb02.setCell hgw _).setCell hgw _).setCell hgw _)
end Go.Proofs.YtmfndpkhcejffaaGreatDoor
