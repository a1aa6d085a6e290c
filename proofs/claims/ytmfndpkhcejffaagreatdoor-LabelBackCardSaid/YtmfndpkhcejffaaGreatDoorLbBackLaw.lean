/- What is told is read: plain. No program in sight. Conditions: the matches, the labels are such as Check lets by. -/
import Derived.Test.YtmfndpkhcejffaaGreatDoorLbReadL
namespace Go.Proofs.YtmfndpkhcejffaaGreatDoor
open Go.RowKit

/-- the bytes of a text -/
def bl (s : ByteArray) : List UInt8 := s.data.toList
theorem bl_ext {a b : ByteArray} (h : bl a = bl b) : a = b := ByteArray.ext (Array.ext' h)
theorem bl_app (a b : ByteArray) : bl (a ++ b) = bl a ++ bl b := by unfold bl; rw [ByteArray.data_append, Array.toList_append]
theorem bl_len (a : ByteArray) : (bl a).length = a.size := by unfold bl; rw [Array.length_toList]; rfl
theorem bl_extract (a : ByteArray) (i j : Nat) : bl (a.extract i j) = ((bl a).take j).drop i := by
  unfold bl
  rw [ByteArray.data_extract, Array.toList_extract]
  simp [List.extract, List.drop_take]
theorem bl_of (l : List UInt8) : bl ⟨l.toArray⟩ = l := rfl
theorem sb_bl (s : ByteArray) : sb s = (bl s).map (·.toNat) := rfl
theorem bl_bsOf_sb (s : ByteArray) : bsOf (sb s) = s := bsOf_sb s
theorem bsOf_map (l : List UInt8) : bsOf (l.map (·.toNat)) = ⟨l.toArray⟩ := by
  have := bsOf_sb ⟨l.toArray⟩
  exact this
theorem sb_bsOf : ∀ (l : List Nat), (∀ x ∈ l, x < 256) → sb (bsOf l) = l := by
  intro l h
  unfold sb bsOf strOfNums
  simp only [List.map_map, List.toList_toArray]
  have : ∀ x ∈ l, ((fun x : UInt8 => x.toNat) ∘ (fun n : Int => UInt8.ofNat n.toNat) ∘ fun x : Nat => (x : Int)) x = x := by
    intro x hx
    have := h x hx
    simp; omega
  first
    | exact (List.map_congr_left this).trans (List.map_id' l)
    | (rw [List.map_congr_left this]; simp)
/-- what is quoted is read -/
theorem unq_rep : ∀ (l out tail : List Nat), unqGo out (repL l ++ 34 :: tail) = some (out ++ l, tail)
  | [], out, tail => by rw [show repL [] ++ 34 :: tail = 34 :: tail from rfl, unq_quote, List.append_nil]
  | x :: l, out, tail => by
    have ih := unq_rep l (out ++ [x]) tail
    rw [repL_cons, List.append_assoc]
    have hfin : out ++ [x] ++ l = out ++ x :: l := by simp
    by_cases h1 : x = 10
    · subst h1
      rw [show rep1 10 ++ (repL l ++ 34 :: tail) = 92 :: 110 :: (repL l ++ 34 :: tail) from rfl, unq_slash, if_pos rfl, ih, hfin]
    · by_cases h2 : x = 34
      · subst h2
        rw [show rep1 34 ++ (repL l ++ 34 :: tail) = 92 :: 34 :: (repL l ++ 34 :: tail) from rfl, unq_slash, if_neg (by decide), ih, hfin]
      · by_cases h3 : x = 92
        · subst h3
          rw [show rep1 92 ++ (repL l ++ 34 :: tail) = 92 :: 92 :: (repL l ++ 34 :: tail) from rfl, unq_slash, if_neg (by decide), ih, hfin]
        · rw [show rep1 x = [x] from by unfold rep1; rw [if_neg h1, if_neg h2, if_neg h3], List.singleton_append, unq_plain _ _ _ h2 h3, ih, hfin]
theorem ixE_at {n r : List UInt8} {c : UInt8} (hn : ∀ x ∈ n, x ≠ 33 ∧ x ≠ 61) (hc : c = 33 ∨ c = 61) : ixE (n ++ c :: r) = (n.length : Int) := by
  refine Lib.indexAny_hit (x := c) (fun j b hj hb => ?_) (by simp) (by rcases hc with rfl | rfl <;> decide)
  rw [List.getElem?_append_left hj] at hb
  obtain ⟨h1, h2⟩ := hn b (List.mem_of_getElem? hb)
  simp [h1, h2]
theorem kindGo_at (t : ByteArray) (k : Nat) (r : List UInt8) (h1 : 1 ≤ k) (h4 : k ≤ 4) (ht : bl t = bl (sgB k) ++ 34 :: r) : kindGo t 4 = some k := by
  have ht' : t.data.toList = bl (sgB k) ++ 34 :: r := ht
  have e4 : (sgB 4 ++ (⟨#[34]⟩ : ByteArray)).data.toList = [61, 126, 34] := rfl
  have e3 : (sgB 3 ++ (⟨#[34]⟩ : ByteArray)).data.toList = [61, 94, 34] := rfl
  have e2 : (sgB 2 ++ (⟨#[34]⟩ : ByteArray)).data.toList = [33, 61, 34] := rfl
  have e1 : (sgB 1 ++ (⟨#[34]⟩ : ByteArray)).data.toList = [61, 34] := rfl
  unfold kindGo kindGo kindGo kindGo kindGo
  rw [show (3 + 1 : Nat) = 4 from rfl, show (2 + 1 : Nat) = 3 from rfl, show (1 + 1 : Nat) = 2 from rfl, show (0 + 1 : Nat) = 1 from rfl, e4, e3, e2, e1, ht']
  rcases (show k = 1 ∨ k = 2 ∨ k = 3 ∨ k = 4 by omega) with rfl | rfl | rfl | rfl
  · rw [show bl (sgB 1) = [61] from rfl]; simp [Lib.hasPrefix, List.isPrefixOf]
  · rw [show bl (sgB 2) = [33, 61] from rfl]; simp [Lib.hasPrefix, List.isPrefixOf]
  · rw [show bl (sgB 3) = [61, 94] from rfl]; simp [Lib.hasPrefix, List.isPrefixOf]
  · rw [show bl (sgB 4) = [61, 126] from rfl]; simp [Lib.hasPrefix, List.isPrefixOf]
theorem repL_lt {l : List Nat} (h : ∀ x ∈ l, x < 256) : ∀ x ∈ repL l, x < 256 := by
  intro x hx
  obtain ⟨y, hy, hxy⟩ := List.mem_flatMap.1 hx
  have := h y hy
  unfold rep1 at hxy
  split at hxy
  · simp at hxy; omega
  · split at hxy
    · simp at hxy; omega
    · split at hxy
      · simp at hxy; omega
      · simp at hxy; omega
theorem sb_app (a b : ByteArray) : sb (a ++ b) = sb a ++ sb b := by rw [sb_bl, sb_bl, sb_bl, bl_app, List.map_append]
theorem sb_quo (v : ByteArray) : sb (quoB v) = 34 :: (repL (sb v) ++ [34]) := by
  unfold quoB
  rw [sb_app, sb_app, sb_bsOf _ (repL_lt (sb_lt v))]
  rfl
theorem name_bytes {nm : ByteArray} (h : nameOk nm = true) : ∀ x ∈ bl nm, x ≠ 33 ∧ x ≠ 61 := by
  intro x hx
  unfold nameOk at h
  simp only [Bool.and_eq_true] at h
  have := List.all_eq_true.1 h.2 x.toNat (by rw [sb_bl]; exact List.mem_map_of_mem hx)
  refine ⟨fun e => ?_, fun e => ?_⟩
  · subst e; revert this; decide
  · subst e; revert this; decide
/-- one match, told, is read -/
theorem oneP_at (m : Mt) (tail s : ByteArray) (hn : nameOk m.nm = true) (h1 : 1 ≤ m.k) (h4 : m.k ≤ 4) (hs : s = mtT m ++ tail) : oneP s = some (m, tail) := by
  obtain ⟨q, nm, v⟩ := m
  simp only [] at hn h1 h4
  obtain ⟨k, rfl⟩ : ∃ k : Nat, q = (k : Int) := ⟨q.toNat, by omega⟩
  have hmt : mtT ⟨(k : Int), nm, v⟩ = nm ++ sgB k ++ quoB v := by unfold mtT; rw [Int.toNat_natCast]
  have hbs : bl s = bl nm ++ (bl (sgB k) ++ (bl (quoB v) ++ bl tail)) := by
    rw [hs, hmt, bl_app, bl_app, bl_app, List.append_assoc, List.append_assoc]
  obtain ⟨c, r, hcr, hc⟩ : ∃ c r, bl (sgB k) = c :: r ∧ (c = 33 ∨ c = 61) := by
    rcases (show k = 1 ∨ k = 2 ∨ k = 3 ∨ k = 4 by omega) with rfl | rfl | rfl | rfl
    · exact ⟨61, [], rfl, .inr rfl⟩
    · exact ⟨33, [61], rfl, .inl rfl⟩
    · exact ⟨61, [94], rfl, .inr rfl⟩
    · exact ⟨61, [126], rfl, .inr rfl⟩
  have hix : ixE s.data.toList = ((bl nm).length : Int) := by
    show ixE (bl s) = _
    rw [hbs, hcr]
    exact ixE_at (name_bytes hn) hc
  have hnt : (ixE s.data.toList).toNat = nm.size := by rw [hix, bl_len]; omega
  unfold oneP
  rw [hnt, if_neg (by rw [hix]; omega)]
  have hnm : s.extract 0 nm.size = nm := bl_ext (by rw [bl_extract, hbs, List.drop_zero, ← bl_len, List.take_left])
  have hss : s.size = (bl s).length := (bl_len s).symm
  obtain ⟨t, ht⟩ : ∃ t, s.extract nm.size s.size = t := ⟨_, rfl⟩
  have hbt : bl t = bl (sgB k) ++ (bl (quoB v) ++ bl tail) := by
    rw [← ht, bl_extract, hss, List.take_length, hbs, ← bl_len nm, List.drop_left]
  rw [hnm, ht]
  obtain ⟨r2, hr2⟩ : ∃ r2, bl (quoB v) = 34 :: r2 := by
    unfold quoB
    rw [bl_app, bl_app]
    exact ⟨_, rfl⟩
  have hr2' : r2.map (·.toNat) = repL (sb v) ++ [34] := by
    have := sb_quo v
    rw [sb_bl, hr2, List.map_cons] at this
    injection this
  rw [kindGo_at t k (r2 ++ bl tail) (by omega) (by omega) (by rw [hbt, hr2]; simp), oneT]
  have hsb : sb (t.extract ((sgB k).size + 1) t.size) = repL (sb v) ++ 34 :: sb tail := by
    rw [sb_bl, bl_extract, ← bl_len t, List.take_length, hbt, hr2, ← bl_len (sgB k)]
    rw [show bl (sgB k) ++ (34 :: r2 ++ bl tail) = (bl (sgB k) ++ [34]) ++ (r2 ++ bl tail) from by simp]
    rw [show (bl (sgB k)).length + 1 = (bl (sgB k) ++ [34]).length from by simp, List.drop_left, List.map_append, hr2', ← sb_bl]
    simp
  rw [hsb, unq_rep, List.nil_append, oneU, bsOf_sb, bsOf_sb]
end Go.Proofs.YtmfndpkhcejffaaGreatDoor
