/- Texts of matches and of labels are read as they were told: plain. No program in sight. Conditions: what Check lets by. -/
import Derived.Test.YtmfndpkhcejffaaGreatDoorLbBackLaw
namespace Go.Proofs.YtmfndpkhcejffaaGreatDoor
open Go.RowKit

theorem trimC_comma {b : ByteArray} {l : List UInt8} (h : bl b = 44 :: l) : bl (trimC b) = l := by
  have h' : b.data.toList = 44 :: l := h
  unfold trimC
  rw [bl_of, h']
  simp [Lib.trimPrefix, Lib.hasPrefix, List.isPrefixOf]
theorem trimC_end {b : ByteArray} (h : bl b = [125]) : trimC b = b := by
  have h' : b.data.toList = [125] := h
  apply bl_ext
  unfold trimC
  rw [bl_of, h']
  simp [Lib.trimPrefix, Lib.hasPrefix, List.isPrefixOf, h]
def MtR (m : Mt) : Prop := nameOk m.nm = true ∧ 1 ≤ m.k ∧ m.k ≤ 4
theorem joinTail_cons (x : List UInt8) (r : List (List UInt8)) : Lib.joinTail [44] (x :: r) = 44 :: (x ++ Lib.joinTail [44] r) := by simp [Lib.joinTail]
theorem rd_at : ∀ (M : List Mt) (out : List Mt) (f : Nat) (rest : ByteArray), (∀ m ∈ M, MtR m) → bl rest = Lib.join ((M.map mtT).map (fun x : ByteArray => x.data.toList)) [44] ++ [125] → rest.size < f → rdGo f rest out = some (out ++ M)
  | [], out, f, rest, _, hr, hf => by
    obtain ⟨f, rfl⟩ : ∃ g, f = g + 1 := ⟨f - 1, by omega⟩
    have : rest = ⟨#[125]⟩ := bl_ext (by rw [hr]; rfl)
    rw [rdGo, if_pos (.inr this), List.append_nil]
  | m :: M, out, f, rest, hm, hr, hf => by
    obtain ⟨f, rfl⟩ : ∃ g, f = g + 1 := ⟨f - 1, by omega⟩
    obtain ⟨m1, m2, m3⟩ := hm m (by simp)
    rw [List.map_cons, List.map_cons, Lib.join_cons, List.append_assoc] at hr
    obtain ⟨tail, ht⟩ : ∃ tail : ByteArray, bl tail = Lib.joinTail [44] ((M.map mtT).map (fun x : ByteArray => x.data.toList)) ++ [125] := ⟨⟨(Lib.joinTail [44] ((M.map mtT).map (fun x : ByteArray => x.data.toList)) ++ [125]).toArray⟩, rfl⟩
    have hrest : rest = mtT m ++ tail := bl_ext (by rw [hr, bl_app, ht]; rfl)
    have h1 := oneP_at m tail rest m1 m2 m3 hrest
    have hsz := (oneP_ok h1).1
    have hts : 1 ≤ tail.size := by rw [← bl_len, ht, List.length_append, List.length_singleton]; omega
    have n1 : rest ≠ ⟨#[]⟩ := fun e => by rw [e] at hsz; have : (⟨#[]⟩ : ByteArray).size = 0 := rfl; omega
    have n2 : rest ≠ ⟨#[125]⟩ := fun e => by rw [e] at hsz; have : (⟨#[125]⟩ : ByteArray).size = 1 := rfl; omega
    rw [rdGo_one n1 n2, h1]
    show rdGo f (trimC tail) (out ++ [m]) = _
    have htc := trimC_le tail
    have hnext : bl (trimC tail) = Lib.join ((M.map mtT).map (fun x : ByteArray => x.data.toList)) [44] ++ [125] := by
      cases M with
      | nil =>
        have : bl tail = [125] := ht
        rw [trimC_end this]; exact ht
      | cons m' M' =>
        rw [List.map_cons, List.map_cons, joinTail_cons] at ht
        rw [trimC_comma (l := (mtT m').data.toList ++ Lib.joinTail [44] ((M'.map mtT).map (fun x : ByteArray => x.data.toList)) ++ [125]) (by rw [ht]; simp), List.map_cons, List.map_cons, Lib.join_cons]
    rw [rd_at M (out ++ [m]) f (trimC tail) (fun x hx => hm x (by simp [hx])) hnext (by omega)]
    simp
theorem mtR_of {L : List Mt} (h : chkM L = 0) : ∀ x ∈ L, MtR x := by
  intro x hx
  have := (chkM_iff.1 h).2 x hx
  unfold mtErr at this
  split at this
  · cases this
  · split at this
    · cases this
    · rename_i a b
      exact ⟨by simpa using b, by omega, by omega⟩
theorem readN_told {M : List Mt} (h : chkM M = 0) : readN (txtB M) = (M, 0) := by
  have hb : (txtB M).data.toList = 123 :: (Lib.join ((M.map mtT).map (fun x : ByteArray => x.data.toList)) [44] ++ [125]) := by
    show bl (txtB M) = _
    unfold txtB
    rw [bl_app, bl_app, bl_of]
    simp [bl]
  have hm : mtextN M = (txtB M, 0) := by unfold mtextN; rw [if_neg (by rw [h]; simp)]
  unfold readN
  have e : (⟨#[123]⟩ : ByteArray).data.toList = [123] := rfl
  have hp : Lib.hasPrefix (txtB M).data.toList (⟨#[123]⟩ : ByteArray).data.toList = true := by rw [hb, e]; simp [Lib.hasPrefix, List.isPrefixOf]
  have ht : Lib.trimPrefix (txtB M).data.toList (⟨#[123]⟩ : ByteArray).data.toList = Lib.join ((M.map mtT).map (fun x : ByteArray => x.data.toList)) [44] ++ [125] := by rw [hb, e]; simp [Lib.trimPrefix, Lib.hasPrefix, List.isPrefixOf]
  rw [if_pos hp, ht]
  have hsz : (txtB M).size = (Lib.join ((M.map mtT).map (fun x : ByteArray => x.data.toList)) [44] ++ [125]).length + 1 := by
    rw [← bl_len]
    show (txtB M).data.toList.length = _
    rw [hb, List.length_cons]
  rw [rd_at M [] ((txtB M).size + 1) _ (mtR_of h) (bl_of _) (by
    rw [← bl_len, bl_of, hsz]; omega)]
  rw [List.nil_append, fin2, if_pos hm]
theorem asL_asM (L : List Lab) : (L.map asM).map asL = L := by
  rw [List.map_map]
  have : asL ∘ asM = id := by funext x; rfl
  rw [this, List.map_id]
theorem chkM_asM {L : List Lab} (h : chkL L = 0) : chkM (L.map asM) = 0 := by
  obtain ⟨h1, h2, _⟩ := chkL_iff.1 h
  refine chkM_iff.2 ⟨by rw [List.length_map]; exact h1, fun x hx => ?_⟩
  obtain ⟨y, hy, rfl⟩ := List.mem_map.1 hx
  obtain ⟨h3, h4⟩ := h2 y hy
  unfold mtErr
  have k1 : (asM y).k = 1 := rfl
  have k2 : (asM y).nm = y.nm := rfl
  have k3 : (asM y).v = y.v := rfl
  rw [if_neg (by rw [k1]; omega), if_neg (by rw [k2, h3]; decide), if_neg (by rw [k3]; omega)]
theorem readL_told {L : List Lab} (h : chkL L = 0) : readL (txtB (L.map asM)) = (L, 0) := by
  have hl : textN L = (txtB (L.map asM), 0) := by unfold textN; rw [if_neg (by rw [h]; simp)]
  unfold readL
  rw [readN_told (chkM_asM h)]
  simp only []
  rw [if_neg (by simp), asL_asM, if_pos hl]
theorem txtB_size {M : List Mt} (h : chkM M = 0) : (txtB M).size ≤ 1200 := by
  obtain ⟨h1, h2⟩ := mtS_of h
  have := joinT_len M h2
  unfold txtB
  rw [ByteArray.size_append, ByteArray.size_append]
  have e : (⟨(Lib.join ((M.map mtT).map (fun x : ByteArray => x.data.toList)) [44]).toArray⟩ : ByteArray).size = (Lib.join ((M.map mtT).map (fun x : ByteArray => x.data.toList)) [44]).length := by
    show (Lib.join ((M.map mtT).map (fun x : ByteArray => x.data.toList)) [44]).toArray.size = _
    rw [List.size_toArray]
  rw [e]
  have e1 : (⟨#[123]⟩ : ByteArray).size = 1 := rfl
  have e2 : (⟨#[125]⟩ : ByteArray).size = 1 := rfl
  omega
end Go.Proofs.YtmfndpkhcejffaaGreatDoor
