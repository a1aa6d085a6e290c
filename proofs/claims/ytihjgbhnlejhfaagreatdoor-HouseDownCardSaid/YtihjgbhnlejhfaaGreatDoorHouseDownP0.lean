/- Texts of the proof of HouseDown, joined (by merge.py). Conditions: each theorem's own hypotheses. -/
import Derived.Test.YtihjgbhnlejhfaaGreatDoorHouseAcksP38
namespace Go.Proofs.YtihjgbhnlejhfaaGreatDoor
open Go.RowKit Go.ChangeMaps Go.Maps Go.Sort Go.Shelf

theorem keysX_any (mb : Option Nat) (w : World) : Calls Tryz.prog 55 #[.map mb] w (R1 (.func (.func 85) #[] #[.pointer (some ⟨w.heap.size, 0, none⟩)]) (fun w' => w' = w.alloc (.cells #[.map mb] 96))) :=
  callsIn_wide.1 (AnyZ.keys_in Tryz.keysZ Fence.wide 5 trivial rfl mb w)
set_option maxHeartbeats 1000000 in
theorem sortedX0_any {H : Type} (b nn : Nat) (D0 : DataW H) (R : Value → Option (DataW H × List MemPlace)) (w : World) (hown : w.ownsMap Tryz.prog 9 R b nn D0) (hmax : Maps.size D0 ≤ maxLen) (hbytes : Maps.size D0 * 16 ≤ 140737488355328) :
    Calls Tryz.prog 54 #[.func (.func 85) #[] #[.pointer (some ⟨w.heap.size, 0, none⟩)]] (w.alloc (.cells #[.map (some b)] 96)) fun e w' => ∃ (v : Value) (ss : List (List UInt8)), e = .returned v ∧ ss.Perm (strKeys D0) ∧
      w'.ownsRow (w.alloc (.cells #[.map (some b)] 96)).heap.size 9 1 v ss.length ((ss.mergeSort (fun x y => decide (x ≤ y))).map encStr) ∧ (v = .slice none 0 0 ↔ ss = []) ∧ Below (w.alloc (.cells #[.map (some b)] 96)).heap.size (w.alloc (.cells #[.map (some b)] 96)) w' := by
  have hbl := hown.lt
  have hseq : SeqGives Fence.wide 2 Tryz.prog 85 #[.pointer (some ⟨w.heap.size, 0, none⟩)] encStr (fun ss => ss.Perm (strKeys D0)) (Maps.size D0) (w.alloc (.cells #[.map (some b)] 96)) :=
    AnyZ.keys_gives (ρ := Tryz.keysZ_ren) { Tryz.keysZ with } Fence.wide _ trivial rfl (by omega) w.heap.size b nn D0 _ (by simp) (by simp) (by
      obtain ⟨es, clock, hb, Ft, hs, hD⟩ := hown
      exact ⟨es, clock, (Below.heap_alloc _ _ b hbl).trans hb, Ft, hs, hD⟩)
  exact callsIn_wide.1 (AnyZ.sorted_in Tryz.sortedZ Fence.wide 5 trivial trivial trivial trivial rfl (by omega) (sortsZ _) (enters_of Tryz.func84 (by kernel_rfl) rfl) 85 #[.pointer (some ⟨w.heap.size, 0, none⟩)] trivial (enters_of Tryz.func85 (by kernel_rfl) rfl) _ _ hmax hbytes _ hseq)
set_option maxRecDepth 100000 in
theorem sortedX_any {w : World} {b : Nat} {es : Array MapEntry} {clock : Nat} {kvs : List (Value × Value)} {ks : List ByteArray} (hb : w.heap[b]? = some (.map es clock)) (S : MpS Tryz.prog 9 es clock kvs) (hk : kvs.map (·.1) = ks.map Value.string) (hl : ks.length < 1000) :
    Calls Tryz.prog 54 #[.func (.func 85) #[] #[.pointer (some ⟨w.heap.size, 0, none⟩)]] (w.alloc (.cells #[.map (some b)] 96)) (RV (KeysA ks (w.alloc (.cells #[.map (some b)] 96)))) := by
  have hes : es.size = ks.length := by
    have h1 := congrArg List.length hk
    rw [← S.pairs, List.length_map, List.length_map, List.length_map, Array.length_toList] at h1
    exact h1
  have hF := S.fit (by unfold maxLen; omega)
  have hsz : ((es.toList.map (WideElems.rg (H := Unit) Tryz.prog 9 (fun _ => some (.nil, [])))).foldr DataW.insert []).length = es.size := length_read es
  refine (sortedX0_any (H := Unit) b es.size _ _ w ⟨es, clock, hb, hF, Nat.le_refl _, rfl⟩ (by show List.length _ ≤ _; rw [hsz]; unfold maxLen; omega) (by show List.length _ * 16 ≤ _; rw [hsz]; omega)).mono ?_
  rintro e w' ⟨v, ss, rfl, hp, ho, hv, hb2⟩
  have hkeys : ss.Perm (strL ks) := by
    refine hp.trans ?_
    show (List.map _ _).Perm _
    refine ((WideShapes.sorted_perm _).map _).trans ?_
    rw [List.map_map]
    have e1 : strL ks = es.toList.map (fun e => (match e.key with | .string s => s.data.toList | _ => [])) := by
      have h1 : es.toList.map (·.key) = ks.map Value.string := by
        rw [← hk, ← S.pairs, List.map_map]; rfl
      have h2 := congrArg (List.map (fun v : Value => (match v with | .string s => s.data.toList | _ => []))) h1
      rw [List.map_map, List.map_map] at h2
      unfold strL
      exact h2.symm
    rw [e1]
    refine List.Perm.of_eq (List.map_congr_left fun x hx => ?_)
    obtain ⟨y, hy⟩ := hF.reads x hx
    have hkk := WideElems.rd_key hy
    obtain ⟨s, hs, hs2, _⟩ := Maps.keyOf_str Tryz.underlying9 hkk
    show strOf (WideElems.rg _ _ _ x).1 = _
    unfold WideElems.rg
    rw [hy, hs]
    show strOf y.1 = _
    rw [hs2]
    simp [strOf]
  have hss : ss.mergeSort (fun x y => decide (x ≤ y)) = sortS ks := mergeSort_of_perm hkeys
  have hlen : ss.length = ks.length := by rw [hkeys.length_eq]; unfold strL; rw [List.length_map]
  rw [hss, sortK_cells] at ho
  obtain ⟨A5, c5, e5, _⟩ := own_form ho
  rw [e5] at ho
  exact ⟨_, rfl, A5, ss.length, c5, e5, hlen.symm, ho, hb2⟩
end Go.Proofs.YtihjgbhnlejhfaaGreatDoor
