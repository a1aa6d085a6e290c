/- What Values of an index tells. Conditions: the index lies in its cells. -/
import Derived.Test.YtmfndpkhcejffaaKeysL
import Derived.Test.YtmfndpkhcejffaaSortSo
import Derived.Test.YtmfndpkhcejffaaIxFind
import Derived.Maps.AppendAt
import Derived.Sort.QuietTacIn
import Derived.Sort.BigQuietIn
namespace Go.Proofs.Ytmfndpkhcejffaa
open Go.RowKit Go.Shelf Go.ChangeMaps Go.Sort

attribute [local go_sem] Oper.semAt_some

/-- the values of a name, as its labels came -/
def valsOf (name : ByteArray) (ys : List Lab) : List ByteArray := (ys.filter fun y => decide (y.nm = name)).map (·.v)
def ValP (D : List (Lab × List Int)) (name : ByteArray) (w : World) (v : Value) (w' : World) : Prop :=
  ∃ A n c ys, v = .slice A n c ∧ ys.Perm (D.map (·.1)) ∧ (valsOf name ys).length = n ∧ w'.ownsRow w.heap.size 9 1 (.slice A n c) n ((sortS (valsOf name ys)).map encStr) ∧ Below w.heap.size w w'
theorem infoStrV : (Try.prog.info? 9).map (fun i => (i.zero, i.size, i.bytes)) = some (some (.string ⟨#[]⟩), 1, 16) := by kernel_rfl
theorem IxRows.keys {W : World} {B : Nat} : ∀ {kvs : List (Value × Value)} {D : List (Lab × List Int)}, IxRows W B kvs D → kvs.map (·.1) = D.map (keysLE ∘ fun x => x.1)
  | [], [], _ => rfl
  | p :: kvs, d :: D, ⟨⟨h1, _, _⟩, _, h5⟩ => by rw [List.map_cons, List.map_cons, IxRows.keys h5, h1]; rfl
  | [], _ :: _, h => h.elim
  | _ :: _, [], h => h.elim
set_option maxRecDepth 1000000 in
set_option maxHeartbeats 4000000 in
theorem ivalues_any (w0 w : World) (B g b : Nat) (L : List (List Lab)) (D : List (Lab × List Int)) (A : Option Addr) (c : Nat) (vs : List Value) (es : Array MapEntry) (clock : Nat) (kvs : List (Value × Value)) (hI : IxSt w0 w B g b L D A c vs es clock kvs) (hD : D.length ≤ 3000) (name : ByteArray) :
    Calls Try.prog 14 #[.pointer (some ⟨g, 0, none⟩), .string name] w (RV (ValP D name w)) := by
  have hobj := hI.obj
  obtain ⟨N, hN⟩ : ∃ N, L.length = N := ⟨_, rfl⟩
  rw [hN] at hobj
  have hlt := hobj.lt
  have g1 : w.cell? ⟨g, 1, none⟩ = some (.map (some b)) := hobj.cell 1
  refine (callsIn_wide (n := 9)).1 ?_
  refine callsIn_of_wp_marks Try.func14 rfl trivial ?_ rfl
  simp only [Try.ntmps14, List.size_toArray, List.length_cons, List.length_nil, Nat.reduceAdd, Nat.reduceSub, Array.replicate_succ, Array.replicate_zero, List.push_toArray, List.append_toArray, List.nil_append, List.cons_append]
  gi_wp2_with (first | (refine ⟨trivial, ?_⟩; gi_at_call 30; refine (callsIn_wide.2 (keysL_any b _)).mono ?_; rintro e' w2 ⟨v, rfl, rfl, rfl⟩))
  obtain ⟨W0, hW0⟩ : ∃ W0, (((w.alloc (.cells #[.string name] 9)).alloc (.cells #[.slice none 0 0] 40)).alloc (.cells #[.map (some b)] 49)) = W0 := ⟨_, rfl⟩
  have hsz : W0.heap.size = w.heap.size + 1 + 1 + 1 := by rw [← hW0]; simp
  have hb0 : Below w.heap.size w W0 := by rw [← hW0]; exact (((Below.refl _ _).alloc (Nat.le_refl _) _).alloc (by simp) _).alloc (by simp; omega) _
  have kN : Blk W0 w.heap.size 9 #[.string name] := by rw [← hW0]; exact ((Blk.new _ _ _).alloc _).alloc _
  have kO : Blk W0 (w.heap.size + 1) 40 #[.slice none 0 0] := by
    rw [← hW0]
    have := (Blk.new (w.alloc (.cells #[.string name] 9)) 40 #[.slice none 0 0]).alloc (.cells #[.map (some b)] 49)
    rwa [World.size_alloc] at this
  have kM : Blk W0 (w.heap.size + 1 + 1) 49 #[.map (some b)] := by
    rw [← hW0]
    have := Blk.new ((w.alloc (.cells #[.string name] 9)).alloc (.cells #[.slice none 0 0] 40)) 49 #[.map (some b)]
    rwa [World.size_alloc, World.size_alloc] at this
  rw [hW0]
  have hI0 := hI.next hb0
  obtain ⟨Ls, hLs⟩ : ∃ Ls, D.map (·.1) = Ls := ⟨_, rfl⟩
  have hkeys : kvs.map (·.1) = Ls.map keysLE := by
    rw [← hLs, List.map_map]
    exact hI.have_.keys
  have hLl : Ls.length ≤ 3000 := by rw [← hLs, List.length_map]; exact hD
  have HLs := Lib.hid hLs
  clear hW0 hLs hI hobj g1 hN hlt hD
  refine wpIn_rangeFunc_ownH rfl (by decide) (gf := 45) (lb := #[.pointer (some ⟨w.heap.size + 1 + 1, 0, none⟩)]) rfl trivial (enters_of Try.func45 (by kernel_rfl) rfl)
    (keysL_stops 8 (by decide) (w.heap.size + 1 + 1) b es clock kvs Ls hkeys hI0.shape W0 (by omega) (kM.cell 0) hI0.mp) walksK_t walksK_b (Below.refl _ _) (fun _ => rfl)
    (fun pre W => (∃ v, Boxed W (w.heap.size + 1) 40 v ∧ W.ownsRow (w.heap.size + 1) 9 1 v (valsOf name pre).length (strCs (valsOf name pre)) ∧ True) ∧ Below (w.heap.size + 1) W0 W)
    (fun _ _ _ => False)
    (OwnFrom.and (Own.from (holdsRow_own (w.heap.size + 1) (w.heap.size + 1) 40 9 1 (fun pre => (valsOf name pre).length) (fun pre => strCs (valsOf name pre)) (fun _ _ => True)) _) (ownFrom_below (by omega) (by omega)))
    (fun _ _ _ _ _ hs _ _ => hs)
    ⟨⟨_, kO, World.ownsRow_nil _ _ _ _, trivial⟩, Below.refl _ _⟩
    (fun x a' W => ∃ Bx, w.heap.size + 1 < Bx ∧ Blk W Bx 55 #[.string x.nm, .string x.v] ∧ a' = { tmps := #[.pointer (some ⟨g, 0, none⟩), .string name, undef, .pointer (some ⟨w.heap.size, 0, none⟩), .slice none 0 0, .pointer (some ⟨w.heap.size + 1, 0, none⟩), .pointer (some ⟨Bx, 0, none⟩), .pointer (some ⟨g, 0, none⟩), .pointer (some ⟨g, 0, none⟩), .pointer (some ⟨g, 1, none⟩), .map (some b), .func (.func 45) #[] #[.pointer (some ⟨w.heap.size + 1 + 1, 0, none⟩)], .agg #[.string x.nm, .string x.v], undef, undef, undef, undef, undef, undef, undef, undef, undef, undef, undef, undef], defers := [] })
    (fun x a' => Own.from (fun (_ : Unit) X Y row hs hg hrow => by
      obtain ⟨Bx, h1, h2, h3⟩ := hs
      exact ⟨Bx, h1, h2.grown hg (fun e => by obtain ⟨o, ho, hc⟩ := hrow Bx e.symm; unfold Blk at h2; rw [h2] at ho; cases ho; cases hc), h3⟩) _)
    ?assign ?body ?done ?stop
  case assign =>
    rintro l pre x W K ⟨⟨v, hv, hrow, _⟩, hB⟩ hK
    have hs := hB.size
    dsimp only [keysLE]
    gi_wp2
    exact hK _ _ ((KeepsOthers.alloc _ _).from _) (KeepsWalks.alloc _ _) ⟨⟨v, hv.alloc _, hrow.alloc _, trivial⟩, hB.alloc (by omega) _⟩ ⟨W.heap.size, by omega, Blk.new _ _ _, rfl⟩
  case body =>
    rintro l pre x a' W hl ⟨r, hr⟩ ⟨⟨v, hv, hrow, _⟩, hB⟩ ⟨Bx, hBx, bX, rfl⟩ hlt
    have c0 : W.cell? ⟨Bx, 0, none⟩ = some (.string x.nm) := bX.cell 0
    have c1 : W.cell? ⟨Bx, 1, none⟩ = some (.string x.v) := bX.cell 1
    have cO := hv.cell
    have cN : W.cell? ⟨w.heap.size, 0, none⟩ = some (.string name) := (hB.cell (p := ⟨w.heap.size, 0, none⟩) (by show w.heap.size < _; omega)).trans (kN.cell 0)
    have hE := nameE x.nm name
    have hBs := hB.size
    have hvl : (valsOf name pre).length ≤ pre.length := by unfold valsOf; rw [List.length_map]; exact List.length_filter_le _ _
    by_cases hx : x.nm = name
    · rw [decide_eq_true hx] at hE
      have hst : valsOf name (pre ++ [x]) = valsOf name pre ++ [x.v] := by unfold valsOf; rw [List.filter_append, List.map_append]; simp [hx]
      have Hst := Lib.hid hst
      obtain ⟨i0, hi, hz0, hz1, hz2⟩ := info_parts infoStrV
      obtain ⟨k, hk⟩ : ∃ k, (valsOf name pre).length = k := ⟨_, rfl⟩
      rw [hk] at hrow hvl
      have Hk := Lib.hid hk
      clear hx hst hk bX
      gi_wp2_with (gi_at_builtin; refine wpListIn_append_own _ rfl _ _ 40 rfl (w.heap.size + 1) 9 i0 (.string ⟨#[]⟩) 1 16 Try.underlying40 hi hz0 hz1 hz2 rfl (by decide) _ _ _ rfl (hrow.alloc _) ⟨W.heap.size, 0, none⟩ 1 1 [.string x.v] rfl rfl (cell_one_new _ _ _) (by simp [Value.oneCell']) (by unfold maxLen; omega) (by omega) (by simp; omega) ?_; intro v' w1 hown' hgrow _; obtain ⟨g', cap', rfl⟩ := ownsRow_succ hown'; obtain ⟨hv1, hv2, hr2, hk2, hb2⟩ := hv.appended (by decide) hrow (by omega) (Nat.le_refl _) hown' hgrow; have hc1 := hv1.cell; have hf1 := hv1.frozen)
      have hrw : strCs (valsOf name (pre ++ [x])) = strCs (valsOf name pre) ++ [.string x.v] := by rw [Hst.out]; unfold strCs; rw [List.flatMap_append]; rfl
      have hln : (valsOf name (pre ++ [x])).length = k + 1 := by rw [Hst.out, List.length_append, Hk.out]; rfl
      exact ⟨hk2.from _, hk2.walks, ⟨⟨_, hv2, by rw [hrw, hln]; exact hr2, trivial⟩, hB.trans hb2⟩⟩
    · rw [decide_eq_false hx] at hE
      have hst : valsOf name (pre ++ [x]) = valsOf name pre := by unfold valsOf; rw [List.filter_append, List.map_append]; simp [hx]
      have Hst := Lib.hid hst
      clear hx hst bX
      gi_wp2
      exact ⟨KeepsFrom.refl _ _, KeepsWalks.refl _, ⟨⟨v, hv, by rw [Hst.out]; exact hrow, trivial⟩, hB⟩⟩
  case done =>
    rintro D ys W hD hys ⟨⟨v, hv, hrow, _⟩, hB⟩ hK
    have hBs := hB.size
    have hcv := hv.cell
    obtain ⟨k, hk⟩ : ∃ k, (valsOf name ys).length = k := ⟨_, rfl⟩
    have hk3 : k ≤ 3000 := by
      have h1 := hys.length_eq
      have h2 : (valsOf name ys).length ≤ ys.length := by unfold valsOf; rw [List.length_map]; exact List.length_filter_le _ _
      omega
    rw [hk] at hrow
    obtain ⟨A5, c5, rfl, _⟩ := own_form hrow
    have HS := Lib.hid (sortS_any (valsOf name ys) hk (by omega) W hrow)
    have hneO := own_row_ne hv hrow (by decide)
    have hneD : some D ≠ (Value.slice A5 k c5).ownBlock := fun e => by
      obtain ⟨cs, hc⟩ := own_kind hrow D e.symm
      rw [hK] at hc; cases hc
    have hbelW := fun (w3 : World) (hg : W.grownBy w3 (Value.slice A5 k c5).ownBlock) => grown_below hrow hg (by omega)
    have hDl := (Array.getElem?_eq_some_iff.1 hK).1
    have Hk := Lib.hid hk
    clear hk hrow
    gi_wp2_with (refine ⟨trivial, ?_⟩; gi_at_call 31; refine (callsIn_wide.2 HS.out).mono ?_; rintro e w3 ⟨rfl, hown3, hg3⟩; have hv3 := Blk.grown (cs := #[.slice A5 k c5]) hv hg3 hneO; have hcv3 := hv3.cell 0; have hK3 := (hg3.block D hDl hneD).trans hK; have hb3 := hbelW w3 hg3)
    refine ⟨by simp, .inl ⟨_, _, rfl, run_takeDeferred hK3, ?_⟩⟩
    refine ⟨_, results_tmp rfl _ _ _, RV.mk ⟨A5, k, c5, ys, rfl, by rw [HLs.out]; exact hys, Hk.out, ?_, ?_⟩⟩
    · exact own_less (ownsRow_putObj hown3 _ hK3 rfl) (by omega)
    · exact hb0.trans (((hB.trans hb3).mono (by omega)).trans (belowK_b (w := w) (Nat.le_refl _) w3 D _ _ (by omega) hK3 rfl rfl))
  case stop =>
    rintro D c pre W _ _ h _
    exact h.elim
end Go.Proofs.Ytmfndpkhcejffaa
