/- Texts of the proof of ExprOne, joined (by merge.py). Conditions: each theorem's own hypotheses. -/
import Derived.Test.YtnicbhmeigpjkaaGreatDoorExprOneP1
import Derived.Test.YtnicbhmeigpjkaaGreatDoorExprOneP22
import Derived.Test.YtnicbhmeigpjkaaGreatDoorExprOneP31
import Derived.Test.YtnicbhmeigpjkaaGreatDoorExprOneP32
import Derived.Deep.CutRange
import Derived.Defers
import Derived.Recover
import Derived.Laws.Pointers
namespace Go.Proofs.YtnicbhmeigpjkaaGreatDoor
open Go.RowKit

/-! ### how much is read -/
theorem cutP_le {p s r : List UInt8} (h : cutP p s = some r) : r.length + p.length = s.length := by
  obtain ⟨h1, h2⟩ := cutP_yes h
  have := hasPrefix_leO h1
  unfold Lib.trimPrefix at h2
  rw [if_pos h1] at h2
  rw [← h2, List.length_drop]
  omega
theorem kwP_le : ∀ {ks : List Int} {s : List UInt8} {k : Int × List UInt8}, kwP ks s = some k → k.2.length ≤ s.length
  | [], _, _, h => by cases h
  | j :: ks, s, k, h => by
    unfold kwP at h
    split at h
    · rename_i r hr
      injection h with h
      rw [← h]
      have := cutP_le hr
      simp only []
      omega
    · exact kwP_le h
theorem index_leX (s sub : List UInt8) (h : 0 ≤ Lib.index s sub) : Lib.index s sub ≤ s.length := by
  have := Lib.index_room s sub h
  omega
theorem untilP_le {c : UInt8} {s a r : List UInt8} (h : untilP c s = some (a, r)) : r.length ≤ s.length ∧ a.length ≤ s.length := by
  have h1 := untilP_yes h
  unfold Lib.cut at h1
  split at h1
  · injection h1 with h2 h3
    injection h3 with h3 _
    rw [← h2, ← h3, List.length_drop, List.length_take]
    omega
  · injection h1 with _ h3
    injection h3 with _ h3
    cases h3
theorem byP_le {s : List UInt8} {b : List ByteArray × List UInt8} (h : byP s = some b) : b.2.length ≤ s.length := by
  unfold byP at h
  split at h
  · rename_i r hr
    cases hu : untilP 40 r with
    | none => rw [hu] at h; cases h
    | some u =>
      rw [hu] at h
      injection h with h
      rw [← h]
      have h1 := cutP_le hr
      have h2 := (untilP_le (a := u.1) (r := u.2) hu).1
      simp only []
      omega
  · cases hc : cutP [40] s with
    | none => rw [hc] at h; cases h
    | some r =>
      rw [hc] at h
      injection h with h
      rw [← h]
      have := cutP_le hc
      simp only []
      omega
theorem braceI_lt : ∀ (n : Nat) (q : Bool) (l : List Nat) (i : Nat), l.length ≤ n → braceI q l = some i → i < l.length
  | _, q, [], i, _, h => by rw [braceI_end] at h; cases h
  | 0, q, c :: l, i, hn, h => by simp at hn
  | n + 1, q, c :: l, i, hn, h => by
    rw [List.length_cons] at hn ⊢
    by_cases h1 : c = 92
    · rw [h1, braceI_esc] at h
      cases hb : braceI q (l.drop 1) with
      | none => rw [hb] at h; cases h
      | some j =>
        rw [hb] at h
        simp only [Option.map_some, Option.some.injEq] at h
        have := braceI_lt n q (l.drop 1) j (by rw [List.length_drop]; omega) hb
        rw [List.length_drop] at this
        omega
    · by_cases h2 : c = 34
      · rw [h2, braceI_q] at h
        cases hb : braceI (!q) l with
        | none => rw [hb] at h; cases h
        | some j =>
          rw [hb] at h
          simp only [Option.map_some, Option.some.injEq] at h
          have := braceI_lt n (!q) l j (by omega) hb
          omega
      · by_cases h3 : c = 125 ∧ q = false
        · obtain ⟨h3, h4⟩ := h3
          rw [h3, h4, braceI_hit] at h
          injection h with h
          omega
        · rw [braceI_go q c l h1 h2 h3] at h
          cases hb : braceI q l with
          | none => rw [hb] at h; cases h
          | some j =>
            rw [hb] at h
            simp only [Option.map_some, Option.some.injEq] at h
            have := braceI_lt n q l j (by omega) hb
            omega
theorem braceP_le {s : List UInt8} {t : List UInt8 × List UInt8} (h : braceP s = some t) : ∃ i, braceI false (s.map (·.toNat)) = some i ∧ i < s.length ∧ t = (s.take (i + 1), s.drop (i + 1)) := by
  unfold braceP at h
  cases hb : braceI false (s.map (·.toNat)) with
  | none => rw [hb] at h; cases h
  | some i =>
    rw [hb] at h
    injection h with h
    have := braceI_lt _ false _ i (Nat.le_refl _) hb
    rw [List.length_map] at this
    exact ⟨i, rfl, this, h.symm⟩
theorem numP_nil : numP [] = none := rfl
theorem leafP_le {s : List UInt8} {e : ExE} {r : List UInt8} (h : leafP s = some (e, r)) : e.cnt + r.length ≤ s.length := by
  unfold leafP at h
  split at h
  · cases hb : braceP s with
    | none => rw [hb] at h; cases h
    | some t =>
      rw [hb] at h
      simp only [Option.bind_some] at h
      obtain ⟨i, _, hi, ht⟩ := braceP_le hb
      split at h
      · cases h
      · cases hc : cutP [91] t.2 with
        | none => rw [hc] at h; cases h
        | some r1 =>
          rw [hc] at h
          simp only [Option.bind_some] at h
          cases hu : untilP 93 r1 with
          | none => rw [hu] at h; cases h
          | some u =>
            rw [hu] at h
            simp only [Option.bind_some] at h
            cases hn : numP u.1 with
            | none => rw [hn] at h; cases h
            | some n =>
              rw [hn] at h
              simp only [Option.map_some] at h
              injection h with h
              injection h with h1 h2
              have c1 := cutP_le hc
              have c2 := (untilP_le (a := u.1) (r := u.2) hu).1
              rw [ht] at c1
              simp only [List.length_drop, List.length_singleton] at c1
              rw [← h1, ← h2]
              show 1 + u.2.length ≤ _
              omega
  · cases hn : numP (s.take (numI s)) with
    | none => rw [hn] at h; cases h
    | some n =>
      rw [hn] at h
      simp only [Option.map_some] at h
      injection h with h
      injection h with h1 h2
      rw [← h1, ← h2, List.length_drop]
      show 1 + _ ≤ _
      have h3 : numI s ≠ 0 := fun e => by rw [e, List.take_zero, numP_nil] at hn; cases hn
      have h4 : numI s ≤ s.length := (List.takeWhile_sublist _).length_le
      omega
theorem rdX_open {f : Nat} {s s1 : List UInt8} (h : cutP [40] s = some s1) : rdX (f + 1) s = (rdX f s1).bind fun a => (kwP [6, 7, 8] a.2).bind fun k => (rdX f k.2).bind fun b => (cutP [41] b.2).map fun r => (bx k.1 0 0 [] [] [a.1, b.1], r) := by
  rw [rdX, h]
theorem rdX_word {f : Nat} {s : List UInt8} {k : Int × List UInt8} (h : cutP [40] s = none) (hk : kwP [3, 4, 5] s = some k) : rdX (f + 1) s = (byP k.2).bind fun b => (rdX f b.2).bind fun y => (cutP [41] y.2).map fun r => (bx k.1 0 0 [] b.1 [y.1], r) := by
  rw [rdX, h]
  simp only []
  rw [hk]
theorem rdX_leaf {f : Nat} {s : List UInt8} (h : cutP [40] s = none) (hk : kwP [3, 4, 5] s = none) : rdX (f + 1) s = leafP s := by
  rw [rdX, h]
  simp only []
  rw [hk]
theorem rdX_le : ∀ (f : Nat) (s : List UInt8) (e : ExE) (r : List UInt8), rdX f s = some (e, r) → e.cnt + r.length ≤ s.length
  | 0, _, _, _, h => by cases h
  | f + 1, s, e, r, h => by
    cases hc : cutP [40] s with
    | some s1 =>
      rw [rdX_open hc] at h
      have c0 := cutP_le hc
      cases ha : rdX f s1 with
      | none => rw [ha] at h; cases h
      | some a =>
        rw [ha] at h
        simp only [Option.bind_some] at h
        have c1 := rdX_le f s1 a.1 a.2 ha
        cases hk : kwP [6, 7, 8] a.2 with
        | none => rw [hk] at h; cases h
        | some k =>
          rw [hk] at h
          simp only [Option.bind_some] at h
          have c2 := kwP_le hk
          cases hb : rdX f k.2 with
          | none => rw [hb] at h; cases h
          | some b =>
            rw [hb] at h
            simp only [Option.bind_some] at h
            have c3 := rdX_le f k.2 b.1 b.2 hb
            cases hd : cutP [41] b.2 with
            | none => rw [hd] at h; cases h
            | some r' =>
              rw [hd] at h
              simp only [Option.map_some] at h
              injection h with h
              injection h with h1 h2
              have c4 := cutP_le hd
              rw [← h1, ← h2]
              show 1 + (a.1.cnt + (b.1.cnt + 0)) + _ ≤ _
              simp only [List.length_singleton] at c0 c4
              omega
    | none =>
      cases hk : kwP [3, 4, 5] s with
      | some k =>
        rw [rdX_word hc hk] at h
        have c0 : k.2.length + 3 ≤ s.length := by
          have h3 : (wB 3).length = 3 := rfl
          have h4 : (wB 4).length = 3 := rfl
          have h5 : (wB 5).length = 5 := rfl
          simp only [kwP] at hk
          split at hk
          · rename_i r1 hr
            injection hk with hk
            rw [← hk]
            have := cutP_le hr
            simp only []
            omega
          · split at hk
            · rename_i r1 hr
              injection hk with hk
              rw [← hk]
              have := cutP_le hr
              simp only []
              omega
            · split at hk
              · rename_i r1 hr
                injection hk with hk
                rw [← hk]
                have := cutP_le hr
                simp only []
                omega
              · cases hk
        cases hb : byP k.2 with
        | none => rw [hb] at h; cases h
        | some b =>
          rw [hb] at h
          simp only [Option.bind_some] at h
          have c1 := byP_le hb
          cases hy : rdX f b.2 with
          | none => rw [hy] at h; cases h
          | some y =>
            rw [hy] at h
            simp only [Option.bind_some] at h
            have c2 := rdX_le f b.2 y.1 y.2 hy
            cases hd : cutP [41] y.2 with
            | none => rw [hd] at h; cases h
            | some r' =>
              rw [hd] at h
              simp only [Option.map_some] at h
              injection h with h
              injection h with h1 h2
              have c4 := cutP_le hd
              rw [← h1, ← h2]
              show 1 + (y.1.cnt + 0) + _ ≤ _
              omega
      | none =>
        rw [rdX_leaf hc hk] at h
        exact leafP_le h
/-! ### where rows lie -/
/-- all rows lie from block B on -/
inductive ExE.Up (B : Nat) : ExE → Prop
  | mk {e : ExE} : (∀ a, e.ma = some a → B ≤ a.block) → (∀ a, e.ba = some a → B ≤ a.block) → (∀ a, e.xa = some a → B ≤ a.block) → (∀ y ∈ e.x, ExE.Up B y) → ExE.Up B e
theorem ExE.Up.sub {B : Nat} {e : ExE} (h : e.Up B) : ∀ y ∈ e.x, y.Up B := by cases h with | mk _ _ _ h => exact h
theorem ExE.Up.less {B B' : Nat} (hB : B' ≤ B) : ∀ e : ExE, e.Up B → e.Up B' :=
  ExE.induct fun e ih h => by
    cases h with | mk h1 h2 h3 h4 => exact .mk (fun a ha => Nat.le_trans hB (h1 a ha)) (fun a ha => Nat.le_trans hB (h2 a ha)) (fun a ha => Nat.le_trans hB (h3 a ha)) (fun y hy => ih y hy (h4 y hy))
/-- blocks from B on stay -/
structure From (B : Nat) (w w' : World) : Prop where
  size : w.heap.size ≤ w'.heap.size
  block : ∀ k, B ≤ k → k < w.heap.size → w'.heap[k]? = w.heap[k]?
theorem From.trans {B : Nat} {a b c : World} (h : From B a b) (k : From B b c) : From B a c := ⟨Nat.le_trans h.size k.size, fun i h1 h2 => (k.block i h1 (Nat.lt_of_lt_of_le h2 h.size)).trans (h.block i h1 h2)⟩
theorem From.of {B : Nat} {w w' : World} (h : Below w.heap.size w w') : From B w w' := ⟨h.size, fun k _ hk => h.block k hk⟩
theorem From.but {B r : Nat} {w w' : World} (h : But r w w') (hr : r < B) : From B w w' := ⟨h.size, fun k h1 hk => h.block k hk (by omega)⟩
theorem From.set {B g : Nat} (w : World) (i : Nat) (u : Value) (hg : g < B) : From B w (w.setCell ⟨g, i, none⟩ u) := ⟨by simp [World.setCell], fun k h1 _ => Below.heap_setCell _ _ _ _ (by show k ≠ g; omega)⟩
theorem Has.from {B : Nat} {w w' : World} {A : Option Addr} {xs : List Value} (h : Has w w.heap.size A xs) (hn : ∀ a, A = some a → B ≤ a.block) (hb : From B w w') : Has w' w'.heap.size A xs := fun hne => by
  obtain ⟨ad, e, h1, h2⟩ := h hne
  exact ⟨ad, e, Nat.lt_of_lt_of_le h1 hb.size, fun j u hu => (World.cell?_of_block (w := w) (hb.block _ (by rw [add_block]; exact hn ad e) (by rw [add_block]; exact h1))).trans (h2 j u hu)⟩
theorem ExE.G.from {B : Nat} {w w' : World} (hb : From B w w') : ∀ e : ExE, e.G w → e.Up B → e.G w' :=
  ExE.induct fun e ih h u => by
    cases u with | mk u1 u2 u3 u4 => exact .mk { h.own with mh := h.own.mh.from u1 hb, bh := h.own.bh.from u2 hb, xh := h.own.xh.from u3 hb } fun y hy => ih y hy (h.sub y hy) (u4 y hy)
theorem But.setNew {r g i : Nat} {w W : World} (h : But r w W) (hg : w.heap.size ≤ g) (u : Value) : But r w (W.setCell ⟨g, i, none⟩ u) :=
  ⟨h.os, h.tape, h.output, by simp [World.setCell]; exact h.size, fun k hk hn => (Below.heap_setCell _ _ _ _ (by show k ≠ g; omega)).trans (h.block k hk hn)⟩
theorem RdW.setNew {w0 w : World} {s : ByteArray} (h : RdW w0 w s) {g : Nat} (hg : w0.heap.size < g) (i : Nat) (u : Value) : RdW w0 (w.setCell ⟨g, i, none⟩ u) s :=
  ⟨h.below.setCell (Nat.le_of_lt hg) u, (Below.heap_setCell _ _ _ _ (by show w0.heap.size ≠ g; omega)).trans h.cell⟩
/-- what expr gives -/
def RdE (w0 w : World) (o : Option (ExE × List UInt8)) (e : Ending) (w' : World) : Prop :=
  match o with
  | some x => ∃ (y : ExE) (s' : ByteArray), e = .returned (exV y) ∧ bl s' = x.2 ∧ y.bare = x.1 ∧ y.G w' ∧ y.Up w.heap.size ∧ RdW w0 w' s' ∧ But w0.heap.size w w'
  | none => RP w0 w e w'
/-! ### an expression is stored -/
abbrev sto6 (W : World) (q : Nat) (v0 v1 v2 v3 v4 v5 : Value) : World := (((((W.setCell ⟨q, 0, none⟩ v0).setCell ⟨q, 1, none⟩ v1).setCell ⟨q, 2, none⟩ v2).setCell ⟨q, 3, none⟩ v3).setCell ⟨q, 4, none⟩ v4).setCell ⟨q, 5, none⟩ v5
theorem sto6_blk {W : World} {q : Nat} {t : TypeId} {a0 a1 a2 a3 a4 a5 : Value} (h : Blk W q t #[a0, a1, a2, a3, a4, a5]) (v0 v1 v2 v3 v4 v5 : Value) : Blk (sto6 W q v0 v1 v2 v3 v4 v5) q t #[v0, v1, v2, v3, v4, v5] := (((((h.set 0 v0).set 1 v1).set 2 v2).set 3 v3).set 4 v4).set 5 v5
theorem sto6_from {B : Nat} {W : World} {q : Nat} (hq : q < B) (v0 v1 v2 v3 v4 v5 : Value) : From B W (sto6 W q v0 v1 v2 v3 v4 v5) :=
  (((((From.set W 0 v0 hq).trans (From.set _ 1 v1 hq)).trans (From.set _ 2 v2 hq)).trans (From.set _ 3 v3 hq)).trans (From.set _ 4 v4 hq)).trans (From.set _ 5 v5 hq)
theorem sto6_but {r : Nat} {w W : World} {q : Nat} (h : But r w W) (hq : w.heap.size ≤ q) (v0 v1 v2 v3 v4 v5 : Value) : But r w (sto6 W q v0 v1 v2 v3 v4 v5) :=
  (((((h.setNew hq v0).setNew hq v1).setNew hq v2).setNew hq v3).setNew hq v4).setNew hq v5
theorem sto6_rdw {w0 W : World} {s : ByteArray} {q : Nat} (h : RdW w0 W s) (hq : w0.heap.size < q) (v0 v1 v2 v3 v4 v5 : Value) : RdW w0 (sto6 W q v0 v1 v2 v3 v4 v5) s :=
  (((((h.setNew hq 0 v0).setNew hq 1 v1).setNew hq 2 v2).setNew hq 3 v3).setNew hq 4 v4).setNew hq 5 v5
theorem Blk.from {B g : Nat} {w w' : World} {t : TypeId} {cs : Array Value} (h : Blk w g t cs) (hg : B ≤ g) (hb : From B w w') : Blk w' g t cs := (hb.block g hg h.lt).trans h
theorem kidE_bare (k : Int) (b : List ByteArray) (g : Nat) (x : List ExE) (A : Option Addr) (c : Nat) : (kidE k A c b g x).bare = bx k 0 0 [] b (x.map ExE.bare) := by
  unfold kidE bx
  simp only [ExE.bare, ExE.bareL_map]
theorem take_any (w0 w : World) (s p : ByteArray) (hR : RdW w0 w s) : ∃ (b : Bool) (s' : ByteArray), ((b = true ∧ cutP (bl p) (bl s) = some (bl s')) ∨ (b = false ∧ cutP (bl p) (bl s) = none ∧ s' = s)) ∧
    Calls Tryz.prog 65 #[.pointer (some ⟨w0.heap.size, 0, none⟩), .string p] w (RT (.bool b) w0 w s') := by
  cases h : cutP (bl p) (bl s) with
  | some r => exact ⟨true, ⟨r.toArray⟩, .inl ⟨rfl, by rw [bl_arr]⟩, take_yes w0 w s p r hR h⟩
  | none => exact ⟨false, s, .inr ⟨rfl, rfl, rfl⟩, take_no w0 w s p hR h⟩
/-! ### names that are split -/
theorem splitB_small (sep : ByteArray) : ∀ (k : Nat) (s : ByteArray), ∀ x ∈ Lib.splitB sep 0 k s, x.size ≤ s.size
  | 0, s, x, h => by rw [Lib.splitB_zero] at h; rw [List.mem_singleton.1 h]; exact Nat.le_refl _
  | k + 1, s, x, h => by
    unfold Lib.splitB at h
    split at h
    · rw [List.mem_singleton.1 h]; exact Nat.le_refl _
    · rcases List.mem_cons.1 h with rfl | h
      · rw [ByteArray.size_extract]; omega
      · have := splitB_small sep k _ x h
        rw [ByteArray.size_extract] at this
        omega
def bySp (s : ByteArray) : List ByteArray := Lib.splitB ⟨#[44]⟩ 0 (Lib.countB s ⟨#[44]⟩) s
theorem bySp_eq (s : ByteArray) : bySp s = (Lib.split (bl s) [44]).map (fun l => ⟨l.toArray⟩) := by
  unfold bySp Lib.split
  have h := Lib.splitB_data ⟨#[44]⟩ 0 (Lib.countB s ⟨#[44]⟩) s
  have e : Lib.splitK [44] 0 (Lib.count (bl s) [44]) (bl s) = (Lib.splitB ⟨#[44]⟩ 0 (Lib.countB s ⟨#[44]⟩) s).map (·.data.toList) := h.symm
  rw [e, List.map_map]
  exact ((List.map_congr_left (g := id) fun x _ => bl_ext rfl).trans (List.map_id _)).symm
theorem bySp_len (s : ByteArray) : (bySp s).length = Lib.countB s ⟨#[44]⟩ + 1 := Lib.splitB_all ⟨#[44]⟩ (by decide) 0 _ s rfl
theorem bySp_le (s : ByteArray) : (bySp s).length ≤ s.size + 1 := by
  rw [bySp_len]
  have := Lib.countB_le ⟨#[44]⟩ (by decide) s.size s (Nat.le_refl _)
  omega
theorem strCs_strs (l : List ByteArray) : strCs l = l.map Value.string := by
  unfold strCs
  induction l with
  | nil => rfl
  | cons x l ih => rw [List.flatMap_cons, ih]; rfl
/-- strings.Split at a comma -/
theorem split_any (s : ByteArray) (hs : s.size < 4294967281) (w : World) (tL : LenAt w) :
    Calls Tryz.prog 67 #[.string s, .string ⟨#[44]⟩] w (R1 (.slice (some ⟨w.heap.size, 0, none⟩) (bySp s).length (bySp s).length) (fun w' => Below w.heap.size w w' ∧ Has w' w'.heap.size (some ⟨w.heap.size, 0, none⟩) (strCs (bySp s)))) := by
  obtain ⟨m, hm⟩ := tL
  refine (Tryz.strings_Split s ⟨#[44]⟩ m w hs hm (by decide)).mono ?_
  rintro e w' ⟨rfl, rfl⟩
  refine R1.mk (by rw [bySp_len]) ⟨one_allocB _ _, ?_⟩
  have := Has.of_blk (Blk.new w 9 ((bySp s).map Value.string).toArray)
  rw [strCs_strs]
  exact this
/-! ### numbers at the front -/
def notNum (x : Nat) : Bool := decide (x ≠ 45 ∧ (x < 48 ∨ 57 < x))
theorem numCh_not (c : UInt8) : numCh c = !notNum c.toNat := by
  unfold numCh notNum
  rw [← decide_not]
  congr 1
  apply propext
  omega
theorem idxFrom_num (s : ByteArray) : ∀ (f pos : Nat), s.size ≤ pos + f → (if Lib.idxFuncFrom notNum true s f pos < 0 then (s.size : Int) else Lib.idxFuncFrom notNum true s f pos) = (pos + min (s.size - pos) (((bl s).drop pos).takeWhile numCh).length : Nat) ∨ s.size < pos
  | 0, pos, h => by
    by_cases hp : s.size < pos
    · exact .inr hp
    · left
      have : pos = s.size := by omega
      subst this
      unfold Lib.idxFuncFrom
      rw [if_pos (by decide), Nat.sub_self]
      simp
  | f + 1, pos, h => by
    by_cases hp : pos < s.size
    · left
      unfold Lib.idxFuncFrom
      rw [if_pos hp]
      have hd : (bl s).drop pos = s[pos] :: (bl s).drop (pos + 1) := by
        rw [List.drop_eq_getElem_cons (by rw [bl_len]; exact hp)]
        rfl
      rw [hd, List.takeWhile_cons, numCh_not]
      by_cases hc : (s[pos]'hp).toNat < 128
      · rw [decode_ascii s pos hp hc]
        simp only []
        cases hn : notNum (s[pos]'hp).toNat with
        | true =>
          rw [if_pos rfl, if_neg (by omega)]
          simp
        | false =>
          simp only [Bool.false_eq_true, if_false, Bool.not_false, if_true, List.length_cons]
          rcases idxFrom_num s f (pos + 1) (by omega) with h1 | h1
          · rw [h1]
            congr 1
            omega
          · omega
      · obtain ⟨h1, _⟩ := decode_high s pos hp (by omega)
        have hn : notNum (Utf8.decode s pos).1 = true := by unfold notNum; rw [decide_eq_true_eq]; omega
        have hn2 : notNum (s[pos]'hp).toNat = true := by unfold notNum; rw [decide_eq_true_eq]; omega
        rw [if_pos hn, if_neg (by omega), hn2]
        simp
    · by_cases hq : s.size < pos
      · exact .inr hq
      · left
        have : pos = s.size := by omega
        subst this
        rw [Lib.idxFuncFrom_end _ _ _ _ _ (by omega), if_pos (by decide), Nat.sub_self]
        simp
theorem idx_num (s : ByteArray) : (if Lib.idxFunc notNum true s < 0 then (s.size : Int) else Lib.idxFunc notNum true s) = (numI (bl s) : Int) := by
  rcases idxFrom_num s s.size 0 (by omega) with h | h
  · unfold Lib.idxFunc
    rw [h, List.drop_zero]
    unfold numI
    have : ((bl s).takeWhile numCh).length ≤ (bl s).length := (List.takeWhile_sublist _).length_le
    rw [bl_len] at this
    congr 1
    omega
  · omega
set_option maxRecDepth 1000000 in
set_option maxHeartbeats 4000000 in
theorem rdFn_any (x : Nat) (w : World) : Calls Tryz.prog 73 #[.int .i32 (x : Int)] w (R1 (.bool (notNum x)) (fun w' => w' = w)) := by
  have hv : Value.bool (notNum x) = Value.bool ((x : Int) != 45 && (decide ((x : Int) < 48) || decide (57 < (x : Int)))) := by
    congr 1
    unfold notNum
    rw [Bool.eq_iff_iff]
    simp only [decide_eq_true_eq, Bool.and_eq_true, bne_iff_ne, Bool.or_eq_true]
    omega
  obtain ⟨r, hr⟩ : ∃ r, Value.bool (notNum x) = r := ⟨_, rfl⟩
  rw [hr] at hv ⊢
  replace hv := Lib.hid hv
  clear hr
  by_cases h1 : (x : Int) = 45
  · have d1 : ((x : Int) != 45) = false := by rw [h1]; rfl
    rw [d1] at hv
    go_enter Tryz.func73, Tryz.ntmps73
    go_wp2_with fail
    go_ret
    exact R1.mk (by rw [hv.out]; rfl) rfl
  · have d1 : ((x : Int) != 45) = true := by rw [bne_iff_ne]; exact h1
    rw [d1] at hv
    by_cases h2 : (x : Int) < 48
    · have d2 : decide ((x : Int) < 48) = true := decide_eq_true h2
      rw [d2] at hv
      go_enter Tryz.func73, Tryz.ntmps73
      go_wp2_with fail
      go_ret
      exact R1.mk (by rw [hv.out]; rfl) rfl
    · have d2 : decide ((x : Int) < 48) = false := decide_eq_false h2
      rw [d2] at hv
      go_enter Tryz.func73, Tryz.ntmps73
      go_wp2_with fail
      go_ret
      exact R1.mk (by rw [hv.out]; rfl) rfl
/-- how many signs of a number stand at the front -/
theorem idxNum_any (s : ByteArray) (w : World) : Calls Tryz.prog 72 #[.string s, .func (.func 73) #[] #[]] w (fun e w' => e = .returned (.int .i64 (Lib.idxFunc notNum true s)) ∧ Below w.heap.size w w') :=
  Tryz.strings_IndexFunc_runes 73 #[] (fun _ _ => by kernel_rfl) notNum s w (fun W x _ _ => (rdFn_any x W).mono (fun e w' h => by
    obtain ⟨rfl, rfl⟩ := h
    exact ⟨rfl, 0, rfl⟩))
end Go.Proofs.YtnicbhmeigpjkaaGreatDoor
namespace Go.Proofs.YtnicbhmeigpjkaaGreatDoor
open Go.RowKit

theorem RdE.no {w0 w w' : World} {o : Option (ExE × List UInt8)} (h : o = none) (h1 : Below w0.heap.size w0 w') (h2 : But w0.heap.size w w') : RdE w0 w o (.panicked PanB) w' := by
  rw [h]
  exact RP.mk h1 h2
theorem RdE.yes {w0 w w' : World} {o : Option (ExE × List UInt8)} {y : ExE} {s' : ByteArray} {v : Value} (h : o = some (y.bare, bl s')) (hv : v = exV y) (hG : y.G w') (hU : y.Up w.heap.size) (hR : RdW w0 w' s') (h2 : But w0.heap.size w w') : RdE w0 w o (.returned v) w' := by
  rw [h]
  exact ⟨y, s', by rw [hv], rfl, rfl, hG, hU, hR, h2⟩
def kwFrom (j : Nat) : List Int := if j = 6 then [6, 7, 8] else if j = 7 then [7, 8] else if j = 8 then [8] else if j = 3 then [3, 4, 5] else if j = 4 then [4, 5] else if j = 5 then [5] else []
theorem kwFrom_two : ∀ j, 6 ≤ j → j ≤ 8 → ∀ s, kwP (kwFrom j) s = match cutP (wB (j : Int)) s with | some r => some ((j : Int), r) | none => kwP (kwFrom (j + 1)) s
  | 6, _, _, _ => rfl
  | 7, _, _, _ => rfl
  | 8, _, _, s => by
    show kwP [8] s = _
    unfold kwP
    rfl
def RdIH (w0 : World) (f : Nat) : Prop := ∀ (w : World) (s : ByteArray), RdW w0 w s → s.size ≤ 4000 → Calls Tryz.prog 40 #[.pointer (some ⟨w0.heap.size, 0, none⟩), .int .i64 (f : Nat)] w (RdE w0 w (rdX f (bl s)))
set_option maxRecDepth 1000000 in
set_option maxHeartbeats 8000000 in
theorem xrd_zero (w0 : World) : RdIH w0 0 := by
  intro w s hR hs
  have hb := Lib.hid hR.below
  show Calls Tryz.prog 40 #[.pointer (some ⟨w0.heap.size, 0, none⟩), .int .i64 0] w (RP w0 w)
  obtain ⟨W1, hW1⟩ : ∃ W1, w.alloc (.cells #[.int .i64 0, .int .i64 0, .int .i64 0, .slice none 0 0, .slice none 0 0, .slice none 0 0] 28) = W1 := ⟨_, rfl⟩
  have hb1 : Below w.heap.size w W1 := by rw [← hW1]; exact one_allocB _ _
  have hend := Lib.hid (RP.mk (w0 := w0) (w := w) (hb.out.trans (hb1.mono hR.below.size)) (But.of hb1))
  have HW1 := Lib.hid hW1
  clear hW1 hb1 hR
  go_enter Tryz.func40, Tryz.ntmps40
  go_upto_region 1 with fail
  rw [HW1.out]
  go_wp2_with fail
  exact ⟨rfl, hend.out⟩
set_option maxRecDepth 1000000 in
set_option maxHeartbeats 8000000 in
theorem xrd_open (w0 : World) (tW : WdAt w0) (f : Nat) (hf : f < 100) (ih : RdIH w0 f) (w : World) (s : ByteArray) (hR : RdW w0 w s) (hs : s.size ≤ 4000) (s1 : List UInt8) (hc : cutP [40] (bl s) = some s1) :
    Calls Tryz.prog 40 #[.pointer (some ⟨w0.heap.size, 0, none⟩), .int .i64 ((f + 1 : Nat) : Int)] w (RdE w0 w (rdX (f + 1) (bl s))) := by
  obtain ⟨r0, hr0⟩ : ∃ r0, w0.heap.size = r0 := ⟨_, rfl⟩
  obtain ⟨n, hn⟩ : ∃ n : Int, ((f + 1 : Nat) : Int) = n := ⟨_, rfl⟩
  have hn0 : (n == 0) = false := by rw [beq_eq_false_iff_ne]; omega
  have hn1 : IntKind.i64.wrap (n - 1) = ((f : Nat) : Int) := by rw [IntWalk.i64_in _ (by omega)]; omega
  obtain ⟨W1, hW1⟩ : ∃ W1, w.alloc (.cells #[.int .i64 0, .int .i64 0, .int .i64 0, .slice none 0 0, .slice none 0 0, .slice none 0 0] 28) = W1 := ⟨_, rfl⟩
  obtain ⟨q4, hq4⟩ : ∃ q, w.heap.size = q := ⟨_, rfl⟩
  have hb1 : Below w.heap.size w W1 := by rw [← hW1]; exact one_allocB _ _
  have k4 : Blk W1 q4 28 #[.int .i64 0, .int .i64 0, .int .i64 0, .slice none 0 0, .slice none 0 0, .slice none 0 0] := by rw [← hW1]; exact Blk.newM _ _ _ _ hq4
  have hR1 := hR.next hb1
  have hB1 : But w0.heap.size w W1 := But.of hb1
  have hr4 : r0 < q4 := by rw [← hr0, ← hq4]; exact hR.size
  have hbw := hR.below
  rw [hn]
  obtain ⟨o, ho⟩ : ∃ o, rdX (f + 1) (bl s) = o := ⟨_, rfl⟩
  rw [ho]
  have HW1 := Lib.hid hW1
  have Hq4 := Lib.hid hq4
  replace k4 := Lib.hid k4
  replace hB1 := Lib.hid hB1
  replace hbw := Lib.hid hbw
  have Hr0 := Lib.hid hr0
  have HTake := Lib.hid (fun (w' : World) (s' p : ByteArray) (r : List UInt8) (h1 : RdW w0 w' s') (h2 : cutP (bl p) (bl s') = some r) => take_yes w0 w' s' p r h1 h2)
  have HTakeN := Lib.hid (fun (w' : World) (s' p : ByteArray) (h1 : RdW w0 w' s') (h2 : cutP (bl p) (bl s') = none) => take_no w0 w' s' p h1 h2)
  have HMust := Lib.hid (fun (w' : World) (s' p : ByteArray) (r : List UInt8) (h1 : RdW w0 w' s') (h2 : cutP (bl p) (bl s') = some r) => must_yes w0 w' s' p r h1 h2)
  have HMustN := Lib.hid (fun (w' : World) (s' p : ByteArray) (h1 : RdW w0 w' s') (h2 : cutP (bl p) (bl s') = none) => must_no w0 w' s' p h1 h2)
  have HI := Lib.hid ih
  unfold RdIH at HI
  rw [hr0] at HTake HTakeN HMust HMustN HI ⊢
  clear hW1 hq4 hb1 hn ih hR
  rw [rdX_open hc] at ho
  have HT := Lib.hid (HTake.out W1 s ⟨#[40]⟩ s1 hR1 hc)
  have hs1 : s1.length ≤ 4000 := by have := cutP_le hc; rw [bl_len] at this; omega
  have HI1 := fun (w' : World) (h : RdW w0 w' ⟨s1.toArray⟩) => HI.out w' ⟨s1.toArray⟩ h (by rw [← bl_len, bl_arr]; exact hs1)
  have e1 : bl ⟨s1.toArray⟩ = s1 := rfl
  rw [e1] at HI1
  replace HI1 := Lib.hid HI1
  clear hc hR1 e1
  go_enter Tryz.func40, Tryz.ntmps40
  go_upto_region 1 with fail
  rw [HW1.out, Hq4.out]
  go_wp2_with fail
  refine HT.out.mono ?_
  rintro e1 w2 ⟨rfl, hR2, hB2⟩
  cases ha : rdX f s1 with
  | none =>
    have HI2 := HI1.out w2 hR2
    rw [ha] at HI2
    replace HI2 : Calls Tryz.prog 40 #[.pointer (some ⟨r0, 0, none⟩), .int .i64 (f : Nat)] w2 (RP w0 w2) := HI2
    replace HI2 := Lib.hid HI2
    rw [Hr0.out] at hB2
    go_wp2_with fail
    refine HI2.out.mono ?_
    rintro e1 w3 ⟨rfl, hb3, hB3⟩
    go_wp2_with fail
    exact ⟨rfl, RdE.no (by rw [← ho, ha]; rfl) hb3 ((hB1.out.trans (by rw [Hr0.out]; exact hB2)).trans hB3)⟩
  | some x =>
    obtain ⟨a, sa⟩ := x
    have HI2 := HI1.out w2 hR2
    rw [ha] at HI2
    replace HI2 := Lib.hid HI2
    go_wp2_with fail
    refine HI2.out.mono ?_
    rintro e1 w3 ⟨y, s3, rfl, hbl3, hbare3, hG3, hU3, hR3, hB3⟩
    rw [ha] at ho
    simp only [Option.bind_some] at ho
    have hl1 := rdX_le f s1 a sa ha
    replace hbl3 : bl s3 = sa := hbl3
    replace hbare3 : y.bare = a := hbare3
    subst hbl3 hbare3
    have hs3 : s3.size ≤ 4000 := by rw [← bl_len]; omega
    have hyo := hG3.own
    have y1 : y.m.length ≤ y.mc := hyo.ml
    have y2 : y.mc ≤ maxLen := hyo.mc
    have y3 : y.b.length ≤ y.bc := hyo.bl
    have y4 : y.bc ≤ maxLen := hyo.bc
    have y5 : y.x.length ≤ y.xc := hyo.xl
    have y6 : y.xc ≤ maxLen := hyo.xc
    rw [Hr0.out] at hB2 hB3
    obtain ⟨q5, hq5⟩ : ∃ q, w3.heap.size = q := ⟨_, rfl⟩
    obtain ⟨W5, hW5⟩ : ∃ W, w3.alloc (.cells #[.int .i64 y.kind, .int .i64 y.n, .int .i64 y.w, .slice y.ma y.m.length y.mc, .slice y.ba y.b.length y.bc, .slice y.xa y.x.length y.xc] 28) = W := ⟨_, rfl⟩
    have hb5 : Below w3.heap.size w3 W5 := by rw [← hW5]; exact one_allocB _ _
    have k5 : Blk W5 q5 28 #[.int .i64 y.kind, .int .i64 y.n, .int .i64 y.w, .slice y.ma y.m.length y.mc, .slice y.ba y.b.length y.bc, .slice y.xa y.x.length y.xc] := by rw [← hW5]; exact Blk.newM _ _ _ _ hq5
    have hB15 : But r0 W1 W5 := (hB2.trans hB3).trans (But.of hb5)
    have hW1s : q4 < W1.heap.size := k4.out.lt
    have h25 : W1.heap.size ≤ w2.heap.size := hB2.size
    have h35 : w2.heap.size ≤ w3.heap.size := hB3.size
    have hG5 := Lib.hid (ExE.G.next hb5 y hG3)
    have hR5 := Lib.hid (hR3.next hb5)
    have hU5 := Lib.hid (ExE.Up.less (show q4 + 1 ≤ w2.heap.size by omega) y hU3)
    have h45 : q4 < q5 := by omega
    have k4' := Lib.hid (k4.out.but (Nat.ne_of_gt hr4) hB15)
    replace hB15 := Lib.hid hB15
    replace k5 := Lib.hid k5
    have HW5 := Lib.hid hW5
    have Hq5 := Lib.hid hq5
    replace ho := Lib.hid ho
    clear hyo hB2 hB3 hb5 hW5 hq5 hG3 hU3 hR3 ha h25 h35 hW1s HT HI1 hR2 HI2 hl1
    unfold exV
    go_upto_region 6 with fail
    rw [HW5.out, Hq5.out]
    go_loopw [6] (fun kv wr => ∃ (j : Nat), 6 ≤ j ∧ j ≤ 9 ∧ kv = .int .i64 (j : Nat) ∧ Hid (kwP [6, 7, 8] (bl s3) = kwP (kwFrom j) (bl s3)) ∧ Hid (RdW w0 wr s3) ∧ Hid (But r0 W5 wr)) (fun kv _ => 20 - (intOf kv).toNat)
    case atStart => exact ⟨6, by omega, by omega, rfl, Lib.hid rfl, hR5, Lib.hid (But.refl _ _)⟩
    case round =>
      obtain ⟨j, hj1, hj2, rfl, hkw, hRr, hBr⟩ := hrel
      by_cases hlt : (j : Int) ≤ 8
      · have hj8 : j ≤ 8 := by omega
        have hjn : (9 : Nat) > j := by omega
        have wc := (tW.next hRr.out.below).2 j (by omega)
        obtain ⟨wd, hwd⟩ : ∃ wd, wdB j = wd := ⟨_, rfl⟩
        have hwb : bl wd = wB (j : Int) := by rw [← hwd, wdB_bl]
        rw [hwd] at wc
        have hk := hkw.out
        rw [kwFrom_two j hj1 hj8] at hk
        cases hcw : cutP (wB (j : Int)) (bl s3) with
        | none =>
          rw [hcw] at hk
          have HT := Lib.hid (HTakeN.out wr s3 wd hRr.out (by rw [hwb]; exact hcw))
          replace hk := Lib.hid hk
          clear hwd hwb hcw
          go_wp2_with fail
          refine HT.out.mono ?_
          rintro e1 w6 ⟨rfl, hR6, hB6⟩
          rw [Hr0.out] at hB6
          have hB6' := Lib.hid (hBr.out.trans hB6)
          replace hR6 := Lib.hid hR6
          go_wp2_with fail
          go_roundw
          case rel => exact ⟨j + 1, by omega, by omega, by go_num, hk, hR6, hB6'⟩
          case measure => simp [intOf]; omega
        | some s6 =>
          rw [hcw] at hk
          have ho' := ho.out
          rw [hk] at ho'
          simp only [Option.bind_some] at ho'
          have hT := HTake.out wr s3 wd s6 hRr.out (by rw [hwb]; exact hcw)
          have hs6 : s6.length ≤ 4000 := by have := cutP_le hcw; rw [bl_len] at this; omega
          obtain ⟨s6b, hs6b⟩ : ∃ x : ByteArray, (⟨s6.toArray⟩ : ByteArray) = x := ⟨_, rfl⟩
          have hbl6 : bl s6b = s6 := by rw [← hs6b, bl_arr]
          rw [hs6b] at hT
          subst hbl6
          have hs6s : s6b.size ≤ 4000 := by rw [← bl_len]; exact hs6
          have HT := Lib.hid hT
          clear hwd hwb hcw hT hs6b hk hkw hs6
          go_wp2_with fail
          refine HT.out.mono ?_
          rintro e1 w6 ⟨rfl, hR6, hB6⟩
          rw [Hr0.out] at hB6
          have hB56 := hBr.out.trans hB6
          have HI6 := HI.out w6 s6b hR6 hs6s
          cases hb : rdX f (bl s6b) with
          | none =>
            rw [hb] at ho' HI6
            replace HI6 : Calls Tryz.prog 40 #[.pointer (some ⟨r0, 0, none⟩), .int .i64 (f : Nat)] w6 (RP w0 w6) := HI6
            replace HI6 := Lib.hid HI6
            replace hB56 := Lib.hid hB56
            have ho2 := Lib.hid ho'.symm
            clear ho' hB6
            go_wp2_with fail
            refine HI6.out.mono ?_
            rintro e1 w7 ⟨rfl, hb7, hB7⟩
            rw [Hr0.out] at hB7
            go_wp2_with fail
            exact ⟨rfl, RdE.no ho2.out hb7 (by rw [Hr0.out]; exact (by rw [← Hr0.out]; exact hB1.out : But r0 w W1).trans ((hB15.out.trans hB56.out).trans hB7))⟩
          | some x =>
            obtain ⟨b, sb7⟩ := x
            rw [hb] at ho' HI6
            have hl7 := rdX_le f _ b sb7 hb
            simp only [Option.bind_some] at ho'
            replace HI6 := Lib.hid HI6
            replace hB56 := Lib.hid hB56
            clear hB6 hb
            go_wp2_with fail
            refine HI6.out.mono ?_
            rintro e1 w7 ⟨z, s7, rfl, hbl7, hbare7, hG7, hU7, hR7, hB7⟩
            replace hbl7 : bl s7 = sb7 := hbl7
            replace hbare7 : z.bare = b := hbare7
            subst hbl7 hbare7
            have hs7 : s7.size ≤ 4000 := by have e1 := bl_len s7; have e2 := bl_len s6b; omega
            have hzo := hG7.own
            have z1 : z.m.length ≤ z.mc := hzo.ml
            have z2 : z.mc ≤ maxLen := hzo.mc
            have z3 : z.b.length ≤ z.bc := hzo.bl
            have z4 : z.bc ≤ maxLen := hzo.bc
            have z5 : z.x.length ≤ z.xc := hzo.xl
            have z6 : z.xc ≤ maxLen := hzo.xc
            rw [Hr0.out] at hB7
            obtain ⟨q7, hq7⟩ : ∃ q, w7.heap.size = q := ⟨_, rfl⟩
            obtain ⟨W7, hW7⟩ : ∃ W, w7.alloc (.cells #[.int .i64 z.kind, .int .i64 z.n, .int .i64 z.w, .slice z.ma z.m.length z.mc, .slice z.ba z.b.length z.bc, .slice z.xa z.x.length z.xc] 28) = W := ⟨_, rfl⟩
            have hb7 : Below w7.heap.size w7 W7 := by rw [← hW7]; exact one_allocB _ _
            have k7 : Blk W7 q7 28 #[.int .i64 z.kind, .int .i64 z.n, .int .i64 z.w, .slice z.ma z.m.length z.mc, .slice z.ba z.b.length z.bc, .slice z.xa z.x.length z.xc] := by rw [← hW7]; exact Blk.newM _ _ _ _ hq7
            have hB67 : But r0 w6 W7 := hB7.trans (But.of hb7)
            have hB57 : But r0 W5 W7 := hB56.out.trans hB67
            have h6s := hB56.out.size
            have h5s := k5.out.lt
            have h7s := hB7.size
            have hG7' := Lib.hid (ExE.G.next hb7 z hG7)
            have hGy := Lib.hid (ExE.G.from (From.but hB57 (show r0 < q4 + 1 by omega)) y hG5.out hU5.out)
            have hUz := Lib.hid (ExE.Up.less (show q4 + 1 ≤ w6.heap.size by omega) z hU7)
            have hR7' := hR7.next hb7
            have k5' := Lib.hid (k5.out.but (show q5 ≠ r0 by omega) hB57)
            have k4'' := Lib.hid (k4'.out.but (Nat.ne_of_gt hr4) hB57)
            have h57 : q5 < q7 := by omega
            have HW7 := Lib.hid hW7
            have Hq7 := Lib.hid hq7
            replace k7 := Lib.hid k7
            have hB17 := Lib.hid (hB15.out.trans hB57)
            clear hzo hB7 hb7 hW7 hq7 hG7 hU7 hR7 hB67 hB57 h6s h5s h7s HI6 hR6
            unfold exV
            go_upto_region 10 with fail
            rw [HW7.out, Hq7.out]
            cases hd : cutP [41] (bl s7) with
            | none =>
              rw [hd] at ho'
              have HM := Lib.hid (HMustN.out W7 s7 ⟨#[41]⟩ hR7' hd)
              have ho2 := Lib.hid ho'.symm
              clear ho' hd hR7'
              go_wp2_with fail
              refine HM.out.mono ?_
              rintro e1 w8 ⟨rfl, hb8, hB8⟩
              rw [Hr0.out] at hB8
              go_wp2_with fail
              exact ⟨rfl, RdE.no ho2.out hb8 (by rw [Hr0.out]; exact (by rw [← Hr0.out]; exact hB1.out : But r0 w W1).trans (hB17.out.trans hB8))⟩
            | some s8 =>
              rw [hd] at ho'
              obtain ⟨s8b, hs8b⟩ : ∃ x : ByteArray, (⟨s8.toArray⟩ : ByteArray) = x := ⟨_, rfl⟩
              have HM := HMust.out W7 s7 ⟨#[41]⟩ s8 hR7' hd
              rw [hs8b] at HM
              have hbl8 : bl s8b = s8 := by rw [← hs8b, bl_arr]
              subst hbl8
              have ho2 := Lib.hid ho'.symm
              replace HM := Lib.hid HM
              clear ho' hd hR7' hs8b
              go_wp2_with fail
              refine HM.out.mono ?_
              rintro e1 w8 ⟨rfl, hR8, hB8⟩
              rw [Hr0.out] at hB8
              have k5r := k5'.out.but (show q5 ≠ r0 by omega) hB8
              have k7r := k7.out.but (show q7 ≠ r0 by omega) hB8
              have k4r := k4''.out.but (Nat.ne_of_gt hr4) hB8
              have hGy8 := Lib.hid (ExE.G.from (From.but hB8 (show r0 < q4 + 1 by omega)) y hGy.out hU5.out)
              have hGz8 := Lib.hid (ExE.G.from (From.but hB8 (show r0 < q4 + 1 by omega)) z hG7'.out hUz.out)
              have c50 : w8.cell? ⟨q5, 0, none⟩ = some (.int .i64 y.kind) := k5r.cell 0
              have c51 : w8.cell? ⟨q5, 1, none⟩ = some (.int .i64 y.n) := k5r.cell 1
              have c52 : w8.cell? ⟨q5, 2, none⟩ = some (.int .i64 y.w) := k5r.cell 2
              have c53 : w8.cell? ⟨q5, 3, none⟩ = some (.slice y.ma y.m.length y.mc) := k5r.cell 3
              have c54 : w8.cell? ⟨q5, 4, none⟩ = some (.slice y.ba y.b.length y.bc) := k5r.cell 4
              have c55 : w8.cell? ⟨q5, 5, none⟩ = some (.slice y.xa y.x.length y.xc) := k5r.cell 5
              have c70 : w8.cell? ⟨q7, 0, none⟩ = some (.int .i64 z.kind) := k7r.cell 0
              have c71 : w8.cell? ⟨q7, 1, none⟩ = some (.int .i64 z.n) := k7r.cell 1
              have c72 : w8.cell? ⟨q7, 2, none⟩ = some (.int .i64 z.w) := k7r.cell 2
              have c73 : w8.cell? ⟨q7, 3, none⟩ = some (.slice z.ma z.m.length z.mc) := k7r.cell 3
              have c74 : w8.cell? ⟨q7, 4, none⟩ = some (.slice z.ba z.b.length z.bc) := k7r.cell 4
              have c75 : w8.cell? ⟨q7, 5, none⟩ = some (.slice z.xa z.x.length z.xc) := k7r.cell 5
              have k9 : Blk (w8.alloc (.cells #[.int .i64 y.kind, .int .i64 y.n, .int .i64 y.w, .slice y.ma y.m.length y.mc, .slice y.ba y.b.length y.bc, .slice y.xa y.x.length y.xc, .int .i64 z.kind, .int .i64 z.n, .int .i64 z.w, .slice z.ma z.m.length z.mc, .slice z.ba z.b.length z.bc, .slice z.xa z.x.length z.xc] 28)) q4 28 #[.int .i64 0, .int .i64 0, .int .i64 0, .slice none 0 0, .slice none 0 0, .slice none 0 0] := Blk.next k4r (one_allocB _ _)
              have d0 := k9.cell 0
              have d1 := k9.cell 1
              have d2 := k9.cell 2
              have d3 := k9.cell 3
              have d4 := k9.cell 4
              have d5 := k9.cell 5
              have f0 := k9.frozen 0
              have f1 := k9.frozen 1
              have f2 := k9.frozen 2
              have f3 := k9.frozen 3
              have f4 := k9.frozen 4
              have f5 := k9.frozen 5
              go_wp2_with fail
              have kF := sto6_blk k9 (.int .i64 (j : Nat)) (.int .i64 0) (.int .i64 0) (.slice none 0 0) (.slice none 0 0) (.slice (some ⟨w8.heap.size, 0, none⟩) 2 2)
              have e0 := kF.cell 0
              have e1 := kF.cell 1
              have e2 := kF.cell 2
              have e3 := kF.cell 3
              have e4 := kF.cell 4
              have e5 := kF.cell 5
              refine bodyPost_ret (v := .agg #[.int .i64 (j : Nat), .int .i64 0, .int .i64 0, .slice none 0 0, .slice none 0 0, .slice (some ⟨w8.heap.size, 0, none⟩) 2 2]) (by simp [results, Tryz.results40, go_sem, *]) rfl ?_
              have hq48 : q4 < w8.heap.size := k4r.lt
              have hFr : From (q4 + 1) w8 (sto6 (w8.alloc (.cells #[.int .i64 y.kind, .int .i64 y.n, .int .i64 y.w, .slice y.ma y.m.length y.mc, .slice y.ba y.b.length y.bc, .slice y.xa y.x.length y.xc, .int .i64 z.kind, .int .i64 z.n, .int .i64 z.w, .slice z.ma z.m.length z.mc, .slice z.ba z.b.length z.bc, .slice z.xa z.x.length z.xc] 28)) q4 (.int .i64 (j : Nat)) (.int .i64 0) (.int .i64 0) (.slice none 0 0) (.slice none 0 0) (.slice (some ⟨w8.heap.size, 0, none⟩) 2 2)) := (From.of (one_allocB _ _)).trans (sto6_from (Nat.lt_succ_self _) _ _ _ _ _ _)
              have kg : Blk (sto6 (w8.alloc (.cells #[.int .i64 y.kind, .int .i64 y.n, .int .i64 y.w, .slice y.ma y.m.length y.mc, .slice y.ba y.b.length y.bc, .slice y.xa y.x.length y.xc, .int .i64 z.kind, .int .i64 z.n, .int .i64 z.w, .slice z.ma z.m.length z.mc, .slice z.ba z.b.length z.bc, .slice z.xa z.x.length z.xc] 28)) q4 (.int .i64 (j : Nat)) (.int .i64 0) (.int .i64 0) (.slice none 0 0) (.slice none 0 0) (.slice (some ⟨w8.heap.size, 0, none⟩) 2 2)) w8.heap.size 28 #[.int .i64 y.kind, .int .i64 y.n, .int .i64 y.w, .slice y.ma y.m.length y.mc, .slice y.ba y.b.length y.bc, .slice y.xa y.x.length y.xc, .int .i64 z.kind, .int .i64 z.n, .int .i64 z.w, .slice z.ma z.m.length z.mc, .slice z.ba z.b.length z.bc, .slice z.xa z.x.length z.xc] := Blk.from (Blk.new w8 _ _) (show q4 + 1 ≤ w8.heap.size by omega) (sto6_from (Nat.lt_succ_self _) _ _ _ _ _ _)
              refine RdE.yes (y := kidE (j : Nat) none 0 [] w8.heap.size [y, z]) (s' := s8b) ?_ rfl ?_ ?_ ?_ ?_
              · rw [kidE_bare, ho2.out]
                rfl
              · refine kidE_G0 (show in64 (j : Nat) by unfold in64; omega) (fun u hu => ?_) (show 2 ≤ maxLen by unfold maxLen; omega) (Has.of_blk kg)
                rcases List.mem_cons.1 hu with rfl | hu
                · exact ExE.G.from hFr _ hGy8.out hU5.out
                · rw [List.mem_singleton.1 hu]
                  exact ExE.G.from hFr _ hGz8.out hUz.out
              · refine .mk (fun a ha => by cases ha) (fun a ha => by cases ha) (fun a ha => ?_) (fun u hu => ?_)
                · injection ha with ha
                  rw [← ha, Hq4.out]
                  exact Nat.le_of_lt hq48
                · rw [Hq4.out]
                  rcases List.mem_cons.1 hu with rfl | hu
                  · exact ExE.Up.less (Nat.le_succ _) _ hU5.out
                  · rw [List.mem_singleton.1 hu]
                    exact ExE.Up.less (Nat.le_succ _) _ hUz.out
              · exact sto6_rdw (hR8.next (one_allocB _ _)) (by rw [Hr0.out]; exact hr4) _ _ _ _ _ _
              · exact sto6_but (((hB1.out.trans (by rw [Hr0.out]; exact hB17.out)).trans (by rw [Hr0.out]; exact hB8)).trans (But.of (one_allocB _ _))) (Nat.le_of_eq Hq4.out) _ _ _ _ _ _
      · have hj9 : j = 9 := by omega
        subst hj9
        have hk := hkw.out
        have ho' := ho.out
        rw [hk] at ho'
        have ho2 := Lib.hid ho'.symm
        clear ho' hk
        go_wp2_with fail
        exact ⟨rfl, RdE.no ho2.out hRr.out.below (by rw [Hr0.out]; exact (by rw [← Hr0.out]; exact hB1.out : But r0 w W1).trans (hB15.out.trans hBr.out))⟩
end Go.Proofs.YtnicbhmeigpjkaaGreatDoor
namespace Go.Proofs.YtnicbhmeigpjkaaGreatDoor
open Go.RowKit

set_option maxRecDepth 1000000 in
set_option maxHeartbeats 8000000 in
theorem xrd_word (w0 : World) (tL : LenAt w0) (tW : WdAt w0) (f : Nat) (hf : f < 100) (ih : RdIH w0 f) (w : World) (s : ByteArray) (hR : RdW w0 w s) (hs : s.size ≤ 4000) (kx : Int × List UInt8) (hc : cutP [40] (bl s) = none) (hkw0 : kwP [3, 4, 5] (bl s) = some kx) :
    Calls Tryz.prog 40 #[.pointer (some ⟨w0.heap.size, 0, none⟩), .int .i64 ((f + 1 : Nat) : Int)] w (RdE w0 w (rdX (f + 1) (bl s))) := by
  obtain ⟨r0, hr0⟩ : ∃ r0, w0.heap.size = r0 := ⟨_, rfl⟩
  obtain ⟨n, hn⟩ : ∃ n : Int, ((f + 1 : Nat) : Int) = n := ⟨_, rfl⟩
  have hn0 : (n == 0) = false := by rw [beq_eq_false_iff_ne]; omega
  have hn1 : IntKind.i64.wrap (n - 1) = ((f : Nat) : Int) := by rw [IntWalk.i64_in _ (by omega)]; omega
  obtain ⟨W1, hW1⟩ : ∃ W1, w.alloc (.cells #[.int .i64 0, .int .i64 0, .int .i64 0, .slice none 0 0, .slice none 0 0, .slice none 0 0] 28) = W1 := ⟨_, rfl⟩
  obtain ⟨q4, hq4⟩ : ∃ q, w.heap.size = q := ⟨_, rfl⟩
  have hb1 : Below w.heap.size w W1 := by rw [← hW1]; exact one_allocB _ _
  have k4 : Blk W1 q4 28 #[.int .i64 0, .int .i64 0, .int .i64 0, .slice none 0 0, .slice none 0 0, .slice none 0 0] := by rw [← hW1]; exact Blk.newM _ _ _ _ hq4
  have hR1 := hR.next hb1
  have hB1 : But w0.heap.size w W1 := But.of hb1
  have hr4 : r0 < q4 := by rw [← hr0, ← hq4]; exact hR.size
  have hbw := hR.below
  rw [hn]
  obtain ⟨o, ho⟩ : ∃ o, rdX (f + 1) (bl s) = o := ⟨_, rfl⟩
  rw [ho]
  have HW1 := Lib.hid hW1
  have Hq4 := Lib.hid hq4
  replace k4 := Lib.hid k4
  replace hB1 := Lib.hid hB1
  replace hbw := Lib.hid hbw
  have Hr0 := Lib.hid hr0
  have HTake := Lib.hid (fun (w' : World) (s' p : ByteArray) (r : List UInt8) (h1 : RdW w0 w' s') (h2 : cutP (bl p) (bl s') = some r) => take_yes w0 w' s' p r h1 h2)
  have HTakeN := Lib.hid (fun (w' : World) (s' p : ByteArray) (h1 : RdW w0 w' s') (h2 : cutP (bl p) (bl s') = none) => take_no w0 w' s' p h1 h2)
  have HMust := Lib.hid (fun (w' : World) (s' p : ByteArray) (r : List UInt8) (h1 : RdW w0 w' s') (h2 : cutP (bl p) (bl s') = some r) => must_yes w0 w' s' p r h1 h2)
  have HMustN := Lib.hid (fun (w' : World) (s' p : ByteArray) (h1 : RdW w0 w' s') (h2 : cutP (bl p) (bl s') = none) => must_no w0 w' s' p h1 h2)
  have HI := Lib.hid ih
  unfold RdIH at HI
  rw [hr0] at HTake HTakeN HMust HMustN HI ⊢
  clear hW1 hq4 hb1 hn ih hR
  rw [rdX_word hc hkw0] at ho
  have HTN := Lib.hid (HTakeN.out W1 s ⟨#[40]⟩ hR1 hc)
  have hkw0' := Lib.hid hkw0
  replace ho := Lib.hid ho
  have tW' := Lib.hid tW
  have tL' := Lib.hid tL
  clear hc hR1 hkw0
  go_enter Tryz.func40, Tryz.ntmps40
  go_upto_region 1 with fail
  rw [HW1.out, Hq4.out]
  go_wp2_with fail
  refine HTN.out.mono ?_
  rintro e1 w2 ⟨rfl, hR2, hB2⟩
  rw [Hr0.out] at hB2
  have hR2' := Lib.hid hR2
  replace hB2 := Lib.hid hB2
  clear hR2
  go_wp2_with fail
  go_loopw [8] (fun kv wr => ∃ (j : Nat), 3 ≤ j ∧ j ≤ 6 ∧ kv = .int .i64 (j : Nat) ∧ Hid (kwP (if j = 6 then [] else kwFrom j) (bl s) = some kx) ∧ Hid (RdW w0 wr s) ∧ Hid (But r0 w2 wr)) (fun kv _ => 20 - (intOf kv).toNat)
  case atStart => exact ⟨3, by omega, by omega, rfl, hkw0', hR2', Lib.hid (But.refl _ _)⟩
  case round =>
    obtain ⟨j, hj1, hj2, rfl, hkw, hRr, hBr⟩ := hrel
    by_cases hlt : (j : Int) ≤ 5
    · have hj8 : j ≤ 5 := by omega
      have hjn : (9 : Nat) > j := by omega
      have wc := (tW'.out.next hRr.out.below).2 j (by omega)
      obtain ⟨wd, hwd⟩ : ∃ wd, wdB j = wd := ⟨_, rfl⟩
      have hwb : bl wd = wB (j : Int) := by rw [← hwd, wdB_bl]
      rw [hwd] at wc
      have hk := hkw.out
      rw [if_neg (by omega)] at hk
      have hk2 : (match cutP (wB (j : Int)) (bl s) with | some r => some ((j : Int), r) | none => kwP (if j + 1 = 6 then [] else kwFrom (j + 1)) (bl s)) = some kx := by
        rw [← hk]
        rcases (show j = 3 ∨ j = 4 ∨ j = 5 by omega) with rfl | rfl | rfl
        · rfl
        · rfl
        · show _ = kwP [5] (bl s)
          unfold kwP
          rfl
      cases hcw : cutP (wB (j : Int)) (bl s) with
      | none =>
        rw [hcw] at hk2
        have HT := Lib.hid (HTakeN.out wr s wd hRr.out (by rw [hwb]; exact hcw))
        replace hk2 := Lib.hid hk2
        clear hwd hwb hcw hk
        go_wp2_with fail
        refine HT.out.mono ?_
        rintro e1 w6 ⟨rfl, hR6, hB6⟩
        rw [Hr0.out] at hB6
        have hB6' := Lib.hid (hBr.out.trans hB6)
        replace hR6 := Lib.hid hR6
        go_wp2_with fail
        go_roundw
        case rel => exact ⟨j + 1, by omega, by omega, by go_num, hk2, hR6, hB6'⟩
        case measure => simp [intOf]; omega
      | some s6 =>
        rw [hcw] at hk2
        have hkx : kx = ((j : Int), s6) := (Option.some.inj hk2).symm
        subst hkx
        have ho' := ho.out
        simp only [] at ho'
        have hT := HTake.out wr s wd s6 hRr.out (by rw [hwb]; exact hcw)
        have hs6 : s6.length ≤ 4000 := by have := cutP_le hcw; rw [bl_len] at this; omega
        obtain ⟨s6b, hs6b⟩ : ∃ x : ByteArray, (⟨s6.toArray⟩ : ByteArray) = x := ⟨_, rfl⟩
        have hbl6 : bl s6b = s6 := by rw [← hs6b, bl_arr]
        rw [hs6b] at hT
        subst hbl6
        have hs6s : s6b.size ≤ 4000 := by rw [← bl_len]; exact hs6
        have HT := Lib.hid hT
        replace ho' := Lib.hid ho'
        clear hwd hwb hcw hT hs6b hk hkw hs6 hk2 ho hkw0'
        go_wp2_with fail
        refine HT.out.mono ?_
        rintro e1 w6 ⟨rfl, hR6, hB6⟩
        rw [Hr0.out] at hB6
        obtain ⟨q9, hq9⟩ : ∃ q, w6.heap.size = q := ⟨_, rfl⟩
        obtain ⟨W9, hW9⟩ : ∃ W, w6.alloc (.cells #[.int .i64 (j : Nat), .int .i64 0, .int .i64 0, .slice none 0 0, .slice none 0 0, .slice none 0 0] 28) = W := ⟨_, rfl⟩
        have hb9 : Below w6.heap.size w6 W9 := by rw [← hW9]; exact one_allocB _ _
        have k9 : Blk W9 q9 28 #[.int .i64 (j : Nat), .int .i64 0, .int .i64 0, .slice none 0 0, .slice none 0 0, .slice none 0 0] := by rw [← hW9]; exact Blk.newM _ _ _ _ hq9
        have hR9 := hR6.next hb9
        have hB29 : But r0 w2 W9 := (hBr.out.trans hB6).trans (But.of hb9)
        have hW1s : q4 < W1.heap.size := k4.out.lt
        have h29 : W1.heap.size ≤ w6.heap.size := Nat.le_trans hB2.out.size (hBr.out.trans hB6).size
        have h49 : q4 < q9 := by omega
        have h19 : W1.heap.size ≤ q9 := by omega
        have k49 := Lib.hid (k4.out.but (Nat.ne_of_gt hr4) (hB2.out.trans hB29))
        have hB19 := Lib.hid (hB2.out.trans hB29)
        have HW9 := Lib.hid hW9
        have Hq9 := Lib.hid hq9
        clear hB6 hB29 hb9 hW9 hq9 hR6 hW1s h29
        go_upto_region 18 with fail
        rw [HW9.out, Hq9.out]
        obtain ⟨b, s10, hb10, hT10⟩ := take_any w0 W9 s6b ⟨#[32, 98, 121, 32]⟩ hR9
        rw [Hr0.out] at hT10
        replace hT10 := Lib.hid hT10
        replace hb10 := Lib.hid hb10
        replace k9 := Lib.hid k9
        clear hR9
        go_upto_if 58 with fail
        refine hT10.out.mono ?_
        rintro e1 w10 ⟨rfl, hR10, hB10⟩
        rw [Hr0.out] at hB10
        have k910 := Lib.hid (k9.out.but (show q9 ≠ r0 by omega) hB10)
        have hB110 := Lib.hid (hB19.out.trans hB10)
        have h10s : q9 < w10.heap.size := k910.out.lt
        replace hR10 := Lib.hid hR10
        clear hB10
        go_upto_if 58 with fail
        go_cut [] from 59 to 64 (fun wx => ∃ (BA : Option Addr) (bn bc : Nat) (bs : List ByteArray) (s11 : ByteArray), Hid (byP (bl s6b) = some (bs, bl s11)) ∧ Hid (RdW w0 wx s11) ∧ Hid (Blk wx q9 28 #[.int .i64 (j : Nat), .int .i64 0, .int .i64 0, .slice none 0 0, .slice BA bn bc, .slice none 0 0]) ∧ Hid (But r0 W1 wx) ∧ Hid (bs.length = bn) ∧ Hid ((∀ x ∈ bs, x.size ≤ maxLen) ∧ bn ≤ bc ∧ bc ≤ 5000 ∧ (BA = none → bc = 0) ∧ (∀ a, BA = some a → q9 < a.block) ∧ Has wx wx.heap.size BA (strCs bs)) ∧ q9 < wx.heap.size)
        case first =>
          have hl6 := bl_len s6b
          cases b with
          | true =>
            have hcb : cutP [32, 98, 121, 32] (bl s6b) = some (bl s10) := by
              rcases hb10.out with ⟨_, h⟩ | ⟨h, _⟩
              · exact h
              · cases h
            have hl10 := cutP_le hcb
            have hs10 : s10.size ≤ 4000 := by rw [← bl_len]; omega
            cases hu : untilP 40 (bl s10) with
            | none =>
              have hU := until_no w0 w10 s10 40 hR10.out (by omega) (tL'.out.next hR10.out.below) hu
              rw [Hr0.out] at hU
              have ho2 := Lib.hid (show o = none by rw [← ho'.out]; unfold byP; rw [hcb]; simp only []; rw [hu]; rfl)
              replace hU := Lib.hid hU
              clear hu hcb hl10 hl6
              go_wp2_with fail
              refine hU.out.mono ?_
              rintro e1 w11 ⟨rfl, hb11, hB11⟩
              rw [Hr0.out] at hB11
              go_wp2_with fail
              exact ⟨rfl, RdE.no ho2.out hb11 (by rw [Hr0.out]; exact (by rw [← Hr0.out]; exact hB1.out : But r0 w W1).trans (hB110.out.trans hB11))⟩
            | some x =>
              obtain ⟨a, r⟩ := x
              have hU := until_yes w0 w10 s10 40 a r hR10.out (by omega) (tL'.out.next hR10.out.below) hu
              rw [Hr0.out] at hU
              obtain ⟨ab, hab⟩ : ∃ x : ByteArray, (⟨a.toArray⟩ : ByteArray) = x := ⟨_, rfl⟩
              obtain ⟨s11, hs11⟩ : ∃ x : ByteArray, (⟨r.toArray⟩ : ByteArray) = x := ⟨_, rfl⟩
              rw [hab, hs11] at hU
              have habl : bl ab = a := by rw [← hab, bl_arr]
              have hs11l : bl s11 = r := by rw [← hs11, bl_arr]
              have hal := (untilP_le hu).2
              have habs : ab.size ≤ 4000 := by rw [← bl_len, habl]; omega
              have hby := Lib.hid (show byP (bl s6b) = some (bySp ab, bl s11) by unfold byP; rw [hcb]; simp only []; rw [hu, hs11l, bySp_eq, habl]; rfl)
              have hSp := fun (w' : World) (h : RdW w0 w' s11) => split_any ab (by omega) w' (tL'.out.next h.below)
              have hbsz := Lib.hid (fun x (hx : x ∈ bySp ab) => splitB_small ⟨#[44]⟩ _ ab x hx)
              have hbln := bySp_le ab
              obtain ⟨bs, hbs⟩ : ∃ bs, bySp ab = bs := ⟨_, rfl⟩
              rw [hbs] at hby hSp hbsz hbln
              obtain ⟨bn, hbn⟩ : ∃ bn, bs.length = bn := ⟨_, rfl⟩
              rw [hbn] at hSp hbln
              replace hU := Lib.hid hU
              replace hSp := Lib.hid hSp
              have Hbn := Lib.hid hbn
              clear hu hcb hl10 hab hs11 habl hs11l hal hbs hbn
              go_wp2_with fail
              refine hU.out.mono ?_
              rintro e1 w11 ⟨rfl, hR11, hB11⟩
              rw [Hr0.out] at hB11
              have k911 := k910.out.but (show q9 ≠ r0 by omega) hB11
              have h11s : q9 < w11.heap.size := k911.lt
              have hS11 := Lib.hid (hSp.out w11 hR11)
              replace k911 := Lib.hid k911
              replace hR11 := Lib.hid hR11
              replace hB11 := Lib.hid hB11
              go_wp2_with fail
              refine hS11.out.mono ?_
              rintro e1 w12 ⟨rfl, hb12, hH12⟩
              have k912 := k911.out.next hb12
              have c4 : w12.cell? ⟨q9, 4, none⟩ = some (.slice none 0 0) := k912.cell 4
              have f4 := k912.frozen 4
              have hR12 := Lib.hid (hR11.out.next hb12)
              have hB112 := Lib.hid ((hB110.out.trans hB11.out).trans (But.of hb12))
              replace hH12 := Lib.hid hH12
              have h12s : q9 < w12.heap.size := k912.lt
              replace k912 := Lib.hid k912
              replace hb12 := Lib.hid hb12
              go_wp2_with fail
              go_meet
              case rel =>
                have hm4 : 4001 ≤ maxLen := by unfold maxLen; omega
                exact ⟨some ⟨w11.heap.size, 0, none⟩, bn, bn, bs, s11, hby, Lib.hid (hR12.out.setNew (by rw [Hr0.out]; omega) _ _), Lib.hid (k912.out.set 4 _), Lib.hid (hB112.out.setNew h19 _), Hbn, Lib.hid ⟨(fun x hx => by have := hbsz.out x hx; omega), Nat.le_refl _, (by omega), (fun h => by cases h), (fun a ha => by injection ha with ha; rw [← ha]; exact h11s), Has.from (B := q9 + 1) hH12.out (fun a ha => by injection ha with ha; rw [← ha]; exact h11s) (From.set _ _ _ (Nat.lt_succ_self _))⟩, by simp [World.setCell]; exact h12s⟩
          | false =>
            have hcb : cutP [32, 98, 121, 32] (bl s6b) = none ∧ s10 = s6b := by
              rcases hb10.out with ⟨h, _⟩ | ⟨_, h, h'⟩
              · cases h
              · exact ⟨h, h'⟩
            obtain ⟨hcb, rfl⟩ := hcb
            cases hu : cutP [40] (bl s10) with
            | none =>
              have hU := HMustN.out w10 s10 ⟨#[40]⟩ hR10.out hu
              have ho2 := Lib.hid (show o = none by rw [← ho'.out]; unfold byP; rw [hcb]; simp only []; rw [hu]; rfl)
              replace hU := Lib.hid hU
              clear hu hcb hl6
              go_wp2_with fail
              refine hU.out.mono ?_
              rintro e1 w11 ⟨rfl, hb11, hB11⟩
              rw [Hr0.out] at hB11
              go_wp2_with fail
              exact ⟨rfl, RdE.no ho2.out hb11 (by rw [Hr0.out]; exact (by rw [← Hr0.out]; exact hB1.out : But r0 w W1).trans (hB110.out.trans hB11))⟩
            | some r =>
              have hU := HMust.out w10 s10 ⟨#[40]⟩ r hR10.out hu
              obtain ⟨s11, hs11⟩ : ∃ x : ByteArray, (⟨r.toArray⟩ : ByteArray) = x := ⟨_, rfl⟩
              rw [hs11] at hU
              have hs11l : bl s11 = r := by rw [← hs11, bl_arr]
              have hby := Lib.hid (show byP (bl s10) = some ([], bl s11) by unfold byP; rw [hcb]; simp only []; rw [hu, hs11l]; rfl)
              replace hU := Lib.hid hU
              clear hu hcb hs11 hs11l hl6
              go_wp2_with fail
              refine hU.out.mono ?_
              rintro e1 w11 ⟨rfl, hR11, hB11⟩
              rw [Hr0.out] at hB11
              have k911 := k910.out.but (show q9 ≠ r0 by omega) hB11
              have h11s : q9 < w11.heap.size := k911.lt
              replace k911 := Lib.hid k911
              replace hR11 := Lib.hid hR11
              replace hB11 := Lib.hid hB11
              go_wp2_with fail
              go_meet
              case rel => exact ⟨none, 0, 0, [], s11, hby, hR11, k911, Lib.hid (hB110.out.trans hB11.out), Lib.hid rfl, Lib.hid ⟨(fun x hx => absurd hx (List.not_mem_nil)), Nat.le_refl _, Nat.zero_le _, (fun _ => rfl), (fun a ha => by cases ha), Has.nil _ _ _⟩, h11s⟩
        case rest =>
          obtain ⟨BA, bn, bc, bs, s11, hby, hRc, kc, hBc, hbn, hbb, hcs⟩ := hcut
          have ho3 := ho'.out
          rw [hby.out] at ho3
          simp only [Option.bind_some] at ho3
          have hl11 := byP_le hby.out
          simp only [] at hl11
          have e6 := bl_len s6b
          have e11 := bl_len s11
          have hs11 : s11.size ≤ 4000 := by omega
          obtain ⟨hb1', hb2', hb3', hb4', hb5', hb6'⟩ := hbb.out
          replace hb4' := Lib.hid hb4'
          have hI := HI.out wc s11 hRc.out hs11
          clear hl11 e6 e11
          cases hy : rdX f (bl s11) with
          | none =>
            rw [hy] at ho3 hI
            replace hI : Calls Tryz.prog 40 #[.pointer (some ⟨r0, 0, none⟩), .int .i64 (f : Nat)] wc (RP w0 wc) := hI
            replace hI := Lib.hid hI
            have ho2 := Lib.hid ho3.symm
            clear ho3 hy
            go_wp2_with fail
            refine hI.out.mono ?_
            rintro e1 w12 ⟨rfl, hb12, hB12⟩
            rw [Hr0.out] at hB12
            go_wp2_with fail
            exact ⟨rfl, RdE.no ho2.out hb12 (by rw [Hr0.out]; exact (by rw [← Hr0.out]; exact hB1.out : But r0 w W1).trans (hBc.out.trans hB12))⟩
          | some x =>
            obtain ⟨y', sy⟩ := x
            rw [hy] at ho3 hI
            have hl12 := rdX_le f _ y' sy hy
            simp only [Option.bind_some] at ho3
            replace hI := Lib.hid hI
            clear hy
            go_wp2_with fail
            refine hI.out.mono ?_
            rintro e1 w12 ⟨y, s12, rfl, hbl12, hbare12, hG12, hU12, hR12, hB12⟩
            replace hbl12 : bl s12 = sy := hbl12
            replace hbare12 : y.bare = y' := hbare12
            subst hbl12 hbare12
            have e12 := bl_len s12
            have e11 := bl_len s11
            have hs12 : s12.size ≤ 4000 := by omega
            have hyo := hG12.own
            have y1 : y.m.length ≤ y.mc := hyo.ml
            have y2 : y.mc ≤ maxLen := hyo.mc
            have y3 : y.b.length ≤ y.bc := hyo.bl
            have y4 : y.bc ≤ maxLen := hyo.bc
            have y5 : y.x.length ≤ y.xc := hyo.xl
            have y6 : y.xc ≤ maxLen := hyo.xc
            rw [Hr0.out] at hB12
            have k912 := kc.out.but (show q9 ≠ r0 by omega) hB12
            have kA : Blk (w12.alloc (.cells #[.int .i64 y.kind, .int .i64 y.n, .int .i64 y.w, .slice y.ma y.m.length y.mc, .slice y.ba y.b.length y.bc, .slice y.xa y.x.length y.xc] 28)) q9 28 #[.int .i64 (j : Nat), .int .i64 0, .int .i64 0, .slice none 0 0, .slice BA bn bc, .slice none 0 0] := Blk.next k912 (one_allocB _ _)
            have c5 : (w12.alloc (.cells #[.int .i64 y.kind, .int .i64 y.n, .int .i64 y.w, .slice y.ma y.m.length y.mc, .slice y.ba y.b.length y.bc, .slice y.xa y.x.length y.xc] 28)).cell? ⟨q9, 5, none⟩ = some (.slice none 0 0) := kA.cell 5
            have f5 := kA.frozen 5
            have h12s : q9 < w12.heap.size := k912.lt
            obtain ⟨g, hg⟩ : ∃ g, w12.heap.size = g := ⟨_, rfl⟩
            obtain ⟨W13, hW13⟩ : ∃ W, (w12.setCell ⟨q9, 5, none⟩ (.slice (some ⟨g, 0, none⟩) 1 1)).alloc (.cells #[.int .i64 y.kind, .int .i64 y.n, .int .i64 y.w, .slice y.ma y.m.length y.mc, .slice y.ba y.b.length y.bc, .slice y.xa y.x.length y.xc] 28) = W := ⟨_, rfl⟩
            have k913 : Blk W13 q9 28 #[.int .i64 (j : Nat), .int .i64 0, .int .i64 0, .slice none 0 0, .slice BA bn bc, .slice (some ⟨g, 0, none⟩) 1 1] := by rw [← hW13]; exact Blk.next (k912.set 5 (.slice (some ⟨g, 0, none⟩) 1 1)) (one_allocB _ _)
            have hF13 : From (q9 + 1) w12 W13 := by rw [← hW13]; exact (From.set _ _ _ (Nat.lt_succ_self _)).trans (From.of (one_allocB _ _))
            have kg13 : Blk W13 g 28 #[.int .i64 y.kind, .int .i64 y.n, .int .i64 y.w, .slice y.ma y.m.length y.mc, .slice y.ba y.b.length y.bc, .slice y.xa y.x.length y.xc] := by rw [← hW13]; exact Blk.newM _ _ _ _ (by simp [World.setCell, hg])
            have hR13 : RdW w0 W13 s12 := by rw [← hW13]; exact (hR12.setNew (by rw [Hr0.out]; omega) _ _).next (one_allocB _ _)
            have hB113 : But r0 W1 W13 := by rw [← hW13]; exact ((hBc.out.trans hB12).setNew h19 _).trans (But.of (one_allocB _ _))
            have hGy13 := Lib.hid (ExE.G.from hF13 y hG12 (ExE.Up.less (show q9 + 1 ≤ wc.heap.size by omega) y hU12))
            have hUy := Lib.hid (ExE.Up.less (show q9 + 1 ≤ wc.heap.size by omega) y hU12)
            have hb613 : Has W13 W13.heap.size BA (strCs bs) := Has.from (B := q9 + 1) (Has.from (B := q9 + 1) hb6' hb5' (From.but hB12 (by omega))) hb5' hF13
            have hqg : q9 < g := by omega
            have HW13 := Lib.hid hW13
            have Hg := Lib.hid hg
            replace k913 := Lib.hid k913
            replace kg13 := Lib.hid kg13
            replace hb613 := Lib.hid hb613
            replace hB113 := Lib.hid hB113
            replace hb1' := Lib.hid hb1'
            replace hb5' := Lib.hid hb5'
            replace hb6' := Lib.hid hb6'
            clear hyo hW13 hg kA hF13 k912 hG12 hU12 hR12 hB12 hl12 e12 e11 hI
            unfold exV
            go_upto_region 22 with fail
            rw [Hg.out, HW13.out]
            cases hd : cutP [41] (bl s12) with
            | none =>
              rw [hd] at ho3
              have HM := Lib.hid (HMustN.out W13 s12 ⟨#[41]⟩ hR13 hd)
              have ho2 := Lib.hid ho3.symm
              clear ho3 hd hR13 c5 f5
              go_wp2_with fail
              refine HM.out.mono ?_
              rintro e1 w14 ⟨rfl, hb14, hB14⟩
              rw [Hr0.out] at hB14
              go_wp2_with fail
              exact ⟨rfl, RdE.no ho2.out hb14 (by rw [Hr0.out]; exact (by rw [← Hr0.out]; exact hB1.out : But r0 w W1).trans (hB113.out.trans hB14))⟩
            | some s14l =>
              rw [hd] at ho3
              obtain ⟨s14, hs14⟩ : ∃ x : ByteArray, (⟨s14l.toArray⟩ : ByteArray) = x := ⟨_, rfl⟩
              have HM := HMust.out W13 s12 ⟨#[41]⟩ s14l hR13 hd
              rw [hs14] at HM
              have hbl14 : bl s14 = s14l := by rw [← hs14, bl_arr]
              subst hbl14
              have ho2 := Lib.hid ho3.symm
              replace HM := Lib.hid HM
              clear ho3 hd hR13 hs14 c5 f5
              go_wp2_with fail
              refine HM.out.mono ?_
              rintro e1 w14 ⟨rfl, hR14, hB14⟩
              rw [Hr0.out] at hB14
              have hB114 := Lib.hid (hB113.out.trans hB14)
              have k9r := k913.out.but (show q9 ≠ r0 by omega) hB14
              have kgr := Lib.hid (kg13.out.but (show g ≠ r0 by omega) hB14)
              have k4r := k4.out.but (Nat.ne_of_gt hr4) hB114.out
              have hGy14 := Lib.hid (ExE.G.from (From.but hB14 (show r0 < q9 + 1 by omega)) y hGy13.out hUy.out)
              have hb614 := Lib.hid (Has.from (B := q9 + 1) hb613.out hb5'.out (From.but hB14 (by omega)))
              have c90 : w14.cell? ⟨q9, 0, none⟩ = some (.int .i64 (j : Nat)) := k9r.cell 0
              have c91 : w14.cell? ⟨q9, 1, none⟩ = some (.int .i64 0) := k9r.cell 1
              have c92 : w14.cell? ⟨q9, 2, none⟩ = some (.int .i64 0) := k9r.cell 2
              have c93 : w14.cell? ⟨q9, 3, none⟩ = some (.slice none 0 0) := k9r.cell 3
              have c94 : w14.cell? ⟨q9, 4, none⟩ = some (.slice BA bn bc) := k9r.cell 4
              have c95 : w14.cell? ⟨q9, 5, none⟩ = some (.slice (some ⟨g, 0, none⟩) 1 1) := k9r.cell 5
              have d0 := k4r.cell 0
              have d1 := k4r.cell 1
              have d2 := k4r.cell 2
              have d3 := k4r.cell 3
              have d4 := k4r.cell 4
              have d5 := k4r.cell 5
              have f0 := k4r.frozen 0
              have f1 := k4r.frozen 1
              have f2 := k4r.frozen 2
              have f3 := k4r.frozen 3
              have f4 := k4r.frozen 4
              have f5 := k4r.frozen 5
              have hbcm : bc ≤ maxLen := by unfold maxLen; omega
              go_wp2_with fail
              have kF := sto6_blk k4r (.int .i64 (j : Nat)) (.int .i64 0) (.int .i64 0) (.slice none 0 0) (.slice BA bn bc) (.slice (some ⟨g, 0, none⟩) 1 1)
              have e0 := kF.cell 0
              have e1 := kF.cell 1
              have e2 := kF.cell 2
              have e3 := kF.cell 3
              have e4 := kF.cell 4
              have e5 := kF.cell 5
              refine bodyPost_ret (v := .agg #[.int .i64 (j : Nat), .int .i64 0, .int .i64 0, .slice none 0 0, .slice BA bn bc, .slice (some ⟨g, 0, none⟩) 1 1]) (by simp [results, Tryz.results40, go_sem, *]) rfl ?_
              have hFr : From (q4 + 1) w14 (sto6 w14 q4 (.int .i64 (j : Nat)) (.int .i64 0) (.int .i64 0) (.slice none 0 0) (.slice BA bn bc) (.slice (some ⟨g, 0, none⟩) 1 1)) := sto6_from (Nat.lt_succ_self _) _ _ _ _ _ _
              have hUq : ∀ u, ExE.Up (q9 + 1) u → ExE.Up (q4 + 1) u := fun u h => ExE.Up.less (by omega) u h
              refine RdE.yes (y := kidE (j : Nat) BA bc bs g [y]) (s' := s14) ?_ ?_ ?_ ?_ ?_ ?_
              · rw [kidE_bare, ho2.out]
                rfl
              · rw [← hbn.out]
                rfl
              · refine kidE_G (show in64 (j : Nat) by unfold in64; omega) hb1'.out (by rw [hbn.out]; exact hb2') hbcm hb4'.out (Has.from (B := q4 + 1) hb614.out (fun a ha => by have := hb5'.out a ha; omega) hFr) (by rw [hbn.out]; omega) (fun u hu => ?_) (show 1 ≤ maxLen by unfold maxLen; omega) (Has.of_blk (Blk.from kgr.out (show q4 + 1 ≤ g by omega) hFr))
                rw [List.mem_singleton.1 hu]
                exact ExE.G.from hFr _ hGy14.out (hUq _ hUy.out)
              · refine .mk (fun a ha => by cases ha) (fun a ha => ?_) (fun a ha => ?_) (fun u hu => ?_)
                · rw [Hq4.out]
                  have := hb5'.out a ha
                  omega
                · injection ha with ha
                  rw [← ha, Hq4.out]
                  show q4 ≤ g
                  omega
                · rw [Hq4.out, List.mem_singleton.1 hu]
                  exact ExE.Up.less (Nat.le_succ _) _ (hUq _ hUy.out)
              · exact sto6_rdw hR14 (by rw [Hr0.out]; exact hr4) _ _ _ _ _ _
              · exact sto6_but (hB1.out.trans (by rw [Hr0.out]; exact hB114.out)) (Nat.le_of_eq Hq4.out) _ _ _ _ _ _
    · have hj9 : j = 6 := by omega
      subst hj9
      have hk := hkw.out
      rw [if_pos rfl] at hk
      cases hk
end Go.Proofs.YtnicbhmeigpjkaaGreatDoor
namespace Go.Proofs.YtnicbhmeigpjkaaGreatDoor
open Go.RowKit

theorem readN_chk (t : ByteArray) (h : (readN t).2 = 0) : chkM (readN t).1 = 0 := by
  unfold readN at h ⊢
  split at h
  · rename_i hp
    rw [if_pos hp]
    unfold fin2 at h ⊢
    split at h
    · cases h
    · rename_i out hout
      split at h
      · rename_i hm
        rw [if_pos hm]
        unfold mtextN at hm
        split at hm
        · rename_i hc
          exact absurd (congrArg Prod.snd hm) hc
        · rename_i hc
          simpa using hc
      · cases h
  · cases h
theorem parseM_le (M : Nat) : ∀ (l : List UInt8) (acc u : Nat), acc ≤ M → Lib.parseUintM M acc l = .ok u → u ≤ M
  | [], acc, u, h, e => by
    unfold Lib.parseUintM at e
    injection e with e
    omega
  | c :: r, acc, u, h, e => by
    unfold Lib.parseUintM at e
    split at e
    · split at e
      · cases e
      · split at e
        · cases e
        · exact parseM_le M r _ u (by omega) e
    · cases e
theorem numP_in {s : List UInt8} {v : Int} (h : numP s = some v) : in64 v := by
  unfold numP at h
  split at h
  · rename_i v' hp
    injection h with h
    subst h
    unfold Lib.parseIntB at hp
    split at hp
    · cases hp
    · rename_i c r
      simp only [] at hp
      split at hp
      · cases hp
      · cases hp
      · rename_i u hu
        split at hp
        · cases hp
        · rename_i h1
          split at hp
          · cases hp
          · rename_i h2
            injection hp with hp
            have e : (2 : Nat) ^ (64 - 1) = 9223372036854775808 := rfl
            rw [e] at h1 h2
            unfold in64
            split at hp
            · rename_i hn
              rw [← hp]
              have : ¬ 9223372036854775808 < u := fun h => h2 ⟨hn, h⟩
              omega
            · rename_i hn
              rw [← hp]
              have : ¬ 9223372036854775808 ≤ u := fun h => h1 ⟨hn, h⟩
              omega
  · cases h
set_option maxRecDepth 1000000 in
set_option maxHeartbeats 8000000 in
theorem xrd_leaf (w0 : World) (tL : LenAt w0) (tE : ErAt w0) (tS : SgAt w0) (tW : WdAt w0) (f : Nat) (hf : f < 100) (ih : RdIH w0 f) (w : World) (s : ByteArray) (hR : RdW w0 w s) (hs : s.size ≤ 4000) (hc : cutP [40] (bl s) = none) (hkw0 : kwP [3, 4, 5] (bl s) = none) :
    Calls Tryz.prog 40 #[.pointer (some ⟨w0.heap.size, 0, none⟩), .int .i64 ((f + 1 : Nat) : Int)] w (RdE w0 w (rdX (f + 1) (bl s))) := by
  obtain ⟨r0, hr0⟩ : ∃ r0, w0.heap.size = r0 := ⟨_, rfl⟩
  obtain ⟨n, hn⟩ : ∃ n : Int, ((f + 1 : Nat) : Int) = n := ⟨_, rfl⟩
  have hn0 : (n == 0) = false := by rw [beq_eq_false_iff_ne]; omega
  have hn1 : IntKind.i64.wrap (n - 1) = ((f : Nat) : Int) := by rw [IntWalk.i64_in _ (by omega)]; omega
  obtain ⟨W1, hW1⟩ : ∃ W1, w.alloc (.cells #[.int .i64 0, .int .i64 0, .int .i64 0, .slice none 0 0, .slice none 0 0, .slice none 0 0] 28) = W1 := ⟨_, rfl⟩
  obtain ⟨q4, hq4⟩ : ∃ q, w.heap.size = q := ⟨_, rfl⟩
  have hb1 : Below w.heap.size w W1 := by rw [← hW1]; exact one_allocB _ _
  have k4 : Blk W1 q4 28 #[.int .i64 0, .int .i64 0, .int .i64 0, .slice none 0 0, .slice none 0 0, .slice none 0 0] := by rw [← hW1]; exact Blk.newM _ _ _ _ hq4
  have hR1 := hR.next hb1
  have hB1 : But w0.heap.size w W1 := But.of hb1
  have hr4 : r0 < q4 := by rw [← hr0, ← hq4]; exact hR.size
  have hbw := hR.below
  rw [hn]
  obtain ⟨o, ho⟩ : ∃ o, rdX (f + 1) (bl s) = o := ⟨_, rfl⟩
  rw [ho]
  have HW1 := Lib.hid hW1
  have Hq4 := Lib.hid hq4
  replace k4 := Lib.hid k4
  replace hB1 := Lib.hid hB1
  replace hbw := Lib.hid hbw
  have Hr0 := Lib.hid hr0
  have HTake := Lib.hid (fun (w' : World) (s' p : ByteArray) (r : List UInt8) (h1 : RdW w0 w' s') (h2 : cutP (bl p) (bl s') = some r) => take_yes w0 w' s' p r h1 h2)
  have HTakeN := Lib.hid (fun (w' : World) (s' p : ByteArray) (h1 : RdW w0 w' s') (h2 : cutP (bl p) (bl s') = none) => take_no w0 w' s' p h1 h2)
  have HMust := Lib.hid (fun (w' : World) (s' p : ByteArray) (r : List UInt8) (h1 : RdW w0 w' s') (h2 : cutP (bl p) (bl s') = some r) => must_yes w0 w' s' p r h1 h2)
  have HMustN := Lib.hid (fun (w' : World) (s' p : ByteArray) (h1 : RdW w0 w' s') (h2 : cutP (bl p) (bl s') = none) => must_no w0 w' s' p h1 h2)
  have HI := Lib.hid ih
  unfold RdIH at HI
  rw [hr0] at HTake HTakeN HMust HMustN HI ⊢
  clear hW1 hq4 hb1 hn ih hR
  rw [rdX_leaf hc hkw0] at ho
  have HTN := Lib.hid (HTakeN.out W1 s ⟨#[40]⟩ hR1 hc)
  have hkw0' := Lib.hid hkw0
  replace ho := Lib.hid ho
  have tW' := Lib.hid tW
  have tL' := Lib.hid tL
  have tE' := Lib.hid tE
  have tS' := Lib.hid tS
  clear hc hR1 hkw0
  go_enter Tryz.func40, Tryz.ntmps40
  go_upto_region 1 with fail
  rw [HW1.out, Hq4.out]
  go_wp2_with fail
  refine HTN.out.mono ?_
  rintro e1 w2 ⟨rfl, hR2, hB2⟩
  rw [Hr0.out] at hB2
  have hR2' := Lib.hid hR2
  replace hB2 := Lib.hid hB2
  clear hR2
  go_wp2_with fail
  go_loopw [8] (fun kv wr => ∃ (j : Nat), 3 ≤ j ∧ j ≤ 6 ∧ kv = .int .i64 (j : Nat) ∧ Hid (kwP (if j = 6 then [] else kwFrom j) (bl s) = none) ∧ Hid (RdW w0 wr s) ∧ Hid (But r0 w2 wr)) (fun kv _ => 20 - (intOf kv).toNat)
  case atStart => exact ⟨3, by omega, by omega, rfl, hkw0', hR2', Lib.hid (But.refl _ _)⟩
  case round =>
    obtain ⟨j, hj1, hj2, rfl, hkw, hRr, hBr⟩ := hrel
    by_cases hlt : (j : Int) ≤ 5
    · have hj8 : j ≤ 5 := by omega
      have hjn : (9 : Nat) > j := by omega
      have wc := (tW'.out.next hRr.out.below).2 j (by omega)
      obtain ⟨wd, hwd⟩ : ∃ wd, wdB j = wd := ⟨_, rfl⟩
      have hwb : bl wd = wB (j : Int) := by rw [← hwd, wdB_bl]
      rw [hwd] at wc
      have hk := hkw.out
      rw [if_neg (by omega)] at hk
      have hk2 : (match cutP (wB (j : Int)) (bl s) with | some r => some ((j : Int), r) | none => kwP (if j + 1 = 6 then [] else kwFrom (j + 1)) (bl s)) = none := by
        rw [← hk]
        rcases (show j = 3 ∨ j = 4 ∨ j = 5 by omega) with rfl | rfl | rfl
        · rfl
        · rfl
        · show _ = kwP [5] (bl s)
          unfold kwP
          rfl
      cases hcw : cutP (wB (j : Int)) (bl s) with
      | none =>
        rw [hcw] at hk2
        have HT := Lib.hid (HTakeN.out wr s wd hRr.out (by rw [hwb]; exact hcw))
        replace hk2 := Lib.hid hk2
        clear hwd hwb hcw hk
        go_wp2_with fail
        refine HT.out.mono ?_
        rintro e1 w6 ⟨rfl, hR6, hB6⟩
        rw [Hr0.out] at hB6
        have hB6' := Lib.hid (hBr.out.trans hB6)
        replace hR6 := Lib.hid hR6
        go_wp2_with fail
        go_roundw
        case rel => exact ⟨j + 1, by omega, by omega, by go_num, hk2, hR6, hB6'⟩
        case measure => simp [intOf]; omega
      | some s6 =>
        rw [hcw] at hk2
        cases hk2
    · have hj9 : j = 6 := by omega
      subst hj9
      clear hkw hkw0'
      have hB1r := Lib.hid (hB2.out.trans hBr.out)
      have hcr : wr.cell? ⟨r0, 0, none⟩ = some (.string s) := by have := hRr.out.cell.cell 0; rw [Hr0.out] at this; exact this
      have HH := Tryz.strings_HasPrefix s ⟨#[123]⟩ wr
      rw [show s.data.toList = bl s from rfl, show (⟨#[123]⟩ : ByteArray).data.toList = [123] from rfl] at HH
      have hW1s : q4 < W1.heap.size := k4.out.lt
      have hlf := ho.out
      unfold leafP at hlf
      cases hp : Lib.hasPrefix (bl s) [123] with
      | true =>
        rw [hp] at HH hlf
        rw [if_pos rfl] at hlf
        replace HH := Lib.hid HH
        replace hlf := Lib.hid hlf
        clear hp ho
        go_wp2_with fail
        refine HH.out.mono ?_
        rintro e1 w3 ⟨rfl, hw3⟩
        obtain rfl := hw3.symm
        have hBr2 := braces_any w0 wr s hRr.out (by omega)
        rw [Hr0.out] at hBr2
        cases hbi : braceI false (sb s) with
        | none =>
          rw [hbi] at hBr2
          replace hBr2 : Calls Tryz.prog 70 #[.pointer (some ⟨r0, 0, none⟩)] wr (RP w0 wr) := hBr2
          replace hBr2 := Lib.hid hBr2
          have ho2 := Lib.hid (show o = none by rw [← hlf.out]; unfold braceP; rw [show (bl s).map (·.toNat) = sb s from rfl, hbi]; rfl)
          clear hbi hcr
          go_wp2_with fail
          refine hBr2.out.mono ?_
          rintro e1 w4 ⟨rfl, hb4, hB4⟩
          rw [Hr0.out] at hB4
          go_wp2_with fail
          exact ⟨rfl, RdE.no ho2.out hb4 (by rw [Hr0.out]; exact (by rw [← Hr0.out]; exact hB1.out : But r0 w W1).trans (hB1r.out.trans hB4))⟩
        | some i =>
          rw [hbi] at hBr2
          have hil : i < s.size := by have := braceI_lt _ false _ i (Nat.le_refl _) hbi; rw [sb_len] at this; exact this
          have hlf2 := hlf.out
          have hbp : braceP (bl s) = some ((bl s).take (i + 1), (bl s).drop (i + 1)) := by unfold braceP; rw [show (bl s).map (·.toNat) = sb s from rfl, hbi]; rfl
          rw [hbp] at hlf2
          simp only [Option.bind_some] at hlf2
          obtain ⟨t, ht⟩ : ∃ t, s.extract 0 (i + 1) = t := ⟨_, rfl⟩
          obtain ⟨s4, hs4⟩ : ∃ t, s.extract (i + 1) s.size = t := ⟨_, rfl⟩
          have htl : (⟨((bl s).take (i + 1)).toArray⟩ : ByteArray) = t := bl_ext (by rw [← ht, bl_extract, bl_arr, List.drop_zero])
          have hs4l : (bl s).drop (i + 1) = bl s4 := by rw [← hs4, bl_extract, List.take_of_length_le (by rw [bl_len]; exact Nat.le_refl _)]
          replace hBr2 : Calls Tryz.prog 70 #[.pointer (some ⟨r0, 0, none⟩)] wr (RT (.string (s.extract 0 (i + 1))) w0 wr (s.extract (i + 1) s.size)) := hBr2
          rw [ht, hs4] at hBr2
          rw [htl, hs4l] at hlf2
          have hts : t.size ≤ 4000 := by rw [← ht, ByteArray.size_extract]; omega
          have hs4s : s4.size ≤ 4000 := by rw [← hs4, ByteArray.size_extract]; omega
          have hRM := fun (w' : World) (h : RdW w0 w' s4) => lreadm_any t (by omega) w' (tS'.out.next h.below)
          obtain ⟨hm1, hm2⟩ := readN_ok t
          have hm3 : (readN t).2 = 0 → chkM (readN t).1 = 0 := readN_chk t
          obtain ⟨M, hM⟩ : ∃ M, readN t = M := ⟨_, rfl⟩
          rw [hM] at hRM hm1 hm2 hm3 hlf2
          obtain ⟨ms, me⟩ := M
          simp only [] at hm1 hm2 hm3 hlf2
          obtain ⟨mn, hmn⟩ : ∃ mn, ms.length = mn := ⟨_, rfl⟩
          rw [hmn] at hm2
          replace hBr2 := Lib.hid hBr2
          replace hRM := Lib.hid hRM
          replace hm1 := Lib.hid hm1
          replace hm3 := Lib.hid hm3
          replace hlf2 := Lib.hid hlf2
          have Hmn := Lib.hid hmn
          clear hlf hbp ht hs4 htl hs4l hM hbi hmn hcr HH
          go_wp2_with fail
          refine hBr2.out.mono ?_
          rintro e1 w4 ⟨rfl, hR4, hB4⟩
          rw [Hr0.out] at hB4
          have hRM4 := Lib.hid (hRM.out w4 hR4)
          have hB14 := Lib.hid (hB1r.out.trans hB4)
          replace hR4 := Lib.hid hR4
          clear hB4
          go_wp2_with fail
          refine hRM4.out.mono ?_
          rintro e1 w5 ⟨u, rfl, MA, mc, rfl, hown, hb5⟩
          simp only [] at hown ⊢
          rw [Hmn.out] at hown ⊢
          obtain ⟨hmc1, hmc2⟩ := own_len hown
          have hR5 := Lib.hid (hR4.out.next hb5)
          have hB15 := Lib.hid (hB14.out.trans (But.of hb5))
          have hwq : q4 + 1 ≤ w4.heap.size := Nat.le_trans hW1s hB14.out.size
          have hMh := Lib.hid (Has.of_own hown)
          have hMu : Hid ((∀ a, MA = some a → q4 + 1 ≤ a.block) ∧ (MA = none → mc = 0)) := Lib.hid (by
            refine ⟨fun a ha => ?_, fun h => ?_⟩
            · rcases hown.2 with ⟨e, _⟩ | ⟨g, cap, cur, e, hg, _⟩
              · injection e with e1
                rw [e1] at ha
                cases ha
              · injection e with e1
                rw [e1] at ha
                injection ha with ha
                rw [← ha]
                exact Nat.le_trans hwq hg
            · subst h
              exact (own_nilM hown).2)
          clear hown hb5
          by_cases hme : me = 0
          case neg =>
            have ho2 := Lib.hid (show o = none by rw [← hlf2.out, if_pos hme])
            have d1 : (me != 0) = true := by rw [bne_iff_ne]; exact hme
            clear hlf2
            go_wp2_with fail
            exact ⟨rfl, RdE.no ho2.out hR5.out.below (by rw [Hr0.out]; exact (by rw [← Hr0.out]; exact hB1.out : But r0 w W1).trans (hB15.out))⟩
          case pos =>
            subst hme
            have hlf3 := hlf2.out
            rw [if_neg (fun h => h rfl)] at hlf3
            clear hlf2
            cases hd : cutP [91] (bl s4) with
            | none =>
              rw [hd] at hlf3
              have HM := Lib.hid (HMustN.out w5 s4 ⟨#[91]⟩ hR5.out hd)
              have ho2 := Lib.hid hlf3.symm
              clear hlf3 hd
              go_wp2_with fail
              refine HM.out.mono ?_
              rintro e1 w6 ⟨rfl, hb6, hB6⟩
              rw [Hr0.out] at hB6
              go_wp2_with fail
              exact ⟨rfl, RdE.no ho2.out hb6 (by rw [Hr0.out]; exact (by rw [← Hr0.out]; exact hB1.out : But r0 w W1).trans (hB15.out.trans hB6))⟩
            | some s6l =>
              rw [hd] at hlf3
              simp only [Option.bind_some] at hlf3
              obtain ⟨s6, hs6⟩ : ∃ x : ByteArray, (⟨s6l.toArray⟩ : ByteArray) = x := ⟨_, rfl⟩
              have HM := HMust.out w5 s4 ⟨#[91]⟩ s6l hR5.out hd
              rw [hs6] at HM
              have hbl6 : bl s6 = s6l := by rw [← hs6, bl_arr]
              subst hbl6
              have hs6s : s6.size ≤ 4000 := by have h1 := cutP_le hd; have h2 := bl_len s6; have h3 := bl_len s4; omega
              replace HM := Lib.hid HM
              replace hlf3 := Lib.hid hlf3
              clear hd hs6
              go_wp2_with fail
              refine HM.out.mono ?_
              rintro e1 w6 ⟨rfl, hR6, hB6⟩
              rw [Hr0.out] at hB6
              have hB16 := Lib.hid (hB15.out.trans hB6)
              have hMh6 := Lib.hid (Has.from (B := q4 + 1) hMh.out hMu.out.1 (From.but hB6 (by omega)))
              replace hR6 := Lib.hid hR6
              clear hB6
              cases hu : untilP 93 (bl s6) with
              | none =>
                have hU := until_no w0 w6 s6 93 hR6.out (by omega) (tL'.out.next hR6.out.below) hu
                rw [Hr0.out] at hU
                have ho2 := Lib.hid (show o = none by rw [← hlf3.out, hu]; rfl)
                replace hU := Lib.hid hU
                clear hu hlf3
                go_wp2_with fail
                refine hU.out.mono ?_
                rintro e1 w7 ⟨rfl, hb7, hB7⟩
                rw [Hr0.out] at hB7
                go_wp2_with fail
                exact ⟨rfl, RdE.no ho2.out hb7 (by rw [Hr0.out]; exact (by rw [← Hr0.out]; exact hB1.out : But r0 w W1).trans (hB16.out.trans hB7))⟩
              | some x =>
                obtain ⟨a, r⟩ := x
                have hU := until_yes w0 w6 s6 93 a r hR6.out (by omega) (tL'.out.next hR6.out.below) hu
                rw [Hr0.out] at hU
                obtain ⟨ab, hab⟩ : ∃ x : ByteArray, (⟨a.toArray⟩ : ByteArray) = x := ⟨_, rfl⟩
                obtain ⟨s7, hs7⟩ : ∃ x : ByteArray, (⟨r.toArray⟩ : ByteArray) = x := ⟨_, rfl⟩
                rw [hab, hs7] at hU
                have habl : bl ab = a := by rw [← hab, bl_arr]
                have hs7l : bl s7 = r := by rw [← hs7, bl_arr]
                have hal := (untilP_le hu).2
                have habs : ab.size ≤ 4000 := by have h1 := bl_len s6; have h2 := bl_len ab; rw [habl] at h2; omega
                have hlf4 := hlf3.out
                rw [hu] at hlf4
                simp only [Option.bind_some] at hlf4
                rw [← habl, ← hs7l] at hlf4
                replace hU := Lib.hid hU
                replace hlf4 := Lib.hid hlf4
                clear hu hlf3 hab hs7 habl hs7l hal
                go_wp2_with fail
                refine hU.out.mono ?_
                rintro e1 w7 ⟨rfl, hR7, hB7⟩
                rw [Hr0.out] at hB7
                have hB17 := Lib.hid (hB16.out.trans hB7)
                have hMh7 := Lib.hid (Has.from (B := q4 + 1) hMh6.out hMu.out.1 (From.but hB7 (by omega)))
                replace hR7 := Lib.hid hR7
                clear hB7
                cases hnum : numP (bl ab) with
                | none =>
                  have hN := Lib.hid (number_no w7 ab (by omega) (tE'.out.next hR7.out.below) hnum)
                  have ho2 := Lib.hid (show o = none by rw [← hlf4.out, hnum]; rfl)
                  clear hlf4 hnum
                  go_wp2_with fail
                  refine hN.out.mono ?_
                  rintro e1 w8 ⟨rfl, hb8⟩
                  have hR8 := Lib.hid (hR7.out.next hb8)
                  have hB18 := Lib.hid (hB17.out.trans (But.of hb8))
                  go_wp2_with fail
                  exact ⟨rfl, RdE.no ho2.out hR8.out.below (by rw [Hr0.out]; exact (by rw [← Hr0.out]; exact hB1.out : But r0 w W1).trans (hB18.out))⟩
                | some v =>
                  have hN := Lib.hid (number_yes w7 ab v (by omega) hnum)
                  have hv64 := Lib.hid (numP_in hnum)
                  have ho2 := Lib.hid (show o = some (bx 2 0 v ms [] [], bl s7) by rw [← hlf4.out, hnum]; rfl)
                  clear hlf4 hnum
                  go_wp2_with fail
                  refine hN.out.mono ?_
                  rintro e1 w8 ⟨rfl, hb8⟩
                  have hR8 := Lib.hid (hR7.out.next hb8)
                  have hB18 := Lib.hid (hB17.out.trans (But.of hb8))
                  have hMh8 := Lib.hid (hMh7.out.next hb8)
                  have k4r := k4.out.but (Nat.ne_of_gt hr4) hB18.out
                  have d0 := k4r.cell 0
                  have d1 := k4r.cell 1
                  have d2 := k4r.cell 2
                  have d3 := k4r.cell 3
                  have d4 := k4r.cell 4
                  have d5 := k4r.cell 5
                  have f0 := k4r.frozen 0
                  have f1 := k4r.frozen 1
                  have f2 := k4r.frozen 2
                  have f3 := k4r.frozen 3
                  have f4 := k4r.frozen 4
                  have f5 := k4r.frozen 5
                  go_wp2_with fail
                  have kF := sto6_blk k4r (.int .i64 2) (.int .i64 0) (.int .i64 v) (.slice MA mn mc) (.slice none 0 0) (.slice none 0 0)
                  have e0 := kF.cell 0
                  have e1 := kF.cell 1
                  have e2 := kF.cell 2
                  have e3 := kF.cell 3
                  have e4 := kF.cell 4
                  have e5 := kF.cell 5
                  refine bodyPost_ret (v := .agg #[.int .i64 2, .int .i64 0, .int .i64 v, .slice MA mn mc, .slice none 0 0, .slice none 0 0]) (by simp [results, Tryz.results40, go_sem, *]) rfl ?_
                  have hFr : From (q4 + 1) w8 (sto6 w8 q4 (.int .i64 2) (.int .i64 0) (.int .i64 v) (.slice MA mn mc) (.slice none 0 0) (.slice none 0 0)) := sto6_from (Nat.lt_succ_self _) _ _ _ _ _ _
                  refine RdE.yes (y := .mk 2 0 v MA mc ms none 0 [] none 0 []) (s' := s7) ?_ ?_ ?_ ?_ ?_ ?_
                  · rw [ho2.out]
                    rfl
                  · rw [← Hmn.out]
                    rfl
                  · have hm4 : 4000 ≤ maxLen := by unfold maxLen; omega
                    exact .mk ⟨(show in64 2 from ⟨by decide, by decide⟩), (show in64 0 from ⟨by decide, by decide⟩), hv64.out, (fun x hx => ⟨by have h := hm3.out trivial; have h2 := mtR_of h x hx; unfold in64; exact ⟨by have := h2.2.1; omega, by have := h2.2.2; omega⟩, by have := (hm1.out x hx).1; omega, by have := (hm1.out x hx).2; omega⟩), (by show ms.length ≤ mc; rw [Hmn.out]; exact hmc1), hmc2, hMu.out.2, Has.from (B := q4 + 1) hMh8.out hMu.out.1 hFr, (fun _ hx => absurd hx (List.not_mem_nil)), Nat.le_refl _, Nat.zero_le _, (fun _ => rfl), Has.nil _ _ _, Nat.zero_le _, Nat.le_refl _, Nat.zero_le _, (fun _ => rfl), Has.nil _ _ _⟩ (fun _ hy => absurd hy (List.not_mem_nil))
                  · exact .mk (fun a ha => by rw [Hq4.out]; have := hMu.out.1 a ha; omega) (fun a ha => by cases ha) (fun a ha => by cases ha) (fun u hu => absurd hu (List.not_mem_nil))
                  · exact sto6_rdw hR8.out (by rw [Hr0.out]; exact hr4) _ _ _ _ _ _
                  · exact sto6_but (hB1.out.trans (by rw [Hr0.out]; exact hB18.out)) (Nat.le_of_eq Hq4.out) _ _ _ _ _ _
      | false =>
        rw [hp] at HH hlf
        rw [if_neg (by decide)] at hlf
        have hB1w := Lib.hid hB1r.out
        have HIx := Lib.hid (idxNum_any s wr)
        have hidx := idx_num s
        have hrg := Lib.idxFunc_range notNum true s
        obtain ⟨ix, hix⟩ : ∃ ix, Lib.idxFunc notNum true s = ix := ⟨_, rfl⟩
        rw [hix] at HIx hidx hrg
        obtain ⟨ni, hni⟩ : ∃ ni, numI (bl s) = ni := ⟨_, rfl⟩
        rw [hni] at hidx hlf
        have hnis : ni ≤ s.size := by
          rw [← hni, ← bl_len]
          exact (List.takeWhile_sublist _).length_le
        replace HH := Lib.hid HH
        replace hlf := Lib.hid hlf
        clear hp ho hix hni
        go_wp2_with fail
        refine HH.out.mono ?_
        rintro e1 w3 ⟨rfl, hw3⟩
        obtain rfl := hw3.symm
        replace hidx := Lib.hid hidx
        replace hrg := Lib.hid hrg
        go_upto_if 102 with fail
        refine HIx.out.mono ?_
        rintro e1 w4 ⟨rfl, hb4⟩
        have hR4 := Lib.hid (hRr.out.next hb4)
        have hB14 := Lib.hid (hB1r.out.trans (But.of hb4))
        have hc4 : w4.cell? ⟨r0, 0, none⟩ = some (.string s) := by have := hR4.out.cell.cell 0; rw [Hr0.out] at this; exact this
        have hf4 : w4.frozen? ⟨r0, 0, none⟩ = false := by have := hR4.out.cell.frozen 0; rw [Hr0.out] at this; exact this
        clear hb4 hcr
        obtain ⟨bx0, hbx⟩ : ∃ b, decide (ix < 0) = b := ⟨_, rfl⟩
        go_upto_if 102 with fail
        go_cut [12] from 101 to 107 (fun s12 wx => s12 = .int .i64 (ni : Nat) ∧ Hid (wx = w4))
        case first =>
          have hd := hidx.out
          cases bx0 with
          | true =>
            have hneg : ix < 0 := of_decide_eq_true hbx
            rw [if_pos hneg] at hd
            have hv := Lib.hid (show Value.int .i64 ((s.size : Nat) : Int) = Value.int .i64 ((ni : Nat) : Int) by rw [hd])
            clear hd hneg
            go_wp2_with fail
            go_meet
            case rel => exact ⟨hv.out, Lib.hid rfl⟩
          | false =>
            have hneg : ¬ ix < 0 := of_decide_eq_false hbx
            rw [if_neg hneg] at hd
            have hv := Lib.hid (show Value.int .i64 ix = Value.int .i64 ((ni : Nat) : Int) by rw [hd])
            clear hd hneg
            go_wp2_with fail
            go_meet
            case rel => exact ⟨hv.out, Lib.hid rfl⟩
        case rest =>
          obtain ⟨rfl, hwc⟩ := hcut
          obtain rfl := hwc.out
          clear hidx hrg hbx HIx HH
          have hni0 : (0 : Int) ≤ (ni : Int) := by omega
          have hni1 : (ni : Int) ≤ (s.size : Int) := by omega
          obtain ⟨t, ht⟩ : ∃ t, s.extract 0 ni = t := ⟨_, rfl⟩
          obtain ⟨s5, hs5⟩ : ∃ t, s.extract ni s.size = t := ⟨_, rfl⟩
          have htl : (bl s).take ni = bl t := by rw [← ht, bl_extract, List.drop_zero]
          have hs5l : (bl s).drop ni = bl s5 := by rw [← hs5, bl_extract, List.take_of_length_le (by rw [bl_len]; exact Nat.le_refl _)]
          have hts : t.size ≤ 4000 := by rw [← ht, ByteArray.size_extract]; omega
          have hlf2 := hlf.out
          rw [htl, hs5l] at hlf2
          obtain ⟨W6, hW6⟩ : ∃ W, wc.setCell ⟨r0, 0, none⟩ (.string s5) = W := ⟨_, rfl⟩
          have hR6 : RdW w0 W6 s5 := by
            rw [← hW6, ← Hr0.out]
            exact ⟨hR4.out.below.setCell (Nat.le_refl _) _, hR4.out.cell.set 0 (.string s5)⟩
          have hB16 : But r0 W1 W6 := by rw [← hW6]; exact hB14.out.trans (But.set r0 0 wc _)
          replace hlf2 := Lib.hid hlf2
          have Ht := Lib.hid ht
          have Hs5 := Lib.hid hs5
          have HW6 := Lib.hid hW6
          replace hR6 := Lib.hid hR6
          replace hB16 := Lib.hid hB16
          clear ht hs5 hW6 hlf htl hs5l
          go_upto_region 35 with fail
          rw [Ht.out, Hs5.out, HW6.out]
          clear hc4 hf4
          cases hnum : numP (bl t) with
          | none =>
            have hN := Lib.hid (number_no W6 t (by omega) (tE'.out.next hR6.out.below) hnum)
            have ho2 := Lib.hid (show o = none by rw [← hlf2.out, hnum]; rfl)
            clear hlf2 hnum
            go_wp2_with fail
            refine hN.out.mono ?_
            rintro e1 w8 ⟨rfl, hb8⟩
            have hR8 := Lib.hid (hR6.out.next hb8)
            have hB18 := Lib.hid (hB16.out.trans (But.of hb8))
            go_wp2_with fail
            exact ⟨rfl, RdE.no ho2.out hR8.out.below (by rw [Hr0.out]; exact (by rw [← Hr0.out]; exact hB1.out : But r0 w W1).trans (hB18.out))⟩
          | some v =>
            have hN := Lib.hid (number_yes W6 t v (by omega) hnum)
            have hv64 := Lib.hid (numP_in hnum)
            have ho2 := Lib.hid (show o = some (bx 1 v 0 [] [] [], bl s5) by rw [← hlf2.out, hnum]; rfl)
            clear hlf2 hnum
            go_wp2_with fail
            refine hN.out.mono ?_
            rintro e1 w8 ⟨rfl, hb8⟩
            have hR8 := Lib.hid (hR6.out.next hb8)
            have hB18 := Lib.hid (hB16.out.trans (But.of hb8))
            have k4r := k4.out.but (Nat.ne_of_gt hr4) hB18.out
            have d0 := k4r.cell 0
            have d1 := k4r.cell 1
            have d2 := k4r.cell 2
            have d3 := k4r.cell 3
            have d4 := k4r.cell 4
            have d5 := k4r.cell 5
            have f0 := k4r.frozen 0
            have f1 := k4r.frozen 1
            have f2 := k4r.frozen 2
            have f3 := k4r.frozen 3
            have f4 := k4r.frozen 4
            have f5 := k4r.frozen 5
            go_wp2_with fail
            have kF := sto6_blk k4r (.int .i64 1) (.int .i64 v) (.int .i64 0) (.slice none 0 0) (.slice none 0 0) (.slice none 0 0)
            have e0 := kF.cell 0
            have e1 := kF.cell 1
            have e2 := kF.cell 2
            have e3 := kF.cell 3
            have e4 := kF.cell 4
            have e5 := kF.cell 5
            refine bodyPost_ret (v := .agg #[.int .i64 1, .int .i64 v, .int .i64 0, .slice none 0 0, .slice none 0 0, .slice none 0 0]) (by simp [results, Tryz.results40, go_sem, *]) rfl ?_
            refine RdE.yes (y := numE v) (s' := s5) ?_ rfl (numE_G hv64.out _) ?_ ?_ ?_
            · rw [ho2.out]
              rfl
            · exact .mk (fun a ha => by cases ha) (fun a ha => by cases ha) (fun a ha => by cases ha) (fun u hu => absurd hu (List.not_mem_nil))
            · exact sto6_rdw hR8.out (by rw [Hr0.out]; exact hr4) _ _ _ _ _ _
            · exact sto6_but (hB1.out.trans (by rw [Hr0.out]; exact hB18.out)) (Nat.le_of_eq Hq4.out) _ _ _ _ _ _
end Go.Proofs.YtnicbhmeigpjkaaGreatDoor
namespace Go.Proofs.YtnicbhmeigpjkaaGreatDoor
open Go.RowKit

theorem xrd_any (w0 : World) (tL : LenAt w0) (tE : ErAt w0) (tS : SgAt w0) (tW : WdAt w0) : ∀ f : Nat, f ≤ 100 → RdIH w0 f
  | 0, _ => xrd_zero w0
  | f + 1, hf => by
    have ih := xrd_any w0 tL tE tS tW f (by omega)
    intro w s hR hs
    cases hc : cutP [40] (bl s) with
    | some s1 => exact xrd_open w0 tW f (by omega) ih w s hR hs s1 hc
    | none =>
      cases hk : kwP [3, 4, 5] (bl s) with
      | some k => exact xrd_word w0 tL tW f (by omega) ih w s hR hs k hc hk
      | none => exact xrd_leaf w0 tL tE tS tW f (by omega) ih w s hR hs hc hk
set_option maxRecDepth 1000000 in
set_option maxHeartbeats 4000000 in
theorem catch_idle (p q : Nat) (w : World) :
    CallsD Tryz.prog 39 #[.pointer (some ⟨p, 0, none⟩), .pointer (some ⟨q, 0, none⟩)] .returning w fun e u' w' => e = .returned (.tuple #[]) ∧ u' = .returning ∧ Below w.heap.size w w' := by
  have hta : (Instr.typeAssert .nilIface 20 87 true).run Tryz.prog w = .ok (.tuple #[.agg #[], .bool false]) w := by kernel_rfl
  refine callsD_of_wpS Tryz.func39 rfl fun c₀ cs hu => ?_
  have hb : Below w.heap.size w (w.alloc (.cells #[] 87)) := one_allocB _ _
  rw [Tryz.ntmps39]
  show Code.wpS _ _ _ { tmps := #[.pointer (some ⟨p, 0, none⟩), .pointer (some ⟨q, 0, none⟩), undef, undef, undef, undef, undef, undef, undef, undef, undef], defers := [] } _ _
  apply wpS_seq
  apply wpS_region
  simp [wpOpsS, go_sem, recoverD, hu, Exit.thenS, hta]
  apply wpS_seq
  apply wpS_region
  simp [wpOpsS, go_sem, Exit.thenS]
  refine wpS_cond (t := false) (by simp [Act.eval]) ?_
  simp only [Bool.false_eq_true, if_false]
  refine wpS_of_wp (wp_skip ?_)
  cases c₀
  simp_all [bodyPostS, results, Tryz.results39]
set_option maxRecDepth 1000000 in
set_option maxHeartbeats 4000000 in
theorem catch_bad (p q : Nat) (w : World) (v0 v1 v2 v3 v4 v5 vq : Value) (kp : Blk w p 28 #[v0, v1, v2, v3, v4, v5]) (kq : Blk w q 31 #[vq]) (hpq : p ≠ q) :
    CallsD Tryz.prog 39 #[.pointer (some ⟨p, 0, none⟩), .pointer (some ⟨q, 0, none⟩)] (.panicking PanB) w fun e u' w' => e = .returned (.tuple #[]) ∧ u' = .panicking [{ v := .iface 87 (.agg #[]), recovered := true }] ∧ Blk w' p 28 #[.int .i64 0, .int .i64 0, .int .i64 0, .slice none 0 0, .slice none 0 0, .slice none 0 0] ∧ Blk w' q 31 #[.int .i64 4] ∧ ∀ B, B ≤ p → B ≤ q → B ≤ w.heap.size → Below B w w' := by
  have hta : (Instr.typeAssert (.iface 87 (.agg #[])) 20 87 true).run Tryz.prog w = .ok (.tuple #[.agg #[], .bool true]) w := by kernel_rfl
  refine callsD_of_wpS Tryz.func39 rfl fun c₀ cs hu => ?_
  obtain ⟨W1, hW1⟩ : ∃ W1, w.alloc (.cells #[] 87) = W1 := ⟨_, rfl⟩
  have hb : Below w.heap.size w W1 := by rw [← hW1]; exact one_allocB _ _
  have kp1 := kp.next hb
  have kq1 := kq.next hb
  have c0 := kp1.cell 0
  have c1 := kp1.cell 1
  have c2 := kp1.cell 2
  have c3 := kp1.cell 3
  have c4 := kp1.cell 4
  have c5 := kp1.cell 5
  have f0 := kp1.frozen 0
  have f1 := kp1.frozen 1
  have f2 := kp1.frozen 2
  have f3 := kp1.frozen 3
  have f4 := kp1.frozen 4
  have f5 := kp1.frozen 5
  have cq := kq1.cell 0
  have fq := kq1.frozen 0
  simp only [PanB] at hu
  rw [Tryz.ntmps39]
  show Code.wpS _ _ _ { tmps := #[.pointer (some ⟨p, 0, none⟩), .pointer (some ⟨q, 0, none⟩), undef, undef, undef, undef, undef, undef, undef, undef, undef], defers := [] } _ _
  apply wpS_seq
  apply wpS_region
  simp [wpOpsS, go_sem, recoverD, hu, Exit.thenS, hta]
  rw [hW1]
  apply wpS_seq
  apply wpS_region
  simp [wpOpsS, go_sem, Exit.thenS]
  refine wpS_cond (t := true) (by simp [Act.eval]) ?_
  simp only [if_true]
  apply wpS_region
  simp [wpOpsS, go_sem, *]
  refine ⟨rfl, _, rfl, .tuple #[], results_none rfl _ _ _, rfl, rfl, ?_, ?_, ?_⟩
  · exact (Below.heap_setCell _ _ _ _ (by show p ≠ q; exact hpq)).trans (sto6_blk kp1 _ _ _ _ _ _)
  · have k6 : Blk (sto6 W1 p (.int .i64 0) (.int .i64 0) (.int .i64 0) (.slice none 0 0) (.slice none 0 0) (.slice none 0 0)) q 31 #[vq] := by
      have hs : ∀ (w : World) (i : Nat) (u : Value), Blk w q 31 #[vq] → Blk (w.setCell ⟨p, i, none⟩ u) q 31 #[vq] := fun w i u h => (Below.heap_setCell _ _ _ _ (by show q ≠ p; exact fun e => hpq e.symm)).trans h
      exact hs _ _ _ (hs _ _ _ (hs _ _ _ (hs _ _ _ (hs _ _ _ (hs _ _ _ kq1)))))
    exact k6.set 0 _
  · intro B h1 h2 h3
    exact ((((((((hb.mono h3).setCell h1 _).setCell h1 _).setCell h1 _).setCell h1 _).setCell h1 _).setCell h1 _)).setCell h2 _
end Go.Proofs.YtnicbhmeigpjkaaGreatDoor
namespace Go.Proofs.YtnicbhmeigpjkaaGreatDoor
open Go.RowKit

theorem below_hid {B : Nat} {a b : World} (h : Hid (Below B a b)) : Below B a b := h
theorem blk_setO {w : World} {g q : Nat} {t : TypeId} {cs : Array Value} (h : Blk w g t cs) (hn : g ≠ q) (i : Nat) (u : Value) : Blk (w.setCell ⟨q, i, none⟩ u) g t cs := (Below.heap_setCell _ _ _ _ hn).trans h
theorem blk_sto6 {w : World} {g q : Nat} {t : TypeId} {cs : Array Value} (h : Blk w g t cs) (hn : g ≠ q) (v0 v1 v2 v3 v4 v5 : Value) : Blk (sto6 w q v0 v1 v2 v3 v4 v5) g t cs := blk_setO (blk_setO (blk_setO (blk_setO (blk_setO (blk_setO h hn _ _) hn _ _) hn _ _) hn _ _) hn _ _) hn _ _
theorem sto6_below {B : Nat} {a w : World} {q : Nat} (h : Below B a w) (hq : B ≤ q) (v0 v1 v2 v3 v4 v5 : Value) : Below B a (sto6 w q v0 v1 v2 v3 v4 v5) := (((((h.setCell (p := ⟨q, 0, none⟩) hq _).setCell (p := ⟨q, 1, none⟩) hq _).setCell (p := ⟨q, 2, none⟩) hq _).setCell (p := ⟨q, 3, none⟩) hq _).setCell (p := ⟨q, 4, none⟩) hq _).setCell (p := ⟨q, 5, none⟩) hq _
/-- what Read gives -/
def RdT (w : World) (x : ExE × Int) (v : Value) (w' : World) : Prop :=
  ∃ y : ExE, v = .tuple #[exV y, .int .i64 x.2] ∧ y.bare = x.1 ∧ y.G w' ∧ y.cnt ≤ 5000 ∧ Below w.heap.size w w'
theorem zeroE_G (w : World) : zeroE.G w :=
  .mk ⟨(show in64 0 from ⟨by decide, by decide⟩), (show in64 0 from ⟨by decide, by decide⟩), (show in64 0 from ⟨by decide, by decide⟩), (fun _ hx => absurd hx (List.not_mem_nil)), Nat.le_refl _, Nat.zero_le _, (fun _ => rfl), Has.nil _ _ _, (fun _ hx => absurd hx (List.not_mem_nil)), Nat.le_refl _, Nat.zero_le _, (fun _ => rfl), Has.nil _ _ _, Nat.zero_le _, Nat.le_refl _, Nat.zero_le _, (fun _ => rfl), Has.nil _ _ _⟩ (fun _ hy => absurd hy (List.not_mem_nil))
theorem RdT.zero {w w' : World} {x : ExE × Int} {k : Int} (h : x = (zeroE, k)) (hb : Below w.heap.size w w') : RdT w x (.tuple #[.agg #[.int .i64 0, .int .i64 0, .int .i64 0, .slice none 0 0, .slice none 0 0, .slice none 0 0], .int .i64 k]) w' := by
  subst h
  exact ⟨zeroE, rfl, rfl, zeroE_G _, by decide, hb⟩
set_option maxRecDepth 1000000 in
set_option maxHeartbeats 8000000 in
theorem xRead_any (s : ByteArray) (w : World) (tL : LenAt w) (tE : ErAt w) (tS : SgAt w) (tW : WdAt w) (tP : PwAt w) :
    Calls Tryz.prog 22 #[.string s] w (RV (RdT w (readX s))) := by
  have hmf : ∀ (fn : Fn) (first cap : Array Value) (w : World), (Instr.makeFunc fn first cap).run Tryz.prog w = .ok (.func fn first cap) w := fun _ _ _ _ => rfl
  obtain ⟨X, hX⟩ : ∃ X, readX s = X := ⟨_, rfl⟩
  rw [hX]
  obtain ⟨p, hp⟩ : ∃ p, w.heap.size = p := ⟨_, rfl⟩
  obtain ⟨W0, hW0⟩ : ∃ W, (w.alloc (.cells #[.int .i64 0, .int .i64 0, .int .i64 0, .slice none 0 0, .slice none 0 0, .slice none 0 0] 28)).alloc (.cells #[.int .i64 0] 31) = W := ⟨_, rfl⟩
  have hb0 : Below w.heap.size w W0 := by rw [← hW0]; exact bnext (one_allocB _ _) (one_allocB _ _)
  have kp : Blk W0 p 28 #[.int .i64 0, .int .i64 0, .int .i64 0, .slice none 0 0, .slice none 0 0, .slice none 0 0] := by rw [← hW0]; exact Blk.next (Blk.newM _ _ _ _ hp) (one_allocB _ _)
  have kq : Blk W0 (p + 1) 31 #[.int .i64 0] := by rw [← hW0]; exact Blk.newM _ _ _ _ (by simp [hp])
  have hszW : W0.heap.size = p + 2 := by rw [← hW0]; simp [hp]
  have c0 : W0.cell? ⟨p, 0, none⟩ = some (.int .i64 0) := kp.cell 0
  have c1 : W0.cell? ⟨p, 1, none⟩ = some (.int .i64 0) := kp.cell 1
  have c2 : W0.cell? ⟨p, 2, none⟩ = some (.int .i64 0) := kp.cell 2
  have c3 : W0.cell? ⟨p, 3, none⟩ = some (.slice none 0 0) := kp.cell 3
  have c4 : W0.cell? ⟨p, 4, none⟩ = some (.slice none 0 0) := kp.cell 4
  have c5 : W0.cell? ⟨p, 5, none⟩ = some (.slice none 0 0) := kp.cell 5
  have f0 := kp.frozen 0
  have f1 := kp.frozen 1
  have f2 := kp.frozen 2
  have f3 := kp.frozen 3
  have f4 := kp.frozen 4
  have f5 := kp.frozen 5
  have cq : W0.cell? ⟨p + 1, 0, none⟩ = some (.int .i64 0) := kq.cell 0
  have fq := kq.frozen 0
  have HW0 := Lib.hid hW0
  have Hp := Lib.hid hp
  replace hb0 := Lib.hid hb0
  replace kp := Lib.hid kp
  replace kq := Lib.hid kq
  have HszW := Lib.hid hszW
  have oW := Lib.hid tW
  have oS := Lib.hid tS
  have oP := Lib.hid tP
  replace tL := Lib.hid (tL.next hb0.out)
  replace tE := Lib.hid (tE.next hb0.out)
  replace tS := Lib.hid (tS.next hb0.out)
  replace tW := Lib.hid (tW.next hb0.out)
  unfold readX at hX
  clear hW0 hp hszW
  go_enter_defers Tryz.func22, Tryz.ntmps22
  go_upto_region 1 with fail
  rw [Hp.out, HW0.out]
  by_cases hbig : 4000 < s.size
  · rw [if_pos hbig] at hX
    have d1 : decide ((4000 : Int) < (s.size : Int)) = true := decide_eq_true (by omega)
    replace hX := Lib.hid hX
    go_wp2_with fail
    have kF := blk_setO (sto6_blk kp.out (.int .i64 0) (.int .i64 0) (.int .i64 0) (.slice none 0 0) (.slice none 0 0) (.slice none 0 0)) (show p ≠ p + 1 by omega) 0 (.int .i64 2)
    have kE := (blk_sto6 kq.out (show p + 1 ≠ p by omega) (.int .i64 0) (.int .i64 0) (.int .i64 0) (.slice none 0 0) (.slice none 0 0) (.slice none 0 0)).set 0 (.int .i64 2)
    have hbF := Lib.hid ((sto6_below (below_hid hb0) (Nat.le_of_eq Hp.out) (.int .i64 0) (.int .i64 0) (.int .i64 0) (.slice none 0 0) (.slice none 0 0) (.slice none 0 0)).setCell (p := ⟨p + 1, 0, none⟩) (show w.heap.size ≤ p + 1 by rw [Hp.out]; omega) (.int .i64 2))
    have e0 := kF.cell 0
    have e1 := kF.cell 1
    have e2 := kF.cell 2
    have e3 := kF.cell 3
    have e4 := kF.cell 4
    have e5 := kF.cell 5
    have eq := kE.cell 0
    clear kF kE
    simp [bodyPostD, Leaves, results, Tryz.results22, go_sem, *]
    exact RV.mk (RdT.zero hX.out.symm hbF.out)
  · rw [if_neg hbig] at hX
    have d1 : decide ((4000 : Int) < (s.size : Int)) = false := decide_eq_false (by omega)
    replace hX := Lib.hid hX
    obtain ⟨r0, hr0⟩ : ∃ r0, W0.heap.size = r0 := ⟨_, rfl⟩
    obtain ⟨W1, hW1⟩ : ∃ W, W0.alloc (.cells #[.string s] 91) = W := ⟨_, rfl⟩
    have hb1 : Below W0.heap.size W0 W1 := by rw [← hW1]; exact one_allocB _ _
    have hR1 : RdW W0 W1 s := ⟨hb1, by rw [← hW1]; exact Blk.new _ _ _⟩
    have HI := xrd_any W0 tL.out tE.out tS.out tW.out 100 (Nat.le_refl _) W1 s hR1 (by omega)
    rw [hr0] at HI
    have HW1 := Lib.hid hW1
    have Hr0 := Lib.hid hr0
    replace HI := Lib.hid HI
    clear hW1 hr0 c0 c1 c2 c3 c4 c5 f0 f1 f2 f3 f4 f5 cq fq
    go_upto_region 5 with fail
    rw [Hr0.out, HW1.out]
    cases hrd : rdX 100 (bl s) with
    | none =>
      have HI' := HI.out
      rw [hrd] at HI'
      replace HI' : Calls Tryz.prog 40 #[.pointer (some ⟨r0, 0, none⟩), .int .i64 100] W1 (RP W0 W1) := HI'
      have hX2 := Lib.hid (show X = (zeroE, 4) by rw [← hX.out, hrd])
      replace HI' := Lib.hid HI'
      clear hrd HI hR1
      go_wp2_with fail
      refine HI'.out.mono ?_
      rintro e1 w2 ⟨rfl, hb2, _⟩
      go_wp2_with fail
      have kp2 := kp.out.next hb2
      have kq2 := kq.out.next hb2
      refine leaves_cons (f := 39) (args := #[.pointer (some ⟨p, 0, none⟩), .pointer (some ⟨p + 1, 0, none⟩)]) (by simp) (by simp [go_sem]) ?_
      refine (catch_bad p (p + 1) w2 _ _ _ _ _ _ _ kp2 kq2 (by omega)).mono ?_
      rintro e u' w3 ⟨rfl, rfl, kF, kE, hbB⟩
      have hb3 := Lib.hid (((below_hid hb0).trans (hb2.mono (below_hid hb0).size)).trans (hbB w.heap.size (Nat.le_of_eq Hp.out) (by rw [Hp.out]; omega) (Nat.le_trans (below_hid hb0).size hb2.size)))
      have e0 := kF.cell 0
      have e1 := kF.cell 1
      have e2 := kF.cell 2
      have e3 := kF.cell 3
      have e4 := kF.cell 4
      have e5 := kF.cell 5
      have eq := kE.cell 0
      clear kF kE hbB
      simp [Leaves, settle, results, Tryz.results22, go_sem, *]
      exact RV.mk (RdT.zero hX2.out hb3.out)
    | some x =>
      obtain ⟨y', sy⟩ := x
      have hl := rdX_le 100 _ y' sy hrd
      have HI' := HI.out
      rw [hrd] at HI'
      have hX2 := hX.out
      rw [hrd] at hX2
      simp only [] at hX2
      replace HI' := Lib.hid HI'
      clear hrd HI hR1 hX
      have kp1 := kp.out.next hb1
      have kq1 := kq.out.next hb1
      go_upto_region 5 with fail
      go_wp2_with fail
      refine HI'.out.mono ?_
      rintro e1 w2 ⟨y, s2, rfl, _, hbare, hG2, hU2, hR2, hB2⟩
      replace hbare : y.bare = y' := hbare
      subst hbare
      rw [bare_chkT, bare_tx] at hX2
      rw [bare_cnt] at hl
      have hyc : y.cnt ≤ 4000 := by have := bl_len s; omega
      have hyo := hG2.own
      have y1 : y.m.length ≤ y.mc := hyo.ml
      have y2 : y.mc ≤ maxLen := hyo.mc
      have y3 : y.b.length ≤ y.bc := hyo.bl
      have y4 : y.bc ≤ maxLen := hyo.bc
      have y5 : y.x.length ≤ y.xc := hyo.xl
      have y6 : y.xc ≤ maxLen := hyo.xc
      have kp2 := kp1.but (show p ≠ W0.heap.size by rw [HszW.out]; omega) hB2
      have kq2 := kq1.but (show p + 1 ≠ W0.heap.size by rw [HszW.out]; omega) hB2
      have hbw2 : Below w.heap.size w w2 := (below_hid hb0).trans (hR2.below.mono (below_hid hb0).size)
      have hw1s : p + 2 ≤ W1.heap.size := by rw [← HszW.out]; exact hb1.size
      have hUp : y.Up (p + 2) := ExE.Up.less hw1s y hU2
      obtain ⟨W3, hW3⟩ : ∃ W, sto6 w2 p (.int .i64 y.kind) (.int .i64 y.n) (.int .i64 y.w) (.slice y.ma y.m.length y.mc) (.slice y.ba y.b.length y.bc) (.slice y.xa y.x.length y.xc) = W := ⟨_, rfl⟩
      have kp3 : Blk W3 p 28 #[.int .i64 y.kind, .int .i64 y.n, .int .i64 y.w, .slice y.ma y.m.length y.mc, .slice y.ba y.b.length y.bc, .slice y.xa y.x.length y.xc] := by rw [← hW3]; exact sto6_blk kp2 _ _ _ _ _ _
      have kq3 : Blk W3 (p + 1) 31 #[.int .i64 0] := by rw [← hW3]; exact blk_sto6 kq2 (by omega) _ _ _ _ _ _
      have hbw3 : Below w.heap.size w W3 := by rw [← hW3]; exact sto6_below hbw2 (Nat.le_of_eq Hp.out) _ _ _ _ _ _
      have hG3 : y.G W3 := by rw [← hW3]; exact ExE.G.from (sto6_from (show p < p + 2 by omega) _ _ _ _ _ _) y hG2 hUp
      have HT := xText_any y W3 hG3 (by omega) (oW.out.next hbw3) (oS.out.next hbw3) (oP.out.next hbw3)
      have c0 := kp2.cell 0
      have c1 := kp2.cell 1
      have c2 := kp2.cell 2
      have c3 := kp2.cell 3
      have c4 := kp2.cell 4
      have c5 := kp2.cell 5
      have f0 := kp2.frozen 0
      have f1 := kp2.frozen 1
      have f2 := kp2.frozen 2
      have f3 := kp2.frozen 3
      have f4 := kp2.frozen 4
      have f5 := kp2.frozen 5
      have hX3 := Lib.hid hX2
      have HW3 := Lib.hid hW3
      replace HT := Lib.hid HT
      replace kp3 := Lib.hid kp3
      replace kq3 := Lib.hid kq3
      replace hbw3 := Lib.hid hbw3
      replace hG3 := Lib.hid hG3
      replace hUp := Lib.hid hUp
      clear hX2 hl hyo hU2 hR2 hB2 kp1 kq1 hb1 hbw2 hW3 HI' hw1s hG2 kp2 kq2
      unfold exV
      go_upto_region 6 with fail
      unfold sto6 at HW3
      rw [HW3.out]
      clear c0 c1 c2 c3 c4 c5 f0 f1 f2 f3 f4 f5
      have g0 := kp3.out.cell 0
      have g1 := kp3.out.cell 1
      have g2 := kp3.out.cell 2
      have g3 := kp3.out.cell 3
      have g4 := kp3.out.cell 4
      have g5 := kp3.out.cell 5
      unfold exV at HT
      obtain ⟨T, hT⟩ : ∃ T, textX y = T := ⟨_, rfl⟩
      rw [hT] at HT
      have hT2 := Lib.hid (show T = if y.chkT ≠ 0 then (noS, y.chkT) else (⟨y.tx.toArray⟩, 0) from hT.symm)
      clear hT
      go_wp2_with fail
      refine HT.out.mono ?_
      rintro e1 w4 ⟨rfl, hb4⟩
      have kp4 := kp3.out.next hb4
      have kq4 := kq3.out.next hb4
      have hG4 := Lib.hid (ExE.G.next hb4 y hG3.out)
      have hbw4 := Lib.hid (bnext (below_hid hbw3) hb4)
      have c0 := kp4.cell 0
      have c1 := kp4.cell 1
      have c2 := kp4.cell 2
      have c3 := kp4.cell 3
      have c4 := kp4.cell 4
      have c5 := kp4.cell 5
      have f0 := kp4.frozen 0
      have f1 := kp4.frozen 1
      have f2 := kp4.frozen 2
      have f3 := kp4.frozen 3
      have f4 := kp4.frozen 4
      have f5 := kp4.frozen 5
      have cq := kq4.cell 0
      have fq := kq4.frozen 0
      replace kp4 := Lib.hid kp4
      replace kq4 := Lib.hid kq4
      clear g0 g1 g2 g3 g4 g5 hb4
      obtain ⟨t, k⟩ := T
      have hbad : X = (zeroE, 4) → ∀ w5 : World, w5 = (sto6 w4 p (.int .i64 0) (.int .i64 0) (.int .i64 0) (.slice none 0 0) (.slice none 0 0) (.slice none 0 0)).setCell ⟨p + 1, 0, none⟩ (.int .i64 4) → Blk w5 p 28 #[.int .i64 0, .int .i64 0, .int .i64 0, .slice none 0 0, .slice none 0 0, .slice none 0 0] ∧ Blk w5 (p + 1) 31 #[.int .i64 4] ∧ Below w.heap.size w w5 := fun _ w5 e => by
        rw [e]
        exact ⟨blk_setO (sto6_blk kp4.out _ _ _ _ _ _) (by omega) _ _, (blk_sto6 kq4.out (by omega) _ _ _ _ _ _).set 0 _, (sto6_below (below_hid hbw4) (Nat.le_of_eq Hp.out) _ _ _ _ _ _).setCell (p := ⟨p + 1, 0, none⟩) (show w.heap.size ≤ p + 1 by rw [Hp.out]; omega) _⟩
      replace hbad := Lib.hid hbad
      simp only []
      by_cases hk0 : k = 0
      case neg =>
        have hX4 := Lib.hid (show X = (zeroE, 4) by
          have h1 := hT2.out
          have hne : y.chkT ≠ 0 := fun h => by
            rw [if_neg (fun g => g h)] at h1
            exact hk0 (congrArg Prod.snd h1)
          rw [← hX3.out, if_neg (fun h => hne h.1)])
        have d2 : (k != 0) = true := by rw [bne_iff_ne]; exact hk0
        clear hX3 hT2
        go_wp2_with fail
        obtain ⟨w5, hw5⟩ : ∃ w5, w5 = (sto6 w4 p (.int .i64 0) (.int .i64 0) (.int .i64 0) (.slice none 0 0) (.slice none 0 0) (.slice none 0 0)).setCell ⟨p + 1, 0, none⟩ (.int .i64 4) := ⟨_, rfl⟩
        obtain ⟨kp5, kq5, hb5⟩ := hbad.out hX4.out w5 hw5
        unfold sto6 at hw5
        rw [← hw5]
        refine leaves_cons (f := 39) (args := #[.pointer (some ⟨p, 0, none⟩), .pointer (some ⟨p + 1, 0, none⟩)]) (by simp) (by simp [go_sem]) ?_
        refine (catch_idle p (p + 1) w5).mono ?_
        rintro e u' w6 ⟨rfl, rfl, hb6⟩
        have hb06 := Lib.hid (bnext hb5 hb6)
        have kp6 := kp5.next hb6
        have kq6 := kq5.next hb6
        have e0 := kp6.cell 0
        have e1 := kp6.cell 1
        have e2 := kp6.cell 2
        have e3 := kp6.cell 3
        have e4 := kp6.cell 4
        have e5 := kp6.cell 5
        have eq := kq6.cell 0
        clear kp6 kq6 kp5 kq5 hw5 c0 c1 c2 c3 c4 c5 cq f0 f1 f2 f3 f4 f5 fq hb5 hb6
        simp [Leaves, settle, results, Tryz.results22, go_sem, *]
        exact RV.mk (RdT.zero hX4.out hb06.out)
      case pos =>
        subst hk0
        have hch : y.chkT = 0 := by
          have h1 := hT2.out
          by_cases h : y.chkT = 0
          · exact h
          · rw [if_pos h] at h1
            exact absurd (congrArg Prod.snd h1).symm h
        have ht : t = ⟨y.tx.toArray⟩ := by
          have h1 := hT2.out
          rw [if_neg (fun g => g hch)] at h1
          exact congrArg Prod.fst h1
        have htb : bl t = y.tx := by rw [ht, bl_arr]
        replace hch := Lib.hid hch
        clear hT2 ht
        by_cases hts : y.tx = bl s
        case neg =>
          have hX4 := Lib.hid (show X = (zeroE, 4) by rw [← hX3.out, if_neg (fun h => hts h.2)])
          have hne : (t.toList == s.toList) = false := by rw [beq_eq_false_iff_ne]; exact fun h => hts (by rw [← htb, bytes_ext h])
          clear hX3 htb hts
          go_wp2_with fail
          obtain ⟨w5, hw5⟩ : ∃ w5, w5 = (sto6 w4 p (.int .i64 0) (.int .i64 0) (.int .i64 0) (.slice none 0 0) (.slice none 0 0) (.slice none 0 0)).setCell ⟨p + 1, 0, none⟩ (.int .i64 4) := ⟨_, rfl⟩
          obtain ⟨kp5, kq5, hb5⟩ := hbad.out hX4.out w5 hw5
          unfold sto6 at hw5
          rw [← hw5]
          refine leaves_cons (f := 39) (args := #[.pointer (some ⟨p, 0, none⟩), .pointer (some ⟨p + 1, 0, none⟩)]) (by simp) (by simp [go_sem]) ?_
          refine (catch_idle p (p + 1) w5).mono ?_
          rintro e u' w6 ⟨rfl, rfl, hb6⟩
          have hb06 := Lib.hid (bnext hb5 hb6)
          have kp6 := kp5.next hb6
          have kq6 := kq5.next hb6
          have e0 := kp6.cell 0
          have e1 := kp6.cell 1
          have e2 := kp6.cell 2
          have e3 := kp6.cell 3
          have e4 := kp6.cell 4
          have e5 := kp6.cell 5
          have eq := kq6.cell 0
          clear kp6 kq6 kp5 kq5 hw5 c0 c1 c2 c3 c4 c5 cq f0 f1 f2 f3 f4 f5 fq hb5 hb6
          simp [Leaves, settle, results, Tryz.results22, go_sem, *]
          exact RV.mk (RdT.zero hX4.out hb06.out)
        case pos =>
          have hX4 := Lib.hid (show X = (y.bare, 0) by rw [← hX3.out, if_pos ⟨hch.out, hts⟩])
          have heq : t = s := bl_ext (htb.trans hts)
          subst heq
          clear hX3 htb hts
          go_wp2_with fail
          obtain ⟨w5, hw5⟩ : ∃ w5, w5 = (sto6 w4 p (.int .i64 y.kind) (.int .i64 y.n) (.int .i64 y.w) (.slice y.ma y.m.length y.mc) (.slice y.ba y.b.length y.bc) (.slice y.xa y.x.length y.xc)).setCell ⟨p + 1, 0, none⟩ (.int .i64 0) := ⟨_, rfl⟩
          have kp5 : Blk w5 p 28 #[.int .i64 y.kind, .int .i64 y.n, .int .i64 y.w, .slice y.ma y.m.length y.mc, .slice y.ba y.b.length y.bc, .slice y.xa y.x.length y.xc] := by rw [hw5]; exact blk_setO (sto6_blk kp4.out _ _ _ _ _ _) (by omega) _ _
          have kq5 : Blk w5 (p + 1) 31 #[.int .i64 0] := by rw [hw5]; exact (blk_sto6 kq4.out (by omega) _ _ _ _ _ _).set 0 _
          have hb5 : Below w.heap.size w w5 := by rw [hw5]; exact (sto6_below (below_hid hbw4) (Nat.le_of_eq Hp.out) _ _ _ _ _ _).setCell (p := ⟨p + 1, 0, none⟩) (show w.heap.size ≤ p + 1 by rw [Hp.out]; omega) _
          have hG5 : y.G w5 := by rw [hw5]; exact ExE.G.from ((sto6_from (show p < p + 2 by omega) _ _ _ _ _ _).trans (From.set _ _ _ (show p + 1 < p + 2 by omega))) y hG4.out hUp.out
          unfold sto6 at hw5
          rw [← hw5]
          refine leaves_cons (f := 39) (args := #[.pointer (some ⟨p, 0, none⟩), .pointer (some ⟨p + 1, 0, none⟩)]) (by simp) (by simp [go_sem]) ?_
          refine (catch_idle p (p + 1) w5).mono ?_
          rintro e u' w6 ⟨rfl, rfl, hb6⟩
          have hb06 := Lib.hid (bnext hb5 hb6)
          have hG6 := Lib.hid (ExE.G.next hb6 y hG5)
          have kp6 := kp5.next hb6
          have kq6 := kq5.next hb6
          have e0 := kp6.cell 0
          have e1 := kp6.cell 1
          have e2 := kp6.cell 2
          have e3 := kp6.cell 3
          have e4 := kp6.cell 4
          have e5 := kp6.cell 5
          have eq := kq6.cell 0
          clear kp6 kq6 kp5 kq5 hw5 c0 c1 c2 c3 c4 c5 cq f0 f1 f2 f3 f4 f5 fq hb5 hb6 hG5
          simp [Leaves, settle, results, Tryz.results22, go_sem, *]
          refine RV.mk ⟨y, ?_, ?_, hG6.out, by omega, hb06.out⟩
          · rw [hX4.out]
            rfl
          · rw [hX4.out]
end Go.Proofs.YtnicbhmeigpjkaaGreatDoor
