/- Texts of the proof of HouseAcks, joined (by merge.py). Conditions: each theorem's own hypotheses. -/
import Derived.Test.YtihjgbhnlejhfaaGreatDoorHouseAcksP8
import Derived.Test.YtihjgbhnlejhfaaGreatDoorHouseAcksP20
import Derived.Laws.CopyOwn
import Derived.Laws.OwnMore
import Derived.Laws.BytesArg
import Derived.WalkSpells
namespace Go.Proofs.YtihjgbhnlejhfaaGreatDoor
open Go.RowKit

/-- what stands for a byte -/
def rep1 (x : Nat) : List Nat := if x = 10 then [92, 110] else if x = 34 then [92, 34] else if x = 92 then [92, 92] else [x]
def repL (l : List Nat) : List Nat := l.flatMap rep1
def spc (x : Nat) : Nat := if x = 10 then 1 else if x = 34 then 1 else if x = 92 then 1 else 0
def cntS : List Nat → Nat
  | [] => 0
  | x :: l => spc x + cntS l
theorem rep1_len (x : Nat) : (rep1 x).length = 1 + spc x := by
  unfold rep1 spc
  split
  · rfl
  · split
    · rfl
    · split <;> rfl
theorem repL_cons (x : Nat) (l : List Nat) : repL (x :: l) = rep1 x ++ repL l := rfl
theorem repL_app (l m : List Nat) : repL (l ++ m) = repL l ++ repL m := List.flatMap_append
theorem repL_len : ∀ l : List Nat, (repL l).length = l.length + cntS l
  | [] => rfl
  | x :: l => by rw [repL_cons, List.length_append, repL_len l, rep1_len, cntS, List.length_cons]; omega
theorem repL_none : ∀ l : List Nat, cntS l = 0 → repL l = l
  | [], _ => rfl
  | x :: l, h => by
    rw [cntS] at h
    rw [repL_cons, repL_none l (by omega)]
    have h1 : spc x = 0 := by omega
    have : rep1 x = [x] := by
      unfold spc at h1
      unfold rep1
      split at h1
      · cases h1
      · split at h1
        · cases h1
        · split at h1
          · cases h1
          · simp [*]
    rw [this]; rfl
theorem cntS_app : ∀ l m : List Nat, cntS (l ++ m) = cntS l + cntS m
  | [], m => by rw [List.nil_append, cntS, Nat.zero_add]
  | x :: l, m => by rw [List.cons_append, cntS, cntS, cntS_app l m]; omega
theorem cntS_3 : ∀ l : List Nat, cntS l = l.count 10 + l.count 34 + l.count 92
  | [] => rfl
  | x :: l => by
    rw [cntS, cntS_3 l, List.count_cons, List.count_cons, List.count_cons]
    unfold spc
    by_cases h1 : x = 10
    · subst h1; simp; omega
    · by_cases h2 : x = 34
      · subst h2; simp; omega
      · by_cases h3 : x = 92
        · subst h3; simp; omega
        · simp [h1, h2, h3]
theorem cntS_le (l : List Nat) : cntS l ≤ l.length := by
  induction l with
  | nil => exact Nat.le_refl _
  | cons x l ih =>
    have : spc x ≤ 1 := by unfold spc; split <;> first | omega | (split <;> first | omega | (split <;> omega))
    rw [cntS, List.length_cons]; omega
theorem count_sb (s : ByteArray) (c : UInt8) : Lib.countByte s.data.toList c = (sb s).count c.toNat := by
  unfold Lib.countByte sb
  induction s.data.toList with
  | nil => rfl
  | cons x l ih =>
    rw [List.count_cons, List.map_cons, List.count_cons, ih]
    by_cases h : x = c
    · subst h; simp
    · have : ¬ x.toNat = c.toNat := fun e => h (UInt8.toNat.inj e)
      simp [h, this]
theorem sb_take_succ (s : ByteArray) (i : Nat) (h : i < s.size) : (sb s).take (i + 1) = (sb s).take i ++ [s[i].toNat] := by
  have hl : i < (sb s).length := by rw [sb_len]; exact h
  rw [List.take_succ_eq_append_getElem hl]
  congr 1
  congr 1
  have := sb_at s i h
  rw [at_eq hl] at this
  exact this
/-- the bytes of numbers -/
def bsOf (l : List Nat) : ByteArray := strOfNums (l.map (fun x : Nat => (x : Int)))
theorem bsOf_sb (s : ByteArray) : bsOf (sb s) = s := by
  unfold bsOf strOfNums sb
  apply ByteArray.ext
  apply Array.ext'
  simp only [List.map_map]
  have : ((fun n : Int => UInt8.ofNat n.toNat) ∘ (fun x : Nat => (x : Int)) ∘ fun x : UInt8 => x.toNat) = id := by
    funext x
    simp
  first | rw [this, List.map_id] | (simp [this])
theorem madeCells8 (m : Nat) : (madeCells (Value.int .u8 0).cells (m * 1)).toList = u8s (List.replicate m 0) := by
  show (madeCells #[Value.int .u8 0] (m * 1)).toList = _
  rw [Nat.mul_one, toList_madeCells_one]
  simp [u8s, u8v]
theorem infoU8 : (Tryz.prog.info? 5).map (fun i => (i.zero, i.size, i.bytes)) = some (some (.int .u8 0), 1, 1) := by kernel_rfl

/-- a buffer of n bytes whose first ones are d -/
def RpBuf (W : World) (g n : Nat) (d : List Nat) : Prop := ∃ l : List Nat, l.length = n ∧ Blk W g 5 (u8s l).toArray ∧ l.take d.length = d
theorem RpBuf.next {W W' : World} {g n : Nat} {d : List Nat} (h : RpBuf W g n d) (hb : Below W.heap.size W W') : RpBuf W' g n d := by
  obtain ⟨l, h1, h2, h3⟩ := h
  exact ⟨l, h1, h2.next hb, h3⟩
theorem RpBuf.drew {W : World} {g n : Nat} {d : List Nat} (h : RpBuf W g n d) : RpBuf W.drew g n d := h
theorem u8s_set (l : List Nat) (i x : Nat) : (u8s l).toArray.setIfInBounds i (u8v x) = (u8s (l.set i x)).toArray := by
  apply Array.ext'
  simp [u8s]
theorem RpBuf.put {W : World} {g n : Nat} {d : List Nat} (h : RpBuf W g n d) (x : Nat) (hd : d.length < n) : RpBuf (W.setCell ⟨g, d.length, none⟩ (u8v x)) g n (d ++ [x]) := by
  obtain ⟨l, h1, h2, h3⟩ := h
  refine ⟨l.set d.length x, by simpa using h1, ?_, ?_⟩
  · have := h2.set d.length (u8v x)
    rwa [u8s_set] at this
  · have hl : d.length < (l.set d.length x).length := by simp; omega
    rw [List.length_append, List.length_singleton, List.take_succ_eq_append_getElem hl]
    have e1 : (l.set d.length x)[d.length] = x := by simp
    rw [e1, List.take_set_of_le (Nat.le_refl _), h3]
theorem RpBuf.cell {W : World} {g n : Nat} {d : List Nat} (h : RpBuf W g n d) (i : Nat) (hi : i < n) : (∃ x : Nat, W.cell? ⟨g, i, none⟩ = some (.int .u8 (x : Int))) ∧ W.frozen? ⟨g, i, none⟩ = false := by
  obtain ⟨l, h1, h2, h3⟩ := h
  refine ⟨⟨l[i]'(by omega), ?_⟩, h2.frozen i⟩
  rw [h2.cell i]
  simp [u8s, u8v, h1, hi]
theorem RpBuf.full {W : World} {g n : Nat} {d : List Nat} (h : RpBuf W g n d) (hn : d.length = n) : Blk W g 5 (u8s d).toArray := by
  obtain ⟨l, h1, h2, h3⟩ := h
  rw [List.take_of_length_le (by omega)] at h3
  rw [← h3]; exact h2
/-- copy into it -/
theorem RpBuf.copy {W : World} {g n : Nat} {d : List Nat} (h : RpBuf W g n d) (xs : List Nat) (hd : d.length + xs.length ≤ n) {b c : Nat} (hx : SlB W (.slice (some ⟨b, 0, none⟩) xs.length c) xs) (dc : Nat) (ty : TypeId) :
    ∃ W', (Builtin.copy_ #[76, 76] ty #[.slice (some ⟨g, d.length, none⟩) (n - d.length) dc, .slice (some ⟨b, 0, none⟩) xs.length c]).run Tryz.prog W = .ok (.int .i64 (xs.length : Nat)) W' ∧ RpBuf W' g n (d ++ xs) ∧ ∀ B w0, B ≤ g → Below B w0 W → Below B w0 W' := by
  obtain ⟨l, h1, h2, h3⟩ := h
  have hm : Nat.min xs.length (n - d.length) = xs.length := Nat.min_eq_left (by omega)
  have hr := run_copy_rowK (P := Tryz.prog) W 76 76 ty 5 1 g d.length (n - d.length) dc ⟨b, 0, none⟩ xs.length c (u8s l).toArray 5 (u8s xs) Tryz.underlying76 (by kernel_rfl) h2 (by rw [hm]; simp [u8s]) (fun j v hj => by
      obtain ⟨A', e, _, hh⟩ := hx.has (by intro e; rw [e] at hj; cases hj)
      injection e with e
      subst e
      exact hh j v hj) (by simp [u8s]; omega) (u8s_one xs)
  rw [hm] at hr
  have hgi : goInt xs.length = .int .i64 (xs.length : Nat) := rfl
  rw [hgi] at hr
  refine ⟨_, hr, ⟨l.take d.length ++ xs ++ l.drop (d.length + xs.length), ?_, ?_, ?_⟩, fun B w0 hB hb => below_setRow hb hB _⟩
  · simp only [List.length_append, List.length_take, List.length_drop]; omega
  · have := setRow_heap W g (u8s l).toArray ((u8s l).toArray.toList.take d.length ++ u8s xs ++ (u8s l).toArray.toList.drop (d.length + (u8s xs).length)).toArray 5 (0, 0) h2
    rw [Blk, this]
    have e : (u8s l).toArray.toList.take d.length ++ u8s xs ++ (u8s l).toArray.toList.drop (d.length + (u8s xs).length) = u8s (l.take d.length ++ xs ++ l.drop (d.length + xs.length)) := by
      unfold u8s
      simp only [List.map_append, List.map_take, List.map_drop, List.length_map]
    rw [e]
  · rw [h3]; exact List.take_left
end Go.Proofs.YtihjgbhnlejhfaaGreatDoor
