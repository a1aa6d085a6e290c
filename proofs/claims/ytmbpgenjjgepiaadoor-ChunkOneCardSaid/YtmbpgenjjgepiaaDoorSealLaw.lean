/- Samples as bytes: plain laws. No program in sight. -/
import Derived.Test.YtmbpgenjjgepiaaDoorSmp
import Derived.Test.YtmbpgenjjgepiaaDoorTakeLaw
import Derived.Test.YtmbpgenjjgepiaaDoorUnpackLaw
import Derived.Test.YtmbpgenjjgepiaaDoorXorBackLaw
namespace Go.Proofs.YtmbpgenjjgepiaaDoor
open Go.RowKit

def timesL (l : List Smp) : List Int := l.map (·.t)
def valsL (l : List Smp) : List Nat := l.map (fun s => u64I s.v)
def partB (bs : List Bool) : List Nat := putL bs.length ++ packB bs
def sealB (l : List Smp) : List Nat := partB (packT (timesL l)) ++ partB (packX (valsL l))
def sealN (l : List Smp) : List Nat × Int := if chkS l ≠ 0 then ([], chkS l) else (sealB l, 0)
/-- bits at the front, and what stands behind -/
def partN (b : List Nat) : Option ((List Nat × Nat) × List Nat) :=
  if (takeN b).2.2 ≠ 0 ∨ 8 * b.length < (takeN b).1 then none
  else if b.length < (takeN b).2.1 + ((takeN b).1 + 7) / 8 then none
  else some (((b.drop (takeN b).2.1).take (((takeN b).1 + 7) / 8), (takeN b).1), b.drop ((takeN b).2.1 + ((takeN b).1 + 7) / 8))
def upD (l : List Nat) (N : Nat) : List Int × Int := if chkB l N ≠ 0 then ([], 4) else unpN (unB l N)
def upX (l : List Nat) (N : Nat) : List Nat × Int := if chkB l N ≠ 0 then ([], 4) else unxN (unB l N)
def i64N (v : Nat) : Int := wrap64 (v : Int)
def zipS : List Int → List Nat → List Smp
  | t :: ts, v :: vs => ⟨t, i64N v⟩ :: zipS ts vs
  | _, _ => []
/-- what Open makes of the times and the values -/
def openV (b : List Nat) (ts : List Int) (vs : List Nat) : List Smp × Int := if sealN (zipS ts vs) = (b, 0) then (zipS ts vs, 0) else ([], 4)
def openP (b : List Nat) (x y : List Nat × Nat) : List Smp × Int :=
  if (upD x.1 x.2).2 ≠ 0 ∨ (upX y.1 y.2).2 ≠ 0 ∨ (upD x.1 x.2).1.length ≠ (upX y.1 y.2).1.length then ([], 4)
  else openV b (upD x.1 x.2).1 (upX y.1 y.2).1
def openN (b : List Nat) : List Smp × Int :=
  match partN b with
  | none => ([], 4)
  | some (x, r) => match partN r with
    | none => ([], 4)
    | some (y, r2) => if r2 ≠ [] then ([], 4) else openP b x y

theorem i64N_u64I {v : Int} (h : in64 v) : i64N (u64I v) = v := by
  obtain ⟨h1, h2⟩ := h
  unfold i64N u64I wrap64; omega
theorem zipS_vals {l : List Smp} (h : Smps l) : zipS (timesL l) (valsL l) = l := by
  induction l with
  | nil => rfl
  | cons s l ih =>
    have hs := (h s (by simp)).2
    show ⟨s.t, i64N (u64I s.v)⟩ :: zipS (timesL l) (valsL l) = s :: l
    rw [i64N_u64I hs, ih (fun x hx => h x (by simp [hx]))]
theorem times_in {l : List Smp} (h : Smps l) : I64s (timesL l) := by
  intro x hx
  obtain ⟨s, hs, rfl⟩ := List.mem_map.1 hx
  exact (h s hs).1
theorem vals_in (l : List Smp) : ∀ x ∈ valsL l, x < 18446744073709551616 := by
  intro x hx
  obtain ⟨s, _, rfl⟩ := List.mem_map.1 hx
  exact u64I_lt _
theorem part_put {bs : List Bool} (rest : List Nat) (hl : bs.length < 18446744073709551616) : partN (partB bs ++ rest) = some ((packB bs, bs.length), rest) := by
  have hp := packB_len bs
  have h1 : takeN (partB bs ++ rest) = (bs.length, (putL bs.length).length, 0) := by
    unfold partB
    rw [List.append_assoc]
    exact takeN_put hl _
  have hlen : (partB bs ++ rest).length = (putL bs.length).length + (packB bs).length + rest.length := by unfold partB; simp; omega
  unfold partN
  rw [h1]
  simp only []
  rw [if_neg (by rw [hlen]; simp; omega), if_neg (by rw [hlen]; omega), ← hp]
  unfold partB
  congr 2
  · congr 1
    rw [List.append_assoc, List.drop_left, List.take_left]
  · rw [← List.length_append, List.drop_left]
theorem unB_packB (bs : List Bool) : unB (packB bs) bs.length = bs :=
  packB_inj (unB_len _ _) (packB_unB (packB_bytes bs) (packB_ok bs))
theorem upD_pack {l : List Int} (hi : I64s l) (hl : l.length ≤ 1000) : upD (packB (packT l)) (packT l).length = (l, 0) := by
  have e0 : chkB (packB (packT l)) (packT l).length = 0 := by unfold chkB; rw [if_pos ⟨by omega, by simpa using packB_ok _⟩]
  unfold upD
  rw [if_neg (by rw [e0]; simp), unB_packB, unpN_pack hi hl]
theorem upX_pack {l : List Nat} (hi : ∀ x ∈ l, x < 18446744073709551616) (hl : l.length ≤ 1000) : upX (packB (packX l)) (packX l).length = (l, 0) := by
  have e0 : chkB (packB (packX l)) (packX l).length = 0 := by unfold chkB; rw [if_pos ⟨by omega, by simpa using packB_ok _⟩]
  unfold upX
  rw [if_neg (by rw [e0]; simp), unB_packB, unxN_pack hi hl]
theorem packT_le {l : List Int} (h : l.length ≤ 1000) : (packT l).length ≤ 70000 := by
  have h1 := packF_len l
  unfold packT
  rw [List.length_append, toB_len]
  omega
theorem packX_le2 {l : List Nat} (h : l.length ≤ 1000) : (packX l).length ≤ 79000 := by
  have h1 := xF_len l
  unfold packX
  rw [List.length_append, toB_len]
  omega
theorem open_seal {l : List Smp} (h : Smps l) (hc : chkS l = 0) : openN (sealB l) = (l, 0) := by
  have hl := (chkS_ok hc).1
  have t1 : (timesL l).length = l.length := by simp [timesL]
  have v1 : (valsL l).length = l.length := by simp [valsL]
  have b1 := packT_le (l := timesL l) (by omega)
  have b2 := packX_le2 (l := valsL l) (by omega)
  unfold openN
  rw [show sealB l = partB (packT (timesL l)) ++ partB (packX (valsL l)) from rfl, part_put _ (by omega)]
  simp only []
  have h2 := part_put (bs := packX (valsL l)) [] (by omega)
  rw [List.append_nil] at h2
  rw [h2]
  simp only []
  rw [if_neg (by simp)]
  unfold openP
  simp only []
  rw [upD_pack (times_in h) (by omega), upX_pack (vals_in l) (by omega)]
  simp only []
  rw [if_neg (by rw [t1, v1]; simp)]
  unfold openV
  rw [zipS_vals h]
  have hs : sealN l = (sealB l, 0) := by unfold sealN; rw [if_neg (by rw [hc]; simp)]
  rw [if_pos (by rw [hs]; rfl)]
/-- what is opened is sealed to just that -/
theorem openN_cases (b : List Nat) : openN b = ([], 4) ∨ ∃ l, openN b = (l, 0) ∧ sealN l = (b, 0) := by
  unfold openN
  split
  · exact .inl rfl
  · split
    · exact .inl rfl
    · split
      · exact .inl rfl
      · unfold openP
        split
        · exact .inl rfl
        · unfold openV
          split
          · rename_i h; exact .inr ⟨_, rfl, h⟩
          · exact .inl rfl
end Go.Proofs.YtmbpgenjjgepiaaDoor
