/- Bits that are taken one behind the other: what the walks of unpackers share. Conditions: the reader lies in a block of its own. -/
import Derived.Test.YtmbpgenjjgepiaaDoorWriterLaw
import Derived.Test.YtmbpgenjjgepiaaDoorReader
import Derived.Test.YtmbpgenjjgepiaaDoorI64s
import Derived.Test.YtmbpgenjjgepiaaDoorOwn
namespace Go.Proofs.YtmbpgenjjgepiaaDoor
open Go.RowKit

/-- n bits taken at a place: the number, the place behind, and whether there were too few -/
def tk (bs : List Bool) (s : Nat × Bool) (n : Nat) : Nat × (Nat × Bool) := (if s.1 + n ≤ bs.length then ofB ((bs.drop s.1).take n) else 0, (if s.1 + n ≤ bs.length then s.1 + n else bs.length, s.2 || decide (bs.length < s.1 + n)))
theorem tk_le {bs : List Bool} {s : Nat × Bool} {n : Nat} : (tk bs s n).2.1 ≤ bs.length := by
  unfold tk; simp only; split <;> omega
theorem tk_lt {bs : List Bool} {s : Nat × Bool} {n : Nat} (hn : n ≤ 64) : (tk bs s n).1 < 18446744073709551616 := by
  unfold tk; simp only; split
  · have h1 := ofB_lt ((bs.drop s.1).take n)
    have h2 : ((bs.drop s.1).take n).length ≤ n := by rw [List.length_take]; omega
    exact Nat.lt_of_lt_of_le h1 (Nat.le_trans (Nat.pow_le_pow_right (by decide) (show _ ≤ 64 by omega)) (by decide))
  · omega
def RdAt (w : World) (g : Nat) (A : Option Addr) (c : Nat) (bs : List Bool) (s : Nat × Bool) : Prop := Blk w g 74 (rdr A (packB bs).length c bs.length s.1 s.2)
def TkP (g : Nat) (A : Option Addr) (c : Nat) (bs : List Bool) (r : Nat × (Nat × Bool)) (w : World) (v : Value) (w' : World) : Prop := v = .int .u64 (r.1 : Nat) ∧ RdAt w' g A c bs r.2 ∧ Only g w w'
theorem tk_any (A : Option Addr) (c : Nat) (bs : List Bool) (s : Nat × Bool) (n : Nat) (y : Int) (hy : y = (n : Int)) (r : Nat × (Nat × Bool)) (hr : tk bs s n = r) (hn : n ≤ 64) (g : Nat) (hp : s.1 ≤ bs.length) (hl : bs.length ≤ 1125899906842624) (w : World) (h : Has w g A (u8s (packB bs))) (hB : RdAt w g A c bs s) :
    Calls Tryd.prog 30 #[.pointer (some ⟨g, 0, none⟩), .int .i64 y] w (RV (TkP g A c bs r w)) := by
  subst hy hr
  have hpl := packB_len bs
  refine (rtake_any A c (packB bs) bs.length s.1 s.2 n hn g (by omega) hp (by omega) (packB_bytes bs) w h hB).mono ?_
  rintro e w1 ⟨v, rfl, hv, hB1, ho1⟩
  refine RV.mk ⟨?_, hB1, ho1⟩
  rw [hv]
  unfold tk
  simp only
  split
  · rw [pullUp_eq (by assumption)]
  · rfl
theorem tk_app {pre rest : List Bool} {v n : Nat} (hv : v < 2 ^ n) : tk (pre ++ (toB v n ++ rest)) (pre.length, false) n = (v, ((pre ++ toB v n).length, false)) := by
  have hl : (pre ++ (toB v n ++ rest)).length = pre.length + (n + rest.length) := by rw [List.length_append, List.length_append, toB_len]
  unfold tk
  simp only
  rw [if_pos (by omega), if_pos (by omega), List.drop_left, decide_eq_false (by omega), Bool.false_or, List.length_append, toB_len]
  congr 1
  have e : (toB v n ++ rest).take n = toB v n := by
    rw [List.take_append_of_le_length (by rw [toB_len]; omega), List.take_of_length_le (by rw [toB_len]; omega)]
  rw [e, ofB_toB, Nat.mod_eq_of_lt hv]
theorem tk_app' {pre rest bs : List Bool} {v n : Nat} (hb : bs = pre ++ (toB v n ++ rest)) (hv : v < 2 ^ n) : tk bs (pre.length, false) n = (v, ((pre ++ toB v n).length, false)) := by
  subst hb
  exact tk_app hv
theorem toB_mod (v n : Nat) : toB (v % 2 ^ n) n = toB v n :=
  ofB_inj (by rw [toB_len, toB_len]) (by rw [ofB_toB, ofB_toB, Nat.mod_mod])
theorem tk_any' {pre rest bs : List Bool} {v n : Nat} (hb : bs = pre ++ (toB v n ++ rest)) : tk bs (pre.length, false) n = (v % 2 ^ n, ((pre ++ toB v n).length, false)) := by
  have h := tk_app' (v := v % 2 ^ n) (n := n) (bs := bs) (pre := pre) (rest := rest) (by rw [toB_mod]; exact hb) (Nat.mod_lt _ (Nat.two_pow_pos n))
  rw [toB_mod] at h
  exact h
theorem packB_inj {xs ys : List Bool} (hl : xs.length = ys.length) (h : packB xs = packB ys) : xs = ys := by
  have h1 := pullUp_eq (bs := xs) (p := 0) (k := xs.length) (by omega)
  have h2 := pullUp_eq (bs := ys) (p := 0) (k := ys.length) (by omega)
  rw [List.drop_zero, List.take_length] at h1 h2
  exact ofB_inj hl (by rw [← h1, ← h2, h, hl])
theorem tk_lt' {bs : List Bool} {s : Nat × Bool} {n : Nat} : (tk bs s n).1 < 2 ^ n := by
  unfold tk; simp only; split
  · have h1 := ofB_lt ((bs.drop s.1).take n)
    have h2 : ((bs.drop s.1).take n).length ≤ n := by rw [List.length_take]; omega
    exact Nat.lt_of_lt_of_le h1 (Nat.pow_le_pow_right (by decide) h2)
  · exact Nat.two_pow_pos n
theorem own_blockU {w : World} {base size n : Nat} {e : TypeId} {v : Value} {xs : List Value} (h : w.ownsRow base e size v n xs) : ∀ k, v.ownBlock = some k → base ≤ k ∧ k < w.heap.size := by
  intro k hk
  rcases h.2 with ⟨rfl, _⟩ | ⟨q, cap, cur, rfl, hb, hgg, _⟩
  · cases hk
  · injection hk with hk
    have : q = k := hk
    subst this
    exact ⟨hb, (Array.getElem?_eq_some_iff.1 hgg).1⟩
theorem own_keepU {w w' : World} {base size n : Nat} {e : TypeId} {v : Value} {xs : List Value} {row : Option Nat} (h : w.ownsRow base e size v n xs) (hg : w.grownBy w' row) (hne : ∀ k, v.ownBlock = some k → some k ≠ row) : w'.ownsRow base e size v n xs := by
  refine ⟨h.1, ?_⟩
  rcases h.2 with h2 | ⟨g, cap, cur, rfl, hb, hgg, rest⟩
  · exact .inl h2
  · exact .inr ⟨g, cap, cur, rfl, hb, (hg.block g (Array.getElem?_eq_some_iff.1 hgg).1 (hne g rfl)).trans hgg, rest⟩
theorem own_only {w w' : World} {base size n g : Nat} {e : TypeId} {v : Value} {xs : List Value} (h : w.ownsRow base e size v n xs) (hg : g < base) (ho : Only g w w') : w'.ownsRow base e size v n xs :=
  own_keepU h ho (fun k hk e => by have := (own_blockU h k hk).1; injection e with e; omega)
theorem RdAt.grown {w w' : World} {g base size n : Nat} {e : TypeId} {v : Value} {xs : List Value} {A : Option Addr} {c : Nat} {bs : List Bool} {s : Nat × Bool} (h : RdAt w g A c bs s) (hown : w.ownsRow base e size v n xs) (hg : g < base) (hb : w.grownBy w' v.ownBlock) : RdAt w' g A c bs s :=
  Blk.grown h hb (fun e => by have := (own_blockU hown g e.symm).1; omega)
end Go.Proofs.YtmbpgenjjgepiaaDoor
