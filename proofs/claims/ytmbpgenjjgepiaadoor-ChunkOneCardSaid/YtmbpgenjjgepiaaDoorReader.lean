/- What the reader of bits takes. Conditions: bytes are bytes, at most 2 to the 47th; the reader's cells are a block of their own. -/
import Derived.Test.YtmbpgenjjgepiaaDoorCheck
namespace Go.Proofs.YtmbpgenjjgepiaaDoor
open Go.RowKit

def bitAt (l : List Nat) (i : Nat) : Nat := at_ l (i / 8) / 2 ^ (7 - i % 8) % 2
def pullUp (l : List Nat) (p : Nat) : Nat → Nat
  | 0 => 0
  | k + 1 => 2 * pullUp l p k + bitAt l (p + k)
theorem bitAt_lt (l : List Nat) (i : Nat) : bitAt l i < 2 := Nat.mod_lt _ (by decide)
theorem pullUp_lt (l : List Nat) (p k : Nat) : pullUp l p k < 2 ^ k := by
  induction k with
  | zero => simp [pullUp]
  | succ k ih =>
    have := bitAt_lt l (p + k)
    rw [pullUp, Nat.pow_succ]
    omega
theorem pull_step {l : List Nat} {p k : Nat} (hk : k < 64) (x : Nat) (hx : x = bitAt l (p + k)) :
    bits .or .u64 (IntKind.u64.wrap ((pullUp l p k : Int) * 2)) (x : Int) = ((pullUp l p (k + 1) : Nat) : Int) := by
  have h1 := pullUp_lt l p k
  have h2 : pullUp l p k < 9223372036854775808 := Nat.lt_of_lt_of_le h1 (by have := Nat.pow_le_pow_right (n := 2) (by decide) (show k ≤ 63 by omega); exact this)
  have h3 := bitAt_lt l (p + k)
  have e : IntKind.u64.wrap ((pullUp l p k : Int) * 2) = ((pullUp l p k * 2 : Nat) : Int) := by rw [IntKind.wrap_u64]; omega
  rw [e, bits_or_u64_nat _ _ (by omega) (by omega), pullUp, ← hx]
  have h4 := Nat.two_pow_add_eq_or_of_lt (i := 1) (b := x) (by omega) (pullUp l p k)
  rw [Nat.mul_comm (pullUp l p k) 2, ← h4]
theorem shr_bit {b s : Nat} (hb : b < 256) : bits .and .u8 ((b : Int) / 2 ^ s) 1 = ((b / 2 ^ s % 2 : Nat) : Int) := by
  have e : (b : Int) / 2 ^ s = ((b / 2 ^ s : Nat) : Int) := by rw [Int.natCast_ediv, Int.natCast_pow]; rfl
  rw [e, show (1 : Int) = ((1 : Nat) : Int) from rfl, u8_and_nat _ _ (Nat.lt_of_le_of_lt (Nat.div_le_self _ _) hb) (by omega), Nat.and_one_is_mod]

theorem pull_fin {l : List Nat} {p k q : Nat} (hk : k < 64) (hq : p + k = q) (hb : Bytes l) :
    bits .or .u64 (IntKind.u64.wrap ((pullUp l p k : Int) * 2)) (IntKind.u64.wrap (bits .and .u8 (((at_ l (q / 8) : Nat) : Int) / 2 ^ (7 - q % 8)) 1)) = ((pullUp l p (k + 1) : Nat) : Int) := by
  rw [shr_bit (hb.at _)]
  have h1 : at_ l (q / 8) / 2 ^ (7 - q % 8) % 2 < 2 := Nat.mod_lt _ (by decide)
  rw [show IntKind.u64.wrap ((at_ l (q / 8) / 2 ^ (7 - q % 8) % 2 : Nat) : Int) = ((at_ l (q / 8) / 2 ^ (7 - q % 8) % 2 : Nat) : Int) from IntWalk.u64_in _ (by omega)]
  exact pull_step hk _ (by subst hq; rfl)

def rdr (A : Option Addr) (n c : Nat) (m p : Nat) (sh : Bool) : Array Value := #[.slice A n c, .int .i64 m, .int .i64 p, .bool sh]

def RdrPost (A : Option Addr) (c : Nat) (l : List Nat) (m p : Nat) (sh : Bool) (n g : Nat) (w : World) (v : Value) (w' : World) : Prop :=
  v = .int .u64 ((if p + n ≤ m then pullUp l p n else 0 : Nat) : Int) ∧ Blk w' g 74 (rdr A l.length c m (if p + n ≤ m then p + n else m) (sh || decide (m < p + n))) ∧ Only g w w'

set_option maxRecDepth 1000000 in
set_option maxHeartbeats 2000000 in
theorem rtake_any (A : Option Addr) (c : Nat) (l : List Nat) (m p : Nat) (sh : Bool) (n : Nat) (hn : n ≤ 64) (g : Nat) (hm : m ≤ 8 * l.length) (hp : p ≤ m) (hl : l.length ≤ 140737488355328) (hb : Bytes l) (w : World) (h : Has w g A (u8s l)) (hB : Blk w g 74 (rdr A l.length c m p sh)) :
    Calls Tryd.prog 30 #[.pointer (some ⟨g, 0, none⟩), .int .i64 n] w (RV (RdrPost A c l m p sh n g w)) := by
  go_enter Tryd.func30, Tryd.ntmps30
  go_wp2
  go_loopw [5, 7] (fun x i wr => ∃ k q : Nat, k ≤ n ∧ Hid (p + k = q) ∧ q ≤ m ∧ i = .int .i64 (k : Nat) ∧ x = .int .u64 (pullUp l p k : Nat) ∧ Blk wr g 74 (rdr A l.length c m q sh) ∧ Only g w wr) (fun _ i _ => n - (intOf i).toNat)
  case atStart => exact ⟨0, p, by omega, Lib.hid rfl, hp, rfl, rfl, hB, Only.refl _ _⟩
  case round =>
    obtain ⟨k, q, hk, hq, hpk, rfl, rfl, hBr, ho⟩ := hrel
    have c0 : wr.cell? ⟨g, 0, none⟩ = some (.slice A l.length c) := hBr.cell 0
    have c1 : wr.cell? ⟨g, 1, none⟩ = some (.int .i64 (m : Nat)) := hBr.cell 1
    have c2 : wr.cell? ⟨g, 2, none⟩ = some (.int .i64 (q : Nat)) := hBr.cell 2
    have c3 : wr.cell? ⟨g, 3, none⟩ = some (.bool sh) := hBr.cell 3
    have f2 := hBr.frozen 2
    have f3 := hBr.frozen 3
    by_cases hkn : (k : Int) < (n : Int)
    · by_cases hlt : (q : Int) < (m : Int)
      · obtain ⟨ad, rfl, hbl, hc⟩ := (h.below (ho.below (Nat.le_of_lt hB.lt) (Nat.le_refl _))).at (u8s_at (show q / 8 < l.length by omega))
        have hbx := hb.at (q / 8)
        have e1 : IntKind.i64.wrap ((q : Int).tdiv 8) = (q : Int) / 8 := IntWalk.i64_quo _ _ (by omega)
        have e2 : (q : Int).tmod 8 = (q : Int) % 8 := Int.tmod_eq_emod_of_nonneg (by omega)
        have e3 : IntKind.i64.wrap (7 - (q : Int) % 8) = 7 - (q : Int) % 8 := IntWalk.i64_in _ (by omega)
        have q1 : (0 : Int) ≤ (q : Int) / 8 := by omega
        have q2 : (q : Int) / 8 < (l.length : Int) := by omega
        have q3 : ((q : Int) / 8).toNat = q / 8 := by omega
        have q4 : (0 : Int) ≤ 7 - (q : Int) % 8 := by omega
        have q5 : (q : Int) % 8 ≤ 7 := by omega
        go_wp2
        go_quiet (fail)
        go_wp2
        go_quiet (fail)
        go_wp2
        go_roundw
        case rel => exact ⟨k + 1, q + 1, by omega, Lib.hid (by have := hq.out; omega), by omega, by go_num, int_eq (pull_fin (by omega) hq.out hb), by exact (hBr.drewN _).set 2 (.int .i64 ((q : Int) + 1)), (ho.drewN _).set 2 _⟩
        case measure => simp [intOf]; omega
      · have hlt' : (m : Int) ≤ (q : Int) := by omega
        go_wp2
        go_quiet (fail)
        go_wp2
        go_ret
        have hqq := hq.out
        have hne : ¬ p + n ≤ m := by omega
        obtain rfl : q = m := by omega
        refine RV.mk ⟨by rw [if_neg hne]; rfl, ?_, (ho.drewN _).set 3 _⟩
        rw [if_neg hne, decide_eq_true (by omega), Bool.or_true]
        exact (hBr.drewN _).set 3 (.bool true)
    · go_wp2
      go_ret
      obtain rfl : k = n := by omega
      obtain rfl := hq.out
      refine RV.mk ⟨by rw [if_pos hpk]; rfl, ?_, ho⟩
      rw [if_pos hpk, decide_eq_false (by omega), Bool.or_false]
      exact hBr
end Go.Proofs.YtmbpgenjjgepiaaDoor
