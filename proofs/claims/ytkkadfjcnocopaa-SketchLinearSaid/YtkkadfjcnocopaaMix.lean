/- How numbers are mixed, and the number of a text: what package hash's Mix computes. Conditions: numbers fit their kinds. -/
import Derived.Test.YtkkadfjcnocopaaKit
namespace Go.Proofs.Ytkkadfjcnocopaa
open Go.RowKit

def mixN (u : Nat) : Nat :=
  let a := (u ^^^ u / 536870912) * 10321020848683521121 % 18446744073709551616
  let b := (a ^^^ a / 4294967296) * 7694936916205891629 % 18446744073709551616
  b ^^^ b / 268435456

theorem xor_lt64 {a b : Nat} (ha : a < 18446744073709551616) (hb : b < 18446744073709551616) : a ^^^ b < 18446744073709551616 := Nat.xor_lt_two_pow (n := 64) ha hb
theorem mixN_lt (u : Nat) : mixN u < 18446744073709551616 := by
  unfold mixN
  have h : ∀ a : Nat, a % 18446744073709551616 < 18446744073709551616 := fun a => Nat.mod_lt _ (by decide)
  exact xor_lt64 (h _) (Nat.lt_of_le_of_lt (Nat.div_le_self _ _) (h _))

set_option maxRecDepth 1000000 in
set_option maxHeartbeats 400000 in
theorem mix_any (u : Nat) (h : u < 18446744073709551616) (w : World) :
    Calls Try.prog 128 #[.int .u64 u] w (R1 (.int .u64 (mixN u : Nat)) (Drawn w)) := by
  have E : Hid ((bits .xor .u64 (IntKind.u64.wrap (bits .xor .u64 (IntKind.u64.wrap (bits .xor .u64 (u : Int) ((u : Int) / 536870912) * 10321020848683521121)) (IntKind.u64.wrap (bits .xor .u64 (u : Int) ((u : Int) / 536870912) * 10321020848683521121) / 4294967296) * 7694936916205891629))
      (IntKind.u64.wrap (bits .xor .u64 (IntKind.u64.wrap (bits .xor .u64 (u : Int) ((u : Int) / 536870912) * 10321020848683521121)) (IntKind.u64.wrap (bits .xor .u64 (u : Int) ((u : Int) / 536870912) * 10321020848683521121) / 4294967296) * 7694936916205891629) / 268435456)) = ((mixN u : Nat) : Int)) := by
    apply Lib.hid
    have hl : ∀ a : Nat, a % 18446744073709551616 < 18446744073709551616 := fun a => Nat.mod_lt _ (by decide)
    rw [show IntKind.u64.wrap (bits .xor .u64 (u : Int) ((u : Int) / 536870912) * 10321020848683521121) = (((u ^^^ u / 536870912) * 10321020848683521121 % 18446744073709551616 : Nat) : Int) from mixStep_u64 u 536870912 10321020848683521121 h]
    rw [show IntKind.u64.wrap (bits .xor .u64 (((u ^^^ u / 536870912) * 10321020848683521121 % 18446744073709551616 : Nat) : Int) ((((u ^^^ u / 536870912) * 10321020848683521121 % 18446744073709551616 : Nat) : Int) / 4294967296) * 7694936916205891629) = _ from mixStep_u64 _ 4294967296 7694936916205891629 (hl _)]
    exact xorShift_u64 _ 268435456 (hl _)
  go_enter Try.func128, Try.ntmps128
  go_wp2
  go_ret
  exact R1.mk (int_eq E.out) (Drawn.refl _)
def ofUp (seed : Nat) (l : List Nat) : Nat → Nat
  | 0 => mixN seed
  | k + 1 => mixN ((ofUp seed l k + at_ l k + 256 * k) % 18446744073709551616)
def ofN (seed : Nat) (l : List Nat) : Nat := ofUp seed l l.length
theorem ofUp_lt (seed : Nat) (l : List Nat) (k : Nat) : ofUp seed l k < 18446744073709551616 := by
  cases k <;> exact mixN_lt _
end Go.Proofs.Ytkkadfjcnocopaa
