/- The cells of a key in a sketch. Conditions: rows lie in their cells. -/
import Derived.Test.YtkkadfjcnocopaaSkLaw
import Derived.Test.YtkkadfjcnocopaaOf
import Derived.Test.YtkkadfjcnocopaaStep
import Derived.Lib.ConvBytes
import Derived.Deep.RegionHeldLaw
namespace Go.Proofs.Ytkkadfjcnocopaa
open Go.RowKit

def byt (s : ByteArray) : List Nat := s.data.toList.map (·.toNat)
theorem byt_bytes (s : ByteArray) : Bytes (byt s) := by
  intro b hb
  obtain ⟨x, _, rfl⟩ := List.mem_map.1 hb
  exact x.toNat_lt
theorem byt_len (s : ByteArray) : (byt s).length = s.size := by rw [byt, List.length_map, Array.length_toList]; rfl
/-- where key comes to in part i -/
def cellN (s : ByteArray) (wd i : Nat) : Nat := i * wd + ofN i (byt s) % wd
def cellsN (s : ByteArray) (wd d : Nat) : List Int := (List.range d).map fun i => (cellN s wd i : Int)
theorem cellsN_len (s : ByteArray) (wd d : Nat) : (cellsN s wd d).length = d := by simp [cellsN]
theorem cellsN_succ (s : ByteArray) (wd d : Nat) : cellsN s wd (d + 1) = cellsN s wd d ++ [(cellN s wd d : Int)] := by simp [cellsN, List.range_succ]
theorem elInt : Elem Try.prog 126 3 1 8 := Elem.mk' (z := .int .i64 0) Try.underlying126 (by kernel_rfl) rfl (by decide)
theorem has_bytes (w : World) (e : TypeId) (s : ByteArray) : Has (Lib.bytesWorld w e s) (Lib.bytesWorld w e s).heap.size (some ⟨w.heap.size, 0, none⟩) (u8s (byt s)) := fun _ => by
  refine ⟨_, rfl, by rw [Lib.bytesWorld_size]; exact Nat.lt_succ_self _, fun j u hu => ?_⟩
  have hadd : (⟨w.heap.size, 0, none⟩ : Addr).add j = ⟨w.heap.size, j, none⟩ := by unfold Addr.add; split <;> simp_all
  have hj : j < s.size := by
    have := (List.getElem?_eq_some_iff.1 hu).1
    rw [u8s_len, byt_len] at this
    exact this
  rw [hadd, Lib.bytesWorld_cell w e s j hj, ← hu]
  have hj' : j < s.data.toList.length := by rw [Array.length_toList]; exact hj
  show some (Value.int .u8 (((s.data.toList.getD j 0).toNat : Nat) : Int)) = ((s.data.toList.map (·.toNat)).map u8v)[j]?
  rw [List.getElem?_map, List.getElem?_map, List.getElem?_eq_getElem hj', List.getD, List.getElem?_eq_getElem hj']
  rfl
theorem has_bytes' (w : World) (e : TypeId) (s : ByteArray) {g : Nat} (hg : g = w.heap.size) : Has (Lib.bytesWorld w e s) (Lib.bytesWorld w e s).heap.size (some ⟨g, 0, none⟩) (u8s (byt s)) := by subst hg; exact has_bytes w e s
theorem int_one (x : Int) : ∀ u ∈ (#[Value.int .i64 x] : Array Value).toList, u.oneCell' = true := by intro u hu; simp at hu; subst hu; rfl
theorem below_drew {B : Nat} {a w : World} (h : Below B a w) : Below B a w.drew := below_drewN h 1
theorem below_bytes {B : Nat} {a w : World} (h : Below B a w) (hB : B ≤ a.heap.size) (e : TypeId) (s : ByteArray) : Below B a (Lib.bytesWorld w e s) := h.trans (Joins.below_bytesWorld B w e s (Nat.le_trans hB h.size))
theorem keep1 {w W : World} {B g j : Nat} {x : Value} (h : Below B w W) (hg : g < B) (c : w.cell? ⟨g, j, none⟩ = some x) : W.cell? ⟨g, j, none⟩ = some x := (h.cell (p := ⟨g, j, none⟩) hg).trans c

set_option maxRecDepth 1000000 in
set_option maxHeartbeats 8000000 in
theorem cells_any (d wd : Nat) (A : Option Addr) (n c : Nat) (N : Int) (key : ByteArray) (h1 : 1 ≤ d) (h2 : d ≤ 8) (h3 : 1 ≤ wd) (h4 : wd ≤ 200) (hk : key.size ≤ maxLen) (w : World) :
    Calls Try.prog 76 #[.agg #[.int .i64 d, .int .i64 wd, .slice A n c, .int .i64 N], .string key] w
      (RV fun v w' => ∃ A' c', v = .slice A' d c' ∧ w'.ownsRow w.heap.size 3 1 (.slice A' d c') d (i64s (cellsN key wd d)) ∧ Below w.heap.size w w') := by
  have hb1 : Below w.heap.size w (w.alloc (.cells #[.int .i64 d, .int .i64 wd, .slice A n c, .int .i64 N] 34)) := (Below.refl _ _).alloc (Nat.le_refl _) _
  have hk1 : Blk (w.alloc (.cells #[.int .i64 d, .int .i64 wd, .slice A n c, .int .i64 N] 34)) w.heap.size 34 #[.int .i64 d, .int .i64 wd, .slice A n c, .int .i64 N] := Blk.new _ _ _
  have hcv := fun (w : World) (s : ByteArray) => Lib.run_convert_string_bytes (P := Try.prog) w 9 170 5 s Try.underlying9 Try.underlying170 Try.underlying5
  go_enter Try.func76, Try.ntmps76
  go_wp2_with fail
  go_loopw [5, 9] (fun o i wr => ∃ (k c' : Nat) (A' : Option Addr), k ≤ d ∧ i = .int .i64 (k : Nat) ∧ o = .slice A' k c' ∧ wr.ownsRow (w.heap.size + 1) 3 1 (.slice A' k c') k (i64s (cellsN key wd k)) ∧ Below w.heap.size w wr ∧ Blk wr w.heap.size 34 #[.int .i64 d, .int .i64 wd, .slice A n c, .int .i64 N]) (fun _ i _ => d - (intOf i).toNat)
  case atStart => exact ⟨0, 0, none, by omega, rfl, rfl, ⟨rfl, .inl ⟨rfl, rfl⟩⟩, hb1, hk1⟩
  case round =>
    obtain ⟨k, c', A', hkd, rfl, rfl, hown, hb, hkr⟩ := hrel
    have y0 : wr.cell? ⟨w.heap.size, 0, none⟩ = some (.int .i64 d) := hkr.cell 0
    have y1 : wr.cell? ⟨w.heap.size, 1, none⟩ = some (.int .i64 wd) := hkr.cell 1
    by_cases hlt : (k : Int) < (d : Int)
    · obtain ⟨q, hq⟩ : ∃ q, ofN k (byt key) = q := ⟨_, rfl⟩
      obtain ⟨r, hr⟩ : ∃ r, q % wd = r := ⟨_, rfl⟩
      obtain ⟨p, hp⟩ : ∃ p, k * wd = p := ⟨_, rfl⟩
      obtain ⟨x, hx⟩ : ∃ x, cellN key wd k = x := ⟨_, rfl⟩
      have hxe : x = p + r := by rw [← hx, cellN, hq, hr, hp]
      have hrb : r < wd := by rw [← hr]; exact Nat.mod_lt _ h3
      have hpb : p ≤ 1600 := by rw [← hp]; exact Nat.mul_le_mul (show k ≤ 8 by omega) h4
      have z1 : IntKind.u64.wrap (k : Int) = (k : Int) := by rw [IntKind.wrap_u64]; omega
      have z2 : IntKind.u64.wrap (wd : Int) = (wd : Int) := by rw [IntKind.wrap_u64]; omega
      have z3 : IntKind.i64.wrap (r : Int) = (r : Int) := IntWalk.i64_in _ (by omega)
      have z4 : IntKind.i64.wrap ((k : Int) * (wd : Int)) = (p : Int) := by
        have e : (k : Int) * (wd : Int) = (p : Int) := by rw [← hp, Int.natCast_mul]
        rw [e]; exact IntWalk.i64_in _ (by omega)
      have z5 : IntKind.i64.wrap ((p : Int) + (r : Int)) = (x : Int) := (IntWalk.i64_in _ (by omega)).trans (by omega)
      have z6 : (q : Int).tmod (wd : Int) = (r : Int) := by rw [← hr]; rfl
      have hw0 : ((wd : Int) == 0) = false := by rw [beq_eq_false_iff_ne]; omega
      have HX := Lib.hid hx
      have HQ := Lib.hid hq
      clear hx hq hr hp hxe
      have hsz : w.heap.size < wr.heap.size := hkr.lt
      have h63 : k + 1 ≤ maxLen := by unfold maxLen; omega
      have h16 : (k + 1) * 8 ≤ 140737488355328 := by omega
      have Hown := Lib.hid hown; clear hown
      go_wp2_with fail
      go_region_held_law (fun w' => w'.cell? ⟨w.heap.size, 1, none⟩ = some (.int .i64 wd))
        (first | ((refine keep1 (B := w.heap.size + 1) (w := wr) ?_ (Nat.lt_succ_self _) y1; (repeat' (first | with_reducible exact hB7 | with_reducible exact Below.refl _ _ | with_reducible refine below_drew ?_ | with_reducible refine below_drewN ?_ _ | with_reducible refine below_bytes ?_ (by omega) _ _ | with_reducible refine Below.alloc ?_ (by simp [Lib.bytesWorld_size]; omega) _)); done)) | (with_reducible exact keep1 hbel1 (Nat.lt_succ_self _) (by assumption)) | (trace_state; fail))
        (first | (go_at_call 109; refine (of_any' k (by omega) _ _ _ (byt key) (byt_len key) (by rw [byt_len]; exact hk) (byt_bytes key) _ (by exact has_bytes' _ _ _ (by simp))).mono ?_; rw [HQ.out]; rintro e w3 ⟨rfl, n3, rfl⟩; have hB3 : Below wr.heap.size wr ((Lib.bytesWorld wr.drew 5 key).drewN n3) := below_drewN (below_bytes (below_drew (Below.refl _ _)) (Nat.le_refl _) _ _) n3; have hs3 := hB3.size) | (refine step_append1 rfl _ _ _ (by rfl) elInt (by exact (own_next Hown.out hB3).alloc _) (by rfl) (by rfl) (by exact heap_alloc_new _ _) (by rfl) (int_one _) h16 h63 (by simp [Lib.bytesWorld_size]; omega) ?_; intro A2 e2 w1 hown1 hgrow hbel1))
      have Hown1 := Lib.hid hown1
      have Hbel1 := Lib.hid hbel1
      have HG := Lib.hid hgrow
      clear hown1 hbel1 hgrow
      go_wp2_with fail
      go_roundw
      case rel =>
        refine ⟨k + 1, e2, A2, by omega, by go_num, rfl, ?_, ?_, ?_⟩
        · rw [cellsN_succ, HX.out]
          have := Hown1.out
          simpa [i64s, i64v] using this
        · exact ((hb.trans (hB3.mono hb.size)).alloc (by simp [Lib.bytesWorld_size]; omega) _).trans (Hbel1.out.mono (by omega))
        · exact ((hkr.next hB3).alloc _).below Hbel1.out (Nat.lt_succ_self _)
      case measure => simp [intOf]; omega
    · have hkl : k = d := by omega
      subst hkl
      go_wp2_with fail
      go_ret
      exact RV.mk ⟨A', c', rfl, own_less hown (by omega), hb⟩
end Go.Proofs.Ytkkadfjcnocopaa
