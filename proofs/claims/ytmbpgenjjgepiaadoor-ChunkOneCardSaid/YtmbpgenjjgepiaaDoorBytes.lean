/- Bytes as a string, and what bytes.Equal computes. Conditions: bytes are bytes. -/
import Derived.Test.YtmbpgenjjgepiaaDoorKit
import Derived.Laws.BytesArg
import Derived.Lib.Strings
namespace Go.Proofs.YtmbpgenjjgepiaaDoor
open Go.RowKit

def strN (l : List Nat) : ByteArray := ⟨(l.map fun n => UInt8.ofNat n).toArray⟩
theorem strN_back {l : List Nat} (hl : Bytes l) : ((strN l).data.toList.map UInt8.toNat) = l := by
  show (l.map fun n => UInt8.ofNat n).map UInt8.toNat = l
  induction l with
  | nil => rfl
  | cons b l ih =>
    have hb := hl b List.mem_cons_self
    rw [List.map_cons, List.map_cons, ih (fun x hx => hl x (List.mem_cons_of_mem _ hx))]
    congr 1
    simp [Nat.mod_eq_of_lt hb]
theorem strN_inj {a b : List Nat} (ha : Bytes a) (hb : Bytes b) (h : strN a = strN b) : a = b := by
  rw [← strN_back ha, ← strN_back hb, h]
theorem toList_data (s : ByteArray) : s.toList = s.data.toList := ByteArray.toList_eq s
theorem strN_beq {a b : List Nat} (ha : Bytes a) (hb : Bytes b) : ((strN a).toList == (strN b).toList) = decide (a = b) := by
  by_cases e : a = b
  · subst e; simp
  · rw [decide_eq_false e, beq_eq_false_iff_ne]
    intro h
    rw [toList_data, toList_data] at h
    exact e (by rw [← strN_back ha, ← strN_back hb, h])

section
variable {P : Program} {w : World}
theorem run_conv_bytes {src e dst : TypeId} (hs : P.underlying src = some (.slice e)) (he : P.underlying e = some (.int .u8)) (hd : P.underlying dst = some .string) {A : Option Addr} {n c B : Nat} {l : List Nat}
    (hl : l.length = n) (hr : Has w B A (u8s l)) : (convert src dst (.slice A n c)).run P w = .ok (.string (strN l)) w := by
  cases A with
  | none =>
    have : l = [] := by
      cases l with
      | nil => rfl
      | cons x r => obtain ⟨ad, h, _⟩ := hr (by simp [u8s]); cases h
    subst this
    exact run_convert_bytes_nil w src e hs he n c dst hd
  | some ad =>
    have hld : (loadCells ad n).run P w = .ok ((l.map fun b : Nat => (b : Int)).map (Value.int .u8)).toArray w := by
      have := run_loadCells_list (P := P) w ad (u8s l) (fun j v hj => by
        obtain ⟨ad', h, _, hc⟩ := hr.at hj
        injection h with h
        subst h
        exact hc)
      rw [u8s_len, hl] at this
      rw [this]
      simp [u8s, u8v, List.map_map, Function.comp_def]
    rw [run_convert_bytes_string w src dst e _ n c hs he hd, run_bytesToString w _ n c _ hld, foldl_push_bytes]
    simp [strN, ByteArray.empty, ByteArray.emptyWithCapacity, List.map_map, Function.comp_def]
    rfl
end

set_option maxRecDepth 1000000 in
set_option maxHeartbeats 400000 in
theorem bytesEqual_any (A A' : Option Addr) (n n' c c' : Nat) (l l' : List Nat) (hb : Bytes l) (hb' : Bytes l') (hl : l.length = n) (hl' : l'.length = n') (w : World) (h : Has w w.heap.size A (u8s l)) (h' : Has w w.heap.size A' (u8s l')) :
    Calls Tryd.prog 9 #[.slice A n c, .slice A' n' c'] w (R1 (.bool (decide (l = l'))) (Drawn w)) := by
  have e1 := run_conv_bytes (P := Tryd.prog) (w := w) (c := c) Tryd.underlying24 Tryd.underlying5 Tryd.underlying9 hl h
  have e2 := run_conv_bytes (P := Tryd.prog) (w := w) (c := c') Tryd.underlying24 Tryd.underlying5 Tryd.underlying9 hl' h'
  go_enter Tryd.func9, Tryd.ntmps9
  go_wp2
  go_ret
  exact R1.mk (bool_eq (strN_beq hb hb')) (Drawn.refl _)
end Go.Proofs.YtmbpgenjjgepiaaDoor
