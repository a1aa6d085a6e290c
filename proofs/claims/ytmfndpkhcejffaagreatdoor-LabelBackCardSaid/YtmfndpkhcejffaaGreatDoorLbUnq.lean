/- What unquoted of package label reads. Conditions: the text is no giant. -/
import Derived.Test.YtmfndpkhcejffaaGreatDoorLbTold
import Derived.BigQuiet
namespace Go.Proofs.YtmfndpkhcejffaaGreatDoor
open Go.RowKit

/-- what is read behind a quote, up to the next quote that stands for itself: what was read, and what is left -/
def unqGo : List Nat → List Nat → Option (List Nat × List Nat)
  | _, [] => none
  | out, [x] => if x = 34 then some (out, []) else none
  | out, x :: y :: r => if x = 34 then some (out, y :: r) else if x = 92 then unqGo (out ++ [if y = 110 then 10 else y]) r else unqGo (out ++ [x]) (y :: r)
theorem unq_quote (out r : List Nat) : unqGo out (34 :: r) = some (out, r) := by
  cases r with
  | nil => simp [unqGo]
  | cons y r => simp [unqGo]
theorem unq_plain (out r : List Nat) (x : Nat) (h1 : x ≠ 34) (h2 : x ≠ 92) : unqGo out (x :: r) = unqGo (out ++ [x]) r := by
  cases r with
  | nil => simp [unqGo, h1]
  | cons y r => simp [unqGo, h1, h2]
theorem unq_slash (out r : List Nat) (y : Nat) : unqGo out (92 :: y :: r) = unqGo (out ++ [if y = 110 then 10 else y]) r := by simp [unqGo]
theorem unq_end (out : List Nat) : unqGo out [92] = none := by simp [unqGo]
def unqV : Option (List Nat × List Nat) → Value
  | none => .tuple #[.string ⟨#[]⟩, .string ⟨#[]⟩, .bool false]
  | some (a, b) => .tuple #[.string (bsOf a), .string (bsOf b), .bool true]
theorem elU8u : Elem Tryz.prog 58 5 1 1 := Elem.mk' (z := .int .u8 0) Tryz.underlying58 (by kernel_rfl) rfl (by decide)
theorem u8s_app1u (l : List Nat) (x : Nat) : u8s (l ++ [x]) = u8s l ++ (#[.int .u8 (x : Nat)] : Array Value).toList := by simp [u8s, u8v]
theorem conv_own {W : World} {base n : Nat} {v : Value} {l : List Nat} (h : W.ownsRow base 5 1 v n (u8s l)) : (convert 58 9 v).run Tryz.prog W = .ok (.string (bsOf l)) W := by
  have hl : l.length = n := by have := h.1; simp [u8s] at this; omega
  rcases h.2 with ⟨rfl, h0⟩ | ⟨g, cap, cur, rfl, _, hg, h1, _, h2, h3⟩
  · have : l = [] := List.length_eq_zero_iff.1 (by omega)
    subst this
    exact run_convert_bytes_nil (P := Tryz.prog) W 58 5 Tryz.underlying58 Tryz.underlying5 0 0 9 Tryz.underlying9
  · exact run_convert_bytes_arg (P := Tryz.prog) W 58 5 Tryz.underlying58 Tryz.underlying5 g 0 n cap (l.map (fun x : Nat => (x : Int))) (by rw [List.length_map]; exact hl) (fun i hi => by
      rw [Nat.zero_add, cell_of_row W g i cur 5 (0, 0) hg]
      have : cur.toList[i]? = (u8s l)[i]? := by rw [← h3, List.getElem?_take_of_lt (by omega)]
      rw [← Array.getElem?_toList, this]
      simp [u8s, u8v, List.getD, hl, hi]) 9 Tryz.underlying9
theorem bsOf_drop (s : ByteArray) (i : Nat) : bsOf ((sb s).drop i) = s.extract i s.size := by
  have e : bsOf ((sb s).drop i) = ⟨(s.data.toList.drop i).toArray⟩ := by
    unfold bsOf strOfNums sb
    apply ByteArray.ext
    apply Array.ext'
    rw [← List.map_drop]
    simp only [List.map_map]
    have : ((fun n : Int => UInt8.ofNat n.toNat) ∘ (fun x : Nat => (x : Int)) ∘ fun x : UInt8 => x.toNat) = id := by
      funext x
      simp
    first | rw [this, List.map_id] | (simp [this])
  rw [e]
  apply ByteArray.ext
  apply Array.ext'
  rw [ByteArray.data_extract, Array.toList_extract]
  simp [List.extract]
  rw [List.take_of_length_le]
  rw [List.length_drop, Array.length_toList]
  exact Nat.le_refl _
theorem sb_drop_cons (s : ByteArray) (i : Nat) (h : i < s.size) : (sb s).drop i = s[i].toNat :: (sb s).drop (i + 1) := by
  have hl : i < (sb s).length := by rw [sb_len]; exact h
  rw [List.drop_eq_getElem_cons hl]
  congr 1
  have := sb_at s i h
  rw [at_eq hl] at this
  exact this

set_option maxRecDepth 1000000 in
set_option maxHeartbeats 8000000 in
theorem lunq_any (s : ByteArray) (hs : s.size ≤ 4294967296) (w : World) :
    Calls Tryz.prog 25 #[.string s] w (R1 (unqV (unqGo [] (sb s))) (Below w.heap.size w)) := by
  obtain ⟨r, hr⟩ : ∃ r, unqGo [] (sb s) = r := ⟨_, rfl⟩
  have HR := Lib.hid (show unqGo [] ((sb s).drop 0) = r from hr)
  rw [hr]
  clear hr
  go_enter Tryz.func25, Tryz.ntmps25
  go_wp2_with fail
  go_loopw [5, 6] (fun ov iv wr => ∃ (i : Nat) (l : List Nat) (B : Option Addr) (d : Nat), i ≤ s.size ∧ l.length ≤ i ∧ iv = .int .i64 (i : Nat) ∧ ov = .slice B l.length d ∧ Hid (unqGo l ((sb s).drop i) = r) ∧ wr.ownsRow w.heap.size 5 1 (.slice B l.length d) l.length (u8s l) ∧ Below w.heap.size w wr) (fun _ iv _ => s.size + 5 - (intOf iv).toNat)
  case atStart => exact ⟨0, [], none, 0, by omega, by simp, rfl, rfl, HR, World.ownsRow_nil _ _ _ _, Below.refl _ _⟩
  case round =>
    obtain ⟨i, l, B, d, hi, hli, rfl, rfl, hg, hown, hbr⟩ := hrel
    have hbs := hbr.size
    by_cases hlt : (i : Int) < (s.size : Int)
    · have hil : i < s.size := by omega
      have hd := sb_drop_cons s i hil
      obtain ⟨x, hx⟩ : ∃ x, s[i].toNat = x := ⟨_, rfl⟩
      rw [hx] at hd
      have hxl : x < 256 := by rw [← hx]; exact UInt8.toNat_lt _
      have hi0 : (0 : Int) ≤ (i : Int) := by omega
      have hg2 := hg.out
      rw [hd] at hg2
      by_cases q1 : x = 34
      · rw [q1, unq_quote] at hg2
        have hcv := fun n => conv_own (own_drewN hown n)
        have hx' : s[i].toNat = 34 := by rw [hx, q1]
        have HE := Lib.hid (show unqV r = .tuple #[.string (bsOf l), .string (s.extract (i + 1) s.size), .bool true] by rw [← hg2, ← bsOf_drop]; rfl)
        have hi1 : (i : Int) + 1 ≤ (s.size : Int) := by omega
        clear hg2 hg hd hx q1 hxl hown
        go_wp2_with fail
        go_quiet (fail)
        go_wp2_with fail
        go_ret3
        rw [HE.out]
        exact R1.mk rfl (below_drewN hbr _)
      · have q1' : ((x : Int) == 34) = false := by rw [beq_eq_false_iff_ne]; omega
        by_cases q2 : x = 92
        · subst q2
          by_cases hlt2 : (i : Int) + 1 < (s.size : Int)
          · have hil2 : i + 1 < s.size := by omega
            have hd2 := sb_drop_cons s (i + 1) hil2
            obtain ⟨y, hy⟩ : ∃ y, s[i + 1].toNat = y := ⟨_, rfl⟩
            rw [hy] at hd2
            have hyl : y < 256 := by rw [← hy]; exact UInt8.toNat_lt _
            rw [hd2, unq_slash] at hg2
            have hi1 : (0 : Int) ≤ (i : Int) + 1 := by omega
            have hti : ((i : Int) + 1).toNat = i + 1 := by omega
            clear hg hd hd2
            by_cases q3 : y = 110
            · rw [if_pos q3] at hg2
              subst q3
              have Hg := Lib.hid hg2
              clear hg2
              go_wp2_with (at_builtin; refine wpList_append1 rfl _ _ _ rfl elU8u (v := .slice B l.length d) rfl hown (g := wr.heap.size) rfl rfl rfl ?_ ?c1 ?c2 ?c3 ?c4; intro B9 d9 w9 hown9 hgrow9 hbel9)
              case c1 => first | (intro u hu; simp at hu; subst hu; rfl) | rfl
              case c2 => omega
              case c3 => unfold maxLen; omega
              case c4 => exact hbs
              have hbel09 : Below w.heap.size w w9 := hbr.trans hbel9
              have hlen9 : (l ++ [10]).length = l.length + 1 := by simp
              have Hown9 := Lib.hid (show w9.ownsRow w.heap.size 5 1 (.slice B9 (l ++ [10]).length d9) (l ++ [10]).length (u8s (l ++ [10])) by rw [hlen9, u8s_app1u]; exact hown9)
              clear hown9 hgrow9 hbel9
              go_wp2_with fail
              go_roundw
              case rel => exact ⟨i + 2, l ++ [10], B9, d9, by omega, by rw [hlen9]; omega, by go_num, by rw [hlen9], Hg, Hown9.out, hbel09⟩
              case measure => simp [intOf]; omega
            · rw [if_neg q3] at hg2
              have q3' : ((y : Int) == 110) = false := by rw [beq_eq_false_iff_ne]; omega
              have Hg := Lib.hid hg2
              clear hg2
              go_wp2_with (at_builtin; refine wpList_append1 rfl _ _ _ rfl elU8u (v := .slice B l.length d) rfl hown (g := wr.heap.size) rfl rfl rfl ?_ ?c1 ?c2 ?c3 ?c4; intro B9 d9 w9 hown9 hgrow9 hbel9)
              case c1 => first | (intro u hu; simp at hu; subst hu; rfl) | rfl
              case c2 => omega
              case c3 => unfold maxLen; omega
              case c4 => exact hbs
              have hbel09 : Below w.heap.size w w9 := hbr.trans hbel9
              have hlen9 : (l ++ [y]).length = l.length + 1 := by simp
              have Hown9 := Lib.hid (show w9.ownsRow w.heap.size 5 1 (.slice B9 (l ++ [y]).length d9) (l ++ [y]).length (u8s (l ++ [y])) by rw [hlen9, u8s_app1u]; exact hown9)
              clear hown9 hgrow9 hbel9
              go_wp2_with fail
              go_roundw
              case rel => exact ⟨i + 2, l ++ [y], B9, d9, by omega, by rw [hlen9]; omega, by go_num, by rw [hlen9], Hg, Hown9.out, hbel09⟩
              case measure => simp [intOf]; omega
          · have hd2 : (sb s).drop (i + 1) = [] := List.drop_of_length_le (by rw [sb_len]; omega)
            rw [hd2, unq_end] at hg2
            have HE := Lib.hid (show unqV r = .tuple #[.string ⟨#[]⟩, .string ⟨#[]⟩, .bool false] by rw [← hg2]; rfl)
            clear hg2 hg hd hd2 hown
            go_wp2_with fail
            go_ret3
            rw [HE.out]
            exact R1.mk rfl hbr
        · have q2' : ((x : Int) == 92) = false := by rw [beq_eq_false_iff_ne]; omega
          rw [unq_plain _ _ _ q1 q2] at hg2
          have Hg := Lib.hid hg2
          clear hg2 hg hd
          go_wp2_with (at_builtin; refine wpList_append1 rfl _ _ _ rfl elU8u (v := .slice B l.length d) rfl hown (g := wr.heap.size) rfl rfl rfl ?_ ?c1 ?c2 ?c3 ?c4; intro B9 d9 w9 hown9 hgrow9 hbel9)
          case c1 => first | (intro u hu; simp at hu; subst hu; rfl) | rfl
          case c2 => omega
          case c3 => unfold maxLen; omega
          case c4 => exact hbs
          have hbel09 : Below w.heap.size w w9 := hbr.trans hbel9
          have hlen9 : (l ++ [x]).length = l.length + 1 := by simp
          have Hown9 := Lib.hid (show w9.ownsRow w.heap.size 5 1 (.slice B9 (l ++ [x]).length d9) (l ++ [x]).length (u8s (l ++ [x])) by rw [hlen9, u8s_app1u]; exact hown9)
          clear hown9 hgrow9 hbel9
          go_wp2_with fail
          go_roundw
          case rel => exact ⟨i + 1, l ++ [x], B9, d9, by omega, by rw [hlen9]; omega, by go_num, by rw [hlen9], Hg, Hown9.out, hbel09⟩
          case measure => simp [intOf]; omega
    · have hd2 : (sb s).drop i = [] := List.drop_of_length_le (by rw [sb_len]; omega)
      have hg2 := hg.out
      rw [hd2] at hg2
      have HE := Lib.hid (show unqV r = .tuple #[.string ⟨#[]⟩, .string ⟨#[]⟩, .bool false] by rw [← hg2]; rfl)
      clear hg2 hg hd2 hown
      go_wp2_with fail
      go_ret3
      rw [HE.out]
      exact R1.mk rfl hbr
end Go.Proofs.YtmfndpkhcejffaaGreatDoor
