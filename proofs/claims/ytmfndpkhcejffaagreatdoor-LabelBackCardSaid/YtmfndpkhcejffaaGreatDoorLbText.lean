/- What text of package label makes. Conditions: the matches lie in their cells; the table of signs. -/
import Derived.Test.YtmfndpkhcejffaaGreatDoorLbQuo
import Derived.Test.YtmfndpkhcejffaaGreatDoorLbChk
import Derived.Test.YtmfndpkhcejffaaGreatDoorShJ
import Derived.Deep.RegionHeld3
namespace Go.Proofs.YtmfndpkhcejffaaGreatDoor
open Go.RowKit

/-- what stands between a name and a value -/
def sgB : Nat → ByteArray
  | 1 => ⟨#[61]⟩
  | 2 => ⟨#[33, 61]⟩
  | 3 => ⟨#[61, 94]⟩
  | 4 => ⟨#[61, 126]⟩
  | _ => ⟨#[]⟩
def SgAt (w : World) : Prop := 0 < w.heap.size ∧ ∀ k, k < 5 → w.cell? ⟨0, k, none⟩ = some (.string (sgB k))
theorem SgAt.next {w w' : World} (h : SgAt w) (hb : Below w.heap.size w w') : SgAt w' := ⟨Nat.lt_of_lt_of_le h.1 hb.size, fun k hk => (hb.cell (p := ⟨0, k, none⟩) h.1).trans (h.2 k hk)⟩
def mtT (x : Mt) : ByteArray := x.nm ++ sgB x.k.toNat ++ quoB x.v
def txtB (L : List Mt) : ByteArray := (⟨#[123]⟩ : ByteArray) ++ (⟨(Lib.join ((L.map mtT).map (·.data.toList)) [44]).toArray⟩ : ByteArray) ++ (⟨#[125]⟩ : ByteArray)
/-- matches that CheckMatch lets by are of this size -/
def MtS (x : Mt) : Prop := 1 ≤ x.k ∧ x.k ≤ 4 ∧ x.nm.size ≤ 20 ∧ x.v.size ≤ 40
theorem mtT_size {x : Mt} (h : MtS x) : (mtT x).size ≤ 104 := by
  unfold mtT
  rw [ByteArray.size_append, ByteArray.size_append]
  have h1 := quoB_size x.v
  have h2 : (sgB x.k.toNat).size ≤ 2 := by
    unfold sgB
    split <;> decide
  obtain ⟨_, _, h3, h4⟩ := h
  omega
theorem joinTail_len : ∀ l : List (List UInt8), (∀ x ∈ l, x.length ≤ 104) → (Lib.joinTail [44] l).length ≤ l.length * 105
  | [], _ => Nat.le_refl _
  | x :: l, h => by
    have ih := joinTail_len l (fun y hy => h y (by simp [hy]))
    have hx := h x (by simp)
    have e : Lib.joinTail [44] (x :: l) = (44 :: x) ++ Lib.joinTail [44] l := by simp [Lib.joinTail]
    rw [e, List.length_append, List.length_cons, List.length_cons]
    omega
theorem joinT_len (L : List Mt) (h : ∀ x ∈ L, MtS x) : (Lib.join ((L.map mtT).map (·.data.toList)) [44]).length ≤ L.length * 105 := by
  cases L with
  | nil => exact Nat.le_refl _
  | cons x l =>
    rw [List.map_cons, List.map_cons, Lib.join_cons, List.length_append, List.length_cons]
    have h1 := joinTail_len ((l.map mtT).map (·.data.toList)) (fun y hy => by
      rw [List.map_map] at hy
      obtain ⟨z, hz, rfl⟩ := List.mem_map.1 hy
      have := mtT_size (h z (by simp [hz]))
      simp only [Function.comp, Array.length_toList]
      exact this)
    rw [List.length_map, List.length_map] at h1
    have h2 : (mtT x).data.toList.length ≤ 104 := by rw [Array.length_toList]; exact mtT_size (h x (by simp))
    omega
theorem keepT {w : World} {g s q : Nat} {t : TypeId} {a b c z : Value} (h : Blk w g t #[a, b, c]) (hs : w.cell? ⟨s, q, none⟩ = some z) : w.cell? ⟨g, 0, none⟩ = some a ∧ w.cell? ⟨g, 1, none⟩ = some b ∧ w.cell? ⟨g, 2, none⟩ = some c ∧ w.cell? ⟨s, q, none⟩ = some z := ⟨h.cell 0, h.cell 1, h.cell 2, hs⟩
theorem strCs_app1T (l : List ByteArray) (x : ByteArray) : strCs (l ++ [x]) = strCs l ++ (#[Value.string x] : Array Value).toList := by simp [strCs, strC]

set_option maxRecDepth 1000000 in
set_option maxHeartbeats 4000000 in
theorem ltext_any (A : Option Addr) (n c : Nat) (L : List Mt) (hn : L.length = n) (hl : n ≤ 10) (w : World) (h : Has w w.heap.size A (mtCs L)) (hL : ∀ e ∈ L, MtS e) (tS : SgAt w) :
    Calls Tryz.prog 12 #[.slice A n c] w (R1 (.string (txtB L)) (Below w.heap.size w)) := by
  have Hn := Lib.hid hn
  have HL := Lib.hid hL
  have Hh := Lib.hid h
  have HS := Lib.hid tS
  obtain ⟨r, hr⟩ : ∃ r, txtB L = r := ⟨_, rfl⟩
  rw [hr]
  have HR := Lib.hid hr
  clear hL h hn tS hr
  have mixed : Tryz.prog.follows .mixedOrders = true := by kernel_rfl
  go_enter Tryz.func12, Tryz.ntmps12
  go_wp2_with fail
  go_loopw [3, 8] (fun ov iv wr => ∃ (k : Nat) (B : Option Addr) (d : Nat), k ≤ n ∧ iv = .int .i64 (k : Nat) ∧ ov = .slice B k d ∧ wr.ownsRow w.heap.size 9 1 (.slice B k d) k (strCs ((L.take k).map mtT)) ∧ Below w.heap.size w wr) (fun _ iv _ => n + 5 - (intOf iv).toNat)
  case atStart => exact ⟨0, none, 0, by omega, rfl, rfl, World.ownsRow_nil _ _ _ _, Below.refl _ _⟩
  case round =>
    obtain ⟨k, B, d, hk, rfl, rfl, hown, hbr⟩ := hrel
    have hbs := hbr.size
    by_cases hlt : (k : Int) < (n : Int)
    · have hkL : k < L.length := by rw [Hn.out]; omega
      obtain ⟨ad, rfl, _, c0⟩ := (Hh.out.next hbr).at (mtCs_0 hkL)
      obtain ⟨ad', e', _, c1⟩ := (Hh.out.next hbr).at (mtCs_1 hkL)
      injection e' with e'
      subst e'
      obtain ⟨ad', e', _, c2⟩ := (Hh.out.next hbr).at (mtCs_2 hkL)
      injection e' with e'
      subst e'
      have c1 := cell_off c1 (by decide)
      have c2 := cell_off c2 (by decide)
      have hms := HL.out _ (at_mem hkL)
      have htk := take_at (l := L) (k := k) hkL
      obtain ⟨x, hx⟩ : ∃ x, at_ L k = x := ⟨_, rfl⟩
      rw [hx] at c0 c1 c2 hms htk
      have hsz := mtT_size hms
      have hqs := quoB_size x.v
      obtain ⟨q, nm, v⟩ := x
      unfold mtT at hsz
      obtain ⟨m1, m2, m3, m4⟩ := hms
      simp only [] at c0 c1 c2 m1 m2 m3 m4 hqs hsz
      obtain ⟨qn, hqn⟩ : ∃ qn : Nat, q = (qn : Int) := ⟨q.toNat, by omega⟩
      subst hqn
      obtain ⟨W1, hW1⟩ : ∃ W1, wr.alloc (.cells #[.int .i64 (qn : Int), .string nm, .string v] 36) = W1 := ⟨_, rfl⟩
      obtain ⟨g, hgs⟩ : ∃ g, wr.heap.size = g := ⟨_, rfl⟩
      have hk1 : Blk W1 g 36 #[.int .i64 (qn : Int), .string nm, .string v] := by rw [← hW1, ← hgs]; exact Blk.new _ _ _
      have hb1 : Below wr.heap.size wr W1 := by rw [← hW1]; exact one_allocP _ _
      have hb01 := bnext hbr hb1
      have hown1 := own_next hown hb1
      have sg := (HS.out.next hb01)
      have y0 : W1.cell? ⟨g, 0, none⟩ = some (.int .i64 (qn : Int)) := hk1.cell 0
      have y1 : W1.cell? ⟨g, 1, none⟩ = some (.string nm) := hk1.cell 1
      have y2 : W1.cell? ⟨g, 2, none⟩ = some (.string v) := hk1.cell 2
      have y3 := sg.2 qn (by omega)
      have hgl := hk1.lt
      have hsl := sg.1
      have HW := Lib.hid hW1
      have HG := Lib.hid hgs
      have HQ := fun w => Lib.hid (lquoted_any v (by omega) w)
      have Hown := Lib.hid hown1
      have hsw : 0 < w.heap.size := HS.out.1
      have hneG : some g ≠ (Value.slice B k d).ownBlock := fun h => by have h2 := (own_blockM hown g h.symm).2; omega
      have HK1 := hk1
      clear hW1 hgs hown hown1 hb1 sg hk1
      obtain ⟨sg, hsg⟩ : ∃ sg, sgB qn = sg := ⟨_, rfl⟩
      obtain ⟨qv, hqv⟩ : ∃ qv, quoB v = qv := ⟨_, rfl⟩
      have hz1 : (nm ++ sg ++ qv).size ≤ 104 := by rw [← hsg, ← hqv]; exact hsz
      rw [ByteArray.size_append, ByteArray.size_append] at hz1
      rw [hsg] at y3
      rw [hqv] at HQ
      have Htk := Lib.hid htk
      have Hsg := Lib.hid hsg
      have Hqv := Lib.hid hqv
      have b1 : (0 : Int) ≤ (qn : Int) := by omega
      have b2 : (qn : Int) < 5 := by omega
      have b3 : ¬ 9223372036854775807 < nm.size + sg.size := by omega
      have b4 : ¬ 9223372036854775807 < (nm ++ sg).size + qv.size := by rw [ByteArray.size_append]; omega
      have b5 : ¬ 9223372036854775807 < nm.size + sg.size + qv.size := by omega
      clear hsg hqv hsz hqs htk
      go_wp2_with fail
      rw [HW.out, HG.out]
      go_wp2_with fail
      go_region_held3 (fun w' => w'.cell? ⟨g, 0, none⟩ = some (.int .i64 (qn : Int)) ∧ w'.cell? ⟨g, 1, none⟩ = some (.string nm) ∧ w'.cell? ⟨g, 2, none⟩ = some (.string v) ∧ w'.cell? ⟨0, qn, none⟩ = some (.string sg))
        (first | exact keepT HK1 y3 | exact keepT hk8 s8 | exact keepT (Blk.alloc hk8 _) ((World.cell?_alloc_lt _ _ ⟨0, qn, none⟩ hl8).trans s8) | exact keepT hk9 s9)
        (first
          | (go_at_call 20
             refine ((HQ _).out).mono ?_
             rintro e9 w8 ⟨rfl, hb8⟩
             have hk8 : Blk w8 g 36 #[.int .i64 (qn : Int), .string nm, .string v] := Blk.next (by exact HK1) hb8
             have s8 : w8.cell? ⟨0, qn, none⟩ = some (.string sg) := (hb8.cell (p := ⟨0, qn, none⟩) (by exact hsl)).trans (by exact y3)
             have hl8 : 0 < w8.heap.size := Nat.lt_of_lt_of_le (by exact hsl) hb8.size
             have hown8 : w8.ownsRow w.heap.size 9 1 (.slice B k d) k (strCs ((L.take k).map mtT)) := own_next (by exact Hown.out) hb8
             have hbel8 : Below w.heap.size w w8 := bnext (below_drewN hb01 1) hb8)
          | (refine step_append1 rfl _ _ _ (by rfl) elStrL (by exact World.ownsRow.alloc hown8 _) (by rfl) (by rfl) (by exact heap_alloc_new _ _) (by rfl) (by intro u hu; simp at hu; subst hu; rfl) (by omega) (by unfold maxLen; omega) (by exact Nat.le_trans hbel8.size (one_allocP _ _).size) ?_
             intro B9 d9 w9 hown9 hgrow9 hbel9
             have hk9 : Blk w9 g 36 #[.int .i64 (qn : Int), .string nm, .string v] := Blk.grown (by exact Blk.alloc hk8 _) hgrow9 hneG
             have s9 : w9.cell? ⟨0, qn, none⟩ = some (.string sg) := (hbel9.cell (p := ⟨0, qn, none⟩) (by exact hsw)).trans ((World.cell?_alloc_lt _ _ ⟨0, qn, none⟩ (by exact hl8)).trans (by exact s8))))
      have hbel09 : Below w.heap.size w w9 := (hbel8.alloc hbel8.size _).trans hbel9
      have hrow : strCs ((L.take (k + 1)).map mtT) = strCs ((L.take k).map mtT) ++ (#[Value.string (nm ++ sg ++ qv)] : Array Value).toList := by
        rw [Htk.out, List.map_append, List.map_cons, List.map_nil, strCs_app1T]
        rw [show mtT ⟨(qn : Int), nm, v⟩ = nm ++ sg ++ qv from by unfold mtT; rw [Int.toNat_natCast, Hsg.out, Hqv.out]]
      have Hrow := Lib.hid hrow
      have Hown9 := Lib.hid hown9
      clear hrow hown9 hgrow9 hbel9 hk9 s9
      go_wp2_with fail
      go_roundw
      case rel => exact ⟨k + 1, B9, d9, by omega, by go_num, rfl, by rw [Hrow.out]; exact Hown9.out, hbel09⟩
      case measure => simp [intOf]; omega
    · have hkn : k = n := by omega
      subst hkn
      rw [List.take_of_length_le (by rw [Hn.out]; omega)] at hown
      have hjl := joinT_len L (fun x hx => HL.out x hx)
      rw [Hn.out] at hjl
      obtain ⟨J, hJ⟩ : ∃ J, (⟨(Lib.join ((L.map mtT).map (·.data.toList)) [44]).toArray⟩ : ByteArray) = J := ⟨_, rfl⟩
      have hJs : J.size ≤ 1100 := by rw [← hJ]; show (Lib.join ((L.map mtT).map (·.data.toList)) [44]).toArray.size ≤ 1100; rw [List.size_toArray]; omega
      have hE : r = (⟨#[123]⟩ : ByteArray) ++ J ++ (⟨#[125]⟩ : ByteArray) := by rw [← HR.out, txtB, hJ]
      have hcall : Calls Tryz.prog 21 #[.slice B k d, .string ⟨#[44]⟩] wr (R1 (.string J) (Below wr.heap.size wr)) := by
        rcases Nat.eq_zero_or_pos k with h0 | h0
        · subst h0
          have hL0 : L = [] := List.length_eq_zero_iff.1 Hn.out
          have hJ0 : J = ⟨#[]⟩ := by rw [← hJ, hL0]; rfl
          rw [hJ0]
          refine (Tryz.strings_Join_none B d ⟨#[44]⟩ wr).mono ?_
          rintro e w' ⟨rfl, rfl⟩
          exact R1.mk rfl (Below.refl _ _)
        · obtain ⟨bk, cap, ev, _, hbk⟩ := hown.form h0
          injection ev with e1 _ e3
          subst e1 e3
          have hLl : (L.map mtT).length = k := by rw [List.length_map, Hn.out]
          have hcap : k ≤ d := by
            rcases hown.2 with ⟨e, _⟩ | ⟨g, cap, cur, e, _, _, h1, _⟩
            · cases e
            · injection e with _ _ e3; omega
          have hh := Tryz.strings_Join bk 0 d (L.map mtT) ⟨#[44]⟩ wr (fun j x hx => by
            rw [Nat.zero_add]
            have := Has.of_own hown
            obtain ⟨ad, e, _, h2⟩ := this.at (strCs_at _ _ _ hx)
            injection e with e
            subst e
            rw [show (⟨bk, 0, none⟩ : Addr).add j = ⟨bk, j, none⟩ from by unfold Addr.add; split <;> simp_all] at h2
            exact h2) hbk (by rw [hLl]; omega) (by rw [hLl]; exact hcap) (by
            have e : (⟨#[44]⟩ : ByteArray).data.toList = [44] := rfl
            rw [e]; omega)
          rw [hLl] at hh
          refine hh.mono ?_
          rintro e w' ⟨rfl, hb⟩
          exact R1.mk (congrArg Value.string hJ) hb
      have HJ := Lib.hid hcall
      have HE := Lib.hid hE
      clear hcall hE hJ hjl hown HR HL Hh HS
      go_wp2_with fail
      refine HJ.out.mono ?_
      rintro e w2 ⟨rfl, hb2⟩
      go_wp2_with fail
      go_ret
      rw [HE.out]
      exact R1.mk rfl (bnext hbr hb2)
end Go.Proofs.YtmfndpkhcejffaaGreatDoor
