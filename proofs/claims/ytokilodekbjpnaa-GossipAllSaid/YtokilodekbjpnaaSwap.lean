/- What told and Swap of package gossip give. Conditions: claims lie in their cells. -/
import Derived.Test.YtokilodekbjpnaaDelta
import Derived.OwnWalk
namespace Go.Proofs.Ytokilodekbjpnaa
open Go.RowKit

/-- a list of claims of the call's own -/
def OwnL (w : World) (B : Nat) (A : Option Addr) (c : Nat) (O : List ClE) : Prop := w.ownsRow B 34 4 (.slice A O.length c) O.length (clCs O) ∧ RowsOwn w B O
theorem OwnL.next {w w' : World} {B c : Nat} {A : Option Addr} {O : List ClE} (h : OwnL w B A c O) (hb : Below w.heap.size w w') : OwnL w' B A c O := ⟨own_next h.1 hb, h.2.next hb⟩
theorem OwnL.ls {w : World} {B c : Nat} {A : Option Addr} {O : List ClE} (h : OwnL w B A c O) : LsAt w A O.length c O := LsAt.of h.1 h.2
theorem OwnL.less {w : World} {B B' c : Nat} {A : Option Addr} {O : List ClE} (h : OwnL w B A c O) (hb : B' ≤ B) : OwnL w B' A c O := ⟨own_less h.1 hb, h.2.less hb⟩
theorem OwnL.nil (w : World) (B : Nat) : OwnL w B none 0 [] := ⟨⟨rfl, .inl ⟨rfl, rfl⟩⟩, RowsOwn.nil _ _⟩
def ToldP (x : List Clm) (w : World) (v : Value) (w' : World) : Prop :=
  ∃ (O : List ClE) (A : Option Addr) (c : Nat), v = .slice A O.length c ∧ O.map ClE.x = x ∧ OwnL w' w.heap.size A c O ∧ Below w.heap.size w w'
def SwapP (r : (List Clm × List Clm) × Int) (w : World) (v : Value) (w' : World) : Prop :=
  ∃ (O P : List ClE) (A B : Option Addr) (c d : Nat), v = .tuple #[.slice A O.length c, .slice B P.length d, .int .i64 r.2] ∧ O.map ClE.x = r.1.1 ∧ P.map ClE.x = r.1.2 ∧ OwnL w' w.heap.size A c O ∧ OwnL w' w.heap.size B d P ∧ Below w.heap.size w w'
def swapN (a b : List Clm) : (List Clm × List Clm) × Int := if (mergeN a b).2 ≠ 0 then (([], []), (mergeN a b).2) else ((toldN a b, toldN b a), 0)
/-- versions fit their kind -/
def VOk (a : List Clm) : Prop := ∀ c ∈ a, In64 c.v
theorem VOk.of {L : List ClE} {a : List Clm} (h : ∀ e ∈ L, In64 e.v) (ha : L.map ClE.x = a) : VOk a := by
  subst ha
  intro c hc
  obtain ⟨e, he, rfl⟩ := List.mem_map.1 hc
  exact h e he
theorem VOk.merge {a b : List Clm} (ha : VOk a) (hb : VOk b) : VOk (mergeN a b).1 := by
  unfold mergeN
  split
  · intro c hc; cases hc
  · split
    · intro c hc; cases hc
    · split
      · intro c hc; cases hc
      · intro c hc
        rcases mergeC_mem _ _ c hc with h | h
        · exact ha c h
        · exact hb c h
theorem VOk.dig {a : List Clm} (ha : VOk a) : ∀ s ∈ (digN a).1, In64 s.v := by
  unfold digN
  split
  · intro s hs; cases hs
  · intro s hs
    obtain ⟨c, hc, rfl⟩ := List.mem_map.1 hs
    exact ha c hc
theorem VOk.nil : VOk [] := fun c hc => by cases hc
theorem VOk.delta {b : List Clm} {d : List Sn} (hb : VOk b) : VOk (deltaN b d).1 := by
  unfold deltaN
  split
  · exact VOk.nil
  · intro c hc; exact hb c (List.mem_filter.1 hc).1

set_option maxRecDepth 1000000 in
set_option maxHeartbeats 4000000 in
theorem told_any {A B : Option Addr} {n c m d : Nat} {L M : List ClE} {a b x : List Clm} (w : World) (ha : L.map ClE.x = a) (hb : M.map ClE.x = b) (hx : toldN a b = x) (hL : LsAt w A n c L) (hM : LsAt w B m d M) (hv : VOk a) :
    Calls Try.prog 69 #[.slice A n c, .slice B m d] w (RV (ToldP x w)) := by
  obtain ⟨⟨S, z⟩, hS⟩ : ∃ r, digN a = r := ⟨_, rfl⟩
  obtain ⟨h1, h2, h3⟩ := dig_rise a
  have h4 := hv.dig
  rw [hS] at h1 h2 h3 h4
  simp only [] at h1 h2 h3 h4
  obtain ⟨⟨D, z2⟩, hD⟩ : ∃ r, deltaN b S = r := ⟨_, rfl⟩
  obtain ⟨⟨X, z3⟩, hX⟩ : ∃ r, mergeN a D = r := ⟨_, rfl⟩
  have e1 := Lib.hid (show x = X by rw [← hx]; unfold toldN; rw [hS]; simp only []; rw [hD]; simp only []; rw [hX])
  have Ha := Lib.hid ha
  have Hb := Lib.hid hb
  have HS := Lib.hid hS
  have HD := Lib.hid hD
  have HX := Lib.hid hX
  have HL := Lib.hid hL
  have HM := Lib.hid hM
  have H1 := Lib.hid h1
  have H3 := Lib.hid h3
  have H4 := Lib.hid h4
  clear hx ha hb hS hD hX hL hM h1 h3 h4 hv
  go_enter Try.func69, Try.ntmps69
  go_wp2_with fail
  refine (digest_any _ Ha.out HS.out HL.out).mono ?_
  rintro e w1 ⟨v, rfl, A1, c1, rfl, ho1, hb1⟩
  have hS1 := Lib.hid (Has.of_own ho1)
  clear ho1
  go_wp2_with fail
  refine (delta_any _ Hb.out HD.out (HM.out.next hb1) rfl (by exact hS1.out) H1.out h2 H3.out H4.out).mono ?_
  rintro e w2 ⟨v, rfl, O2, A2, c2, rfl, s2, ho2, hr2, hb2⟩
  have L2 := Lib.hid (LsAt.of ho2 hr2)
  have S2 := Lib.hid s2
  have hb12 := bnext hb1 hb2
  clear ho2 hr2 s2
  go_wp2_with fail
  refine (cmerge_any A n c L HL.out.1 HL.out.2.1 HL.out.2.2.1 A2 O2.length c2 O2 rfl L2.out.2.1 L2.out.2.2.1 _ (HL.out.next hb12).2.2.2.1 (by exact L2.out.2.2.2.1) (HL.out.next hb12).2.2.2.2 L2.out.2.2.2.2).mono ?_
  rw [Ha.out, S2.out, HX.out]
  rintro e w3 ⟨v, rfl, O3, A3, c3, rfl, s3, ho3, hr3, hb3⟩
  have s3 := Lib.hid s3
  have ho3 := Lib.hid ho3
  have hr3 := Lib.hid hr3
  go_wp2_with fail
  go_ret
  exact RV.mk ⟨O3, A3, c3, rfl, by rw [s3.out, e1.out], OwnL.less ⟨ho3.out, hr3.out⟩ hb12.size, bnext hb12 hb3⟩

set_option maxRecDepth 1000000 in
set_option maxHeartbeats 4000000 in
theorem swap_any {A B : Option Addr} {n c m d : Nat} {L M : List ClE} {a b : List Clm} {r : (List Clm × List Clm) × Int} (w : World) (ha : L.map ClE.x = a) (hb : M.map ClE.x = b) (hr : swapN a b = r) (hL : LsAt w A n c L) (hM : LsAt w B m d M) (hva : VOk a) (hvb : VOk b) :
    Calls Try.prog 43 #[.slice A n c, .slice B m d] w (RV (SwapP r w)) := by
  obtain ⟨⟨X, z⟩, hX⟩ : ∃ r, mergeN a b = r := ⟨_, rfl⟩
  have Ha := Lib.hid ha
  have Hb := Lib.hid hb
  have HX := Lib.hid hX
  have HL := Lib.hid hL
  have HM := Lib.hid hM
  have HVa := Lib.hid hva
  have HVb := Lib.hid hvb
  clear ha hb hL hM hva hvb
  by_cases hz : z = 0
  · subst hz
    have HR := Lib.hid (show r = ((toldN a b, toldN b a), 0) by rw [← hr]; unfold swapN; rw [if_neg (by rw [hX]; simp)])
    clear hr hX
    go_enter Try.func43, Try.ntmps43
    go_wp2_with fail
    refine (cmergeQ _ Ha.out Hb.out HX.out HL.out HM.out).mono ?_
    rintro e w1 ⟨v, rfl, O1, A1, c1, rfl, s1, l1, hb1⟩
    clear s1 l1
    go_wp2_with fail
    refine (told_any _ Ha.out Hb.out rfl (HL.out.next hb1) (HM.out.next hb1) HVa.out).mono ?_
    rintro e w2 ⟨v, rfl, O2, A2, c2, rfl, s2, l2, hb2⟩
    have S2 := Lib.hid s2; clear s2
    have L2 := Lib.hid (l2.less hb1.size); clear l2
    have hb12 := bnext hb1 hb2
    go_wp2_with fail
    refine (told_any _ Hb.out Ha.out rfl (HM.out.next hb12) (HL.out.next hb12) HVb.out).mono ?_
    rintro e w3 ⟨v, rfl, O3, A3, c3, rfl, s3, l3, hb3⟩
    have S3 := Lib.hid s3; clear s3
    have L2 := Lib.hid (L2.out.next hb3)
    have L3 := Lib.hid (l3.less hb12.size); clear l3
    go_wp2_with fail
    go_ret3
    exact RV.mk ⟨O2, O3, A2, A3, c2, c3, by rw [HR.out]; rfl, by rw [S2.out, HR.out], by rw [S3.out, HR.out], L2.out, L3.out, bnext hb12 hb3⟩
  · have HR := Lib.hid (show r = (([], []), z) by rw [← hr]; unfold swapN; rw [if_pos (by rw [hX]; exact hz), hX])
    have f1 : (z != 0) = true := by rw [bne_iff_ne]; exact hz
    clear hr hX
    go_enter Try.func43, Try.ntmps43
    go_wp2_with fail
    refine (cmergeQ _ Ha.out Hb.out HX.out HL.out HM.out).mono ?_
    rintro e w1 ⟨v, rfl, O1, A1, c1, rfl, s1, l1, hb1⟩
    clear s1 l1
    go_wp2_with fail
    go_ret3
    rw [HR.out]
    exact RV.mk ⟨[], [], none, none, 0, 0, rfl, rfl, rfl, OwnL.nil _ _, OwnL.nil _ _, hb1⟩

set_option maxRecDepth 1000000 in
set_option maxHeartbeats 4000000 in
theorem gossips_true (w : World) : Calls Try.prog 9 #[] w (R1 (.bool true) (Below w.heap.size w)) := by
  have e : Hid (digN [⟨0, 2, ⟨#[97]⟩, []⟩] = ([⟨⟨#[97]⟩, 0⟩], 0)) := Lib.hid (by
    have hz : checkC [⟨0, 2, ⟨#[97]⟩, []⟩] = 0 := by decide +kernel
    unfold digN
    rw [if_neg (by rw [hz]; simp)]
    rfl)
  have kb : Blk (w.alloc (.cells #[.int .i64 0, .int .i64 2, .string ⟨#[97]⟩, .slice none 0 0] 34)) w.heap.size 34 #[.int .i64 0, .int .i64 2, .string ⟨#[97]⟩, .slice none 0 0] := Blk.new _ _ _
  have hbb := one_alloc w (.cells #[.int .i64 0, .int .i64 2, .string ⟨#[97]⟩, .slice none 0 0] 34)
  have hL : LsAt (w.alloc (.cells #[.int .i64 0, .int .i64 2, .string ⟨#[97]⟩, .slice none 0 0] 34)) (some ⟨w.heap.size, 0, none⟩) 1 1 [⟨0, 2, ⟨#[97]⟩, ⟨none, 0, []⟩⟩] :=
    ⟨rfl, Nat.le_refl _, by decide, Has.fresh w #[.int .i64 0, .int .i64 2, .string ⟨#[97]⟩, .slice none 0 0] _, fun e he => by
      simp at he
      subst he
      exact ⟨Nat.le_refl _, by decide, fun _ => rfl, fun h => absurd rfl h⟩⟩
  have HL := Lib.hid hL; clear hL
  go_enter Try.func9, Try.ntmps9
  go_wp2_with fail
  refine (digest_any (a := [⟨0, 2, ⟨#[97]⟩, []⟩]) _ rfl e.out HL.out).mono ?_
  rintro e1 w1 ⟨v, rfl, A1, c1, rfl, ho1, hb1⟩
  clear ho1
  go_wp2_with fail
  go_ret
  exact R1.mk rfl (bnext hbb hb1)
end Go.Proofs.Ytokilodekbjpnaa
