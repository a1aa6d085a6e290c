/- What add of package rank does to a box. Conditions: the box's rows are the call's own. -/
import Derived.Test.YthofijhjbaaokaaRkOwn
import Derived.Test.YthofijhjbaaokaaBinL
import Derived.Test.YthofijhjbaaokaaInsI
namespace Go.Proofs.Ythofijhjbaaokaa
open Go.RowKit

/-- what add does to the tail, the levels and the slack -/
def AddR (K : Int) (T : List Int) (L : List (List Int)) (S v : Int) (T' : List Int) (L' : List (List Int)) (S' : Int) : Prop :=
  ((T.length : Int) + 1 ≠ K ∧ T' = sortI (v :: T) ∧ L' = L ∧ S' = S) ∨ ((T.length : Int) + 1 = K ∧ T' = [] ∧ CarryR L S (sortI (v :: T)) 0 L' S')
def AddP (b g : Nat) (O : Oth) (K : Int) (T : List Int) (L : List (List Int)) (N S v : Int) (w w' : World) : Prop :=
  ∃ T' L' S' tv' B' e' vs', AddR K T L S v T' L' S' ∧ RkS w' b g O K tv' T' B' e' L' vs' (N + 1) S' ∧ Below b w w'

theorem RkS.tail2 {w : World} {b g : Nat} {O : Oth} {K : Int} {tv tv' : Value} {T' : List Int} {B : Option Addr} {e : Nat} {L : List (List Int)} {vs : List Value} {N S : Int}
    (hk : Blk w g 26 #[.int .i64 K, tv, .slice B L.length e, .int .i64 N, .int .i64 S]) (hb : b ≤ g) (ht : IntOwn w b tv' T') (hl : w.ownsRow b 22 1 (.slice B L.length e) L.length vs)
    (hr : ∀ k, k < L.length → ∃ v, vs[k]? = some v ∧ IntOwn w b v (at_ L k) ∧ ∀ q, v.ownBlock = some q → tv'.ownBlock ≠ some q) (ho : ∀ q t cs, O q t cs → Blk w q t cs ∧ q ≠ g ∧ tv'.ownBlock ≠ some q ∧ (Value.slice B L.length e).ownBlock ≠ some q) :
    RkS (w.setCell ⟨g, 1, none⟩ tv') b g O K tv' T' B e L vs N S :=
  ⟨by have := hk.set 1 tv'; exact this, hb, ht.set (ht.neBlk hk (by decide)) 1 _, own_setR hl (own_neR hk hl (by decide)) 1 _, fun k hk' => by
    obtain ⟨v, h1, h2, h3⟩ := hr k hk'
    exact ⟨v, h1, h2.set (h2.neBlk hk (by decide)) 1 _, h3⟩, fun q t cs he => by
    obtain ⟨a, b, c, d⟩ := ho q t cs he
    exact ⟨a.nb b 1 _, b, c, d⟩⟩
theorem ys_eq (T : List Int) (v : Int) (i : Nat) : (i64s T).take (i * 1) ++ ((#[Value.int .i64 v] : Array Value).toList ++ (i64s T).drop (i * 1)) = i64s (T.take i ++ v :: T.drop i) := by
  rw [Nat.mul_one, i64sC_app]
  simp [i64s, List.map_take, List.map_drop]
  rfl

set_option maxRecDepth 1000000 in
set_option maxHeartbeats 16000000 in
theorem radd_any (b g : Nat) (O : Oth) (K : Int) (tv : Value) (T : List Int) (N : Int) (B : Option Addr) (e : Nat) (L : List (List Int)) (vs : List Value) (S v : Int) (hv64 : in64 v) (hsT : T.Pairwise (· ≤ ·)) (hTK : (T.length : Int) < K) (hK2 : K ≤ 64) (hLn : L.length ≤ 25) (hl64 : ∀ k, k < L.length → (at_ L k).length ≤ 64)
    (hN : 0 ≤ N) (hN2 : N ≤ 1000000000000) (hS : 0 ≤ S) (hS2 : S ≤ 2305843009213693952) (w : World) (hbw : b ≤ w.heap.size) (h : RkS w b g O K tv T B e L vs N S) :
    Calls Try.prog 33 #[.pointer (some ⟨g, 0, none⟩), .int .i64 v] w (R1 (.tuple #[]) (AddP b g O K T L N S v w)) := by
  obtain ⟨A, c, rfl, hown, hTI⟩ := h.t
  obtain ⟨y0, y1, y2, y3, y4⟩ := h.y
  have hT0 : Has w w.heap.size A (i64s T) := Has.of_own hown
  obtain ⟨n, hn⟩ : ∃ n, T.length = n := ⟨_, rfl⟩
  have Hn := Lib.hid hn
  have HS := Lib.hid h
  rw [hn] at hown hTK y1
  have HB := Lib.hid (binsL_any A n c T hn (by omega) hsT v w hT0)
  have hb1 : Below w.heap.size w (w.alloc (.cells #[Value.int .i64 v] 2)) := (Below.refl _ _).alloc (Nat.le_refl _) _
  have hk1 : Blk (w.alloc (.cells #[Value.int .i64 v] 2)) w.heap.size 2 #[Value.int .i64 v] := Blk.new _ _ _
  have HI := Lib.hid (fun (i : Nat) (hi : i ≤ n) => insI_any (base := b) (vc := 1) (i := i) #[Value.int .i64 v] (w.alloc (.cells #[Value.int .i64 v] 2)) (own_next hown hb1) (Nat.le_trans hbw hb1.size) hi rfl (by intro u hu; simp at hu; subst hu; rfl) (i64sC_one T) hk1 (fun e => by have := (hown.lt _ e).2; omega) (by omega))
  have HST := Lib.hid hsT
  have HTI := Lib.hid hTI
  have Hown := Lib.hid hown
  have HL64 := Lib.hid hl64
  obtain ⟨P, hP⟩ : ∃ P, AddP b g O K T L N S v w = P := ⟨_, rfl⟩
  have HP := Lib.hid hP
  rw [hP]
  have eN : IntKind.i64.wrap (N + 1) = N + 1 := IntWalk.i64_in _ (by omega)
  have HB1 := Lib.hid hb1
  clear h hn hsT hT0 hb1 hk1 hTI hP hown hl64
  go_enter Try.func33, Try.ntmps33
  go_wp2_with fail
  refine HB.out.mono ?_
  rintro e9 w1 ⟨v1, rfl, ⟨i, ⟨bo, rfl⟩, hp⟩, hw1⟩
  rw [hw1]
  clear hw1
  have hin : i ≤ n := by rw [← Hn.out]; exact hp.1
  have HP1 := Lib.hid hp
  clear hp
  go_wp2_with fail
  refine (HI.out i hin).mono ?_
  rintro e9 w3 ⟨v3, rfl, hown3, hgrow3, hblk3⟩
  rw [ys_eq, HP1.out.sort HST.out] at hown3
  obtain ⟨A3, c3, rfl, _⟩ := own_form hown3
  -- what lies in w3
  have hS1 := HS.out.next HB1.out
  have hnt : (Value.slice A n c).ownBlock ≠ some g := own_neR HS.out.k Hown.out (by decide)
  have hk3 : Blk w3 g 26 #[.int .i64 K, .slice A n c, .slice B L.length e, .int .i64 N, .int .i64 S] := by
    have := hS1.k
    rw [Hn.out] at this
    exact this.grown hgrow3 (fun e => hnt e.symm)
  have hown1 := own_next Hown.out HB1.out
  have hl3 : w3.ownsRow b 22 1 (.slice B L.length e) L.length vs := hS1.l.kept hgrow3 (own_neO hS1.l hown1 (by decide))
  obtain ⟨U, hU⟩ : ∃ U, sortI (v :: T) = U := ⟨_, rfl⟩
  have hUl : U.length = n + 1 := by rw [← hU, sortI_len, List.length_cons, Hn.out]
  rw [hU] at hown3
  have hUI : I64in U := by
    rw [← hU]
    refine i64in_sort (fun x hx => ?_)
    rcases List.mem_cons.1 hx with rfl | hx
    · exact hv64
    · exact HTI.out x hx
  have ht3 : IntOwn w3 b (.slice A3 (n + 1) c3) U := ⟨A3, c3, by rw [hUl], by rw [hUl]; exact hown3, hUI⟩
  have hr3 : ∀ k, k < L.length → ∃ v, vs[k]? = some v ∧ IntOwn w3 b v (at_ L k) ∧ ∀ q, v.ownBlock = some q → (Value.slice A3 (n + 1) c3).ownBlock ≠ some q := fun k hk => by
    obtain ⟨v4, h1, h2, h3⟩ := hS1.r k hk
    rw [Hn.out] at h3
    refine ⟨v4, h1, h2.grown hgrow3 ?_, fun q hq hq2 => ?_⟩
    · cases hv4 : v4.ownBlock with
      | none => exact .inl rfl
      | some q => exact .inr (fun e => h3 q hv4 e.symm)
    · rcases hblk3 with h5 | h5
      · exact h3 q hq (h5 ▸ hq2)
      · have h6 := h5 q hq2
        have h7 := (h2.lt hq).2
        omega
  have hb3 : Below b w w3 := (HB1.out.mono hbw).trans (grown_below hown1 hgrow3 (Nat.le_trans hbw HB1.out.size))
  have hS4 := RkS.tail2 (O := O) hk3 HS.out.hb ht3 hl3 hr3 (fun q t cs ho => by
    obtain ⟨a, b, c, d⟩ := hS1.o q t cs ho
    rw [Hn.out] at c
    refine ⟨a.grown hgrow3 (fun e => c e.symm), b, fun e => ?_, d⟩
    rcases hblk3 with h5 | h5
    · exact c (h5 ▸ e)
    · have h6 := h5 q e
      have h7 := a.lt
      omega)
  have hS5 := hS4.box 3 (.int .i64 (N + 1)) K (N + 1) S rfl
  have hb5 := below_setR (below_setR hb3 HS.out.hb 1 (.slice A3 (n + 1) c3)) HS.out.hb 3 (.int .i64 (N + 1))
  clear y0 y1 y2 y3 y4
  have y1 : w3.cell? ⟨g, 1, none⟩ = some (.slice A n c) := hk3.cell 1
  have f1 : w3.frozen? ⟨g, 1, none⟩ = false := hk3.frozen 1
  have y3 : w3.cell? ⟨g, 3, none⟩ = some (.int .i64 N) := hk3.cell 3
  have f3 : w3.frozen? ⟨g, 3, none⟩ = false := hk3.frozen 3
  have HS5 := Lib.hid hS5
  have HB5 := Lib.hid hb5
  have HU := Lib.hid hU
  have HUl := Lib.hid hUl
  clear hS1 hnt hk3 hown1 hl3 hU hUl hUI ht3 hr3 hb3 hS4 hS5 hb5 hown3 hgrow3 hblk3 HB HI
  go_wp2_with fail
  obtain ⟨W5, hW5⟩ : ∃ W5, (w3.setCell ⟨g, 1, none⟩ (.slice A3 (n + 1) c3)).setCell ⟨g, 3, none⟩ (.int .i64 (N + 1)) = W5 := ⟨_, rfl⟩
  rw [hW5] at HS5 HB5 ⊢
  clear hW5 y1 f1 y3 f3 eN
  obtain ⟨y0, y1, y2, y3, y4⟩ := HS5.out.y
  have hb6 : Below W5.heap.size W5 W5.drew := below_drewN (Below.refl _ _) 1
  have HS6 := Lib.hid (HS5.out.next hb6)
  have HB6 := Lib.hid (show Below b w W5.drew from below_drewN HB5.out 1)
  clear hb6
  by_cases hnK : (n : Int) + 1 = K
  · have hkb : ((n : Int) + 1 == K) = true := by rw [beq_iff_eq]; exact hnK
    have HnK := Lib.hid hnK
    clear hnK
    go_region
    obtain ⟨W6, hW6⟩ : ∃ W6, W5.drew = W6 := ⟨_, rfl⟩
    rw [hW6] at HS6 HB6 ⊢
    clear hW6 y0 y1 y2 y3 y4
    obtain ⟨y0, y1, y2, y3, y4⟩ := HS6.out.y
    have f1 : W6.frozen? ⟨g, 1, none⟩ = false := HS6.out.k.frozen 1
    have HS7 := Lib.hid (HS6.out.tail (IntOwn.nil W6 b) (fun k v _ q _ h => by cases h) (fun q t cs _ h => by cases h))
    have HH7 := Lib.hid (show IntOwn (W6.setCell ⟨g, 1, none⟩ (.slice none 0 0)) b (.slice A3 (n + 1) c3) U from HS6.out.t.set (HS6.out.t.neBlk HS6.out.k (by decide)) 1 _)
    have HB7 := Lib.hid (below_setR HB6.out HS6.out.hb 1 (.slice none 0 0))
    go_wp2_with fail
    refine (carry_any b g O K (.slice none 0 0) [] (N + 1) B e L vs S A3 (n + 1) c3 U 0 HUl.out (by omega) (by omega) hLn HL64.out hS hS2 _ (Nat.le_trans hbw HB7.out.size) HS7.out HH7.out (fun q _ h => by cases h)).mono ?_
    rintro e9 w8 ⟨rfl, L', S', B', e', vs', hc, hR8, hb8⟩
    have HF := Lib.hid (show P w8 from by rw [← HP.out]; exact ⟨[], L', S', _, B', e', vs', .inr ⟨by rw [Hn.out]; exact HnK.out, rfl, by rw [HU.out]; exact hc⟩, hR8, HB7.out.trans hb8⟩)
    go_wp2_with fail
    exact bodyPost_end (v := .tuple #[]) (results_none rfl _ _ _) rfl (R1.mk rfl HF.out)
  · have hkb : ((n : Int) + 1 == K) = false := by rw [beq_eq_false_iff_ne]; exact hnK
    have HF := Lib.hid (show P W5.drew from by rw [← HP.out]; exact ⟨U, L, S, _, B, e, vs, .inl ⟨by rw [Hn.out]; exact hnK, HU.out.symm, rfl, rfl⟩, HS6.out, HB6.out⟩)
    go_region
    go_wp2_with fail
    exact bodyPost_end (v := .tuple #[]) (results_none rfl _ _ _) rfl (R1.mk rfl HF.out)
end Go.Proofs.Ythofijhjbaaokaa
