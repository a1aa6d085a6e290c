/- Texts of the proof of HouseAcks, joined (by merge.py). Conditions: each theorem's own hypotheses. -/
import Derived.Test.YtihjgbhnlejhfaaGreatDoorHouseAcksP6
import Derived.Test.YtihjgbhnlejhfaaGreatDoorHouseAcksP20
import Derived.Test.YtihjgbhnlejhfaaGreatDoorHouseAcksP26
import Derived.Test.YtihjgbhnlejhfaaGreatDoorHouseAcksP30
import Derived.Test.YtihjgbhnlejhfaaGreatDoorHouseAcksP34
import Derived.Test.YtihjgbhnlejhfaaGreatDoorHouseAcksP36
import Derived.Deep.CutRange
namespace Go.Proofs.YtihjgbhnlejhfaaGreatDoor
open Go.RowKit Go.ChangeMaps Go.Maps Go.Sort Go.Shelf

theorem keysZ_any (mb : Option Nat) (w : World) : Calls Tryz.prog 55 #[.map mb] w (R1 (.func (.func 85) #[] #[.pointer (some ⟨w.heap.size, 0, none⟩)]) (fun w' => w' = w.alloc (.cells #[.map mb] 96))) :=
  callsIn_wide.1 (AnyZ.keys_in Tryz.keysZ Fence.wide 5 trivial rfl mb w)
theorem sortsZ (m : Nat) : AnyZ.SortsIn Tryz.prog Tryz.sortedZ_ren Fence.wide m :=
  ⟨fun blk off cap ss W hH hblk hsz => callsIn_wide.2 (AnyM.slices_Sort_string Tryz.sortZ blk off cap ss W hH hblk hsz),
   fun p cap W => callsIn_wide.2 (AnyM.slices_Sort_string_none Tryz.sortZ p cap W)⟩
set_option maxHeartbeats 1000000 in
theorem sortedZ_any {H : Type} (b nn : Nat) (D0 : DataW H) (R : Value → Option (DataW H × List MemPlace)) (w : World) (hown : w.ownsMap Tryz.prog 9 R b nn D0) (hmax : Maps.size D0 ≤ maxLen) (hbytes : Maps.size D0 * 16 ≤ 140737488355328) :
    Calls Tryz.prog 54 #[.func (.func 85) #[] #[.pointer (some ⟨w.heap.size, 0, none⟩)]] (w.alloc (.cells #[.map (some b)] 96)) fun e w' => ∃ (v : Value) (ss : List (List UInt8)), e = .returned v ∧ ss.Perm (strKeys D0) ∧
      w'.ownsRow (w.alloc (.cells #[.map (some b)] 96)).heap.size 9 1 v ss.length ((ss.mergeSort (fun x y => decide (x ≤ y))).map encStr) ∧ (v = .slice none 0 0 ↔ ss = []) ∧ Below (w.alloc (.cells #[.map (some b)] 96)).heap.size (w.alloc (.cells #[.map (some b)] 96)) w' := by
  have hbl := hown.lt
  have hseq : SeqGives Fence.wide 2 Tryz.prog 85 #[.pointer (some ⟨w.heap.size, 0, none⟩)] encStr (fun ss => ss.Perm (strKeys D0)) (Maps.size D0) (w.alloc (.cells #[.map (some b)] 96)) :=
    AnyZ.keys_gives (ρ := Tryz.keysZ_ren) { Tryz.keysZ with } Fence.wide _ trivial rfl (by omega) w.heap.size b nn D0 _ (by simp) (by simp) (by
      obtain ⟨es, clock, hb, Ft, hs, hD⟩ := hown
      exact ⟨es, clock, (Below.heap_alloc _ _ b hbl).trans hb, Ft, hs, hD⟩)
  exact callsIn_wide.1 (AnyZ.sorted_in Tryz.sortedZ Fence.wide 5 trivial trivial trivial trivial rfl (by omega) (sortsZ _) (enters_of Tryz.func84 (by kernel_rfl) rfl) 85 #[.pointer (some ⟨w.heap.size, 0, none⟩)] trivial (enters_of Tryz.func85 (by kernel_rfl) rfl) _ _ hmax hbytes _ hseq)
/-- the keys, sorted -/
def keysS (st : StD) : List ByteArray := (sortS (st.map (·.1))).map fun l => ⟨l.toArray⟩
theorem keysS_cells (st : StD) : (sortS (st.map (·.1))).map encStr = strCs (keysS st) := by
  unfold keysS strCs
  generalize sortS (st.map (·.1)) = X
  induction X with
  | nil => rfl
  | cons x X ih => rw [List.map_cons, List.map_cons, List.flatMap_cons, ih]; rfl
theorem keysS_len (st : StD) : (keysS st).length = st.length := by unfold keysS; rw [List.length_map, sortS_len, List.length_map]
def KeysP (st : StD) (w : World) (v : Value) (w' : World) : Prop :=
  ∃ A n c, v = .slice A n c ∧ st.length = n ∧ w'.ownsRow w.heap.size 9 1 (.slice A n c) n (strCs (keysS st)) ∧ Below w.heap.size w w'
set_option maxRecDepth 100000 in
theorem sortedK_any {w : World} {base g b dg : Nat} {A : Option Addr} {c : Nat} {es : Array MapEntry} {clock : Nat} {kvs : List (Value × Value)} {dk : List Nat} {sf : Int} {st : StD} (h : StAt w base g b dg A c es clock kvs dk sf st) (hl : st.length < 200) :
    Calls Tryz.prog 54 #[.func (.func 85) #[] #[.pointer (some ⟨w.heap.size, 0, none⟩)]] (w.alloc (.cells #[.map (some b)] 96)) (RV (KeysP st (w.alloc (.cells #[.map (some b)] 96)))) := by
  have hes := h.size
  have hF := h.shape.fit (by unfold maxLen; omega)
  have hsz : ((es.toList.map (WideElems.rg (H := Unit) Tryz.prog 9 (fun _ => some (.nil, [])))).foldr DataW.insert []).length = es.size := length_read es
  refine (sortedZ_any (H := Unit) b es.size _ _ w ⟨es, clock, h.mp, hF, Nat.le_refl _, rfl⟩ (by show List.length _ ≤ _; rw [hsz]; unfold maxLen; omega) (by show List.length _ * 16 ≤ _; rw [hsz]; omega)).mono ?_
  rintro e w' ⟨v, ss, rfl, hp, ho, hv, hb⟩
  have hkeys : ss.Perm (strL (st.map (·.1))) := by
    refine hp.trans ?_
    show (List.map _ _).Perm _
    refine ((WideShapes.sorted_perm _).map _).trans ?_
    rw [List.map_map]
    have e1 : strL (st.map (·.1)) = es.toList.map (fun e => match e.key with | .string s => s.data.toList | _ => []) := by
      have h1 : es.toList.map (·.key) = st.map (fun p => Value.string p.1) := by
        rw [← h.rows.keys, ← h.shape.pairs, List.map_map]; rfl
      have h2 := congrArg (List.map (fun v : Value => match v with | .string s => s.data.toList | _ => [])) h1
      rw [List.map_map, List.map_map] at h2
      unfold strL
      rw [List.map_map]
      exact h2.symm
    rw [e1]
    refine List.Perm.of_eq (List.map_congr_left fun x hx => ?_)
    obtain ⟨y, hy⟩ := hF.reads x hx
    have hk := WideElems.rd_key hy
    obtain ⟨s, hs, hs2, _⟩ := Maps.keyOf_str Tryz.underlying9 hk
    show strOf (WideElems.rg _ _ _ x).1 = _
    unfold WideElems.rg
    rw [hy, hs]
    show strOf y.1 = _
    rw [hs2]
    simp [strOf]
  have hss : ss.mergeSort (fun x y => decide (x ≤ y)) = sortS (st.map (·.1)) := mergeSort_of_perm hkeys
  have hlen : ss.length = st.length := by rw [hkeys.length_eq]; unfold strL; rw [List.length_map, List.length_map]
  rw [hss, keysS_cells] at ho
  obtain ⟨A5, c5, e5, _⟩ := own_form ho
  rw [e5] at ho
  exact ⟨_, rfl, A5, ss.length, c5, e5, hlen.symm, ho, hb⟩
end Go.Proofs.YtihjgbhnlejhfaaGreatDoor
namespace Go.Proofs.YtihjgbhnlejhfaaGreatDoor
open Go.RowKit Go.ChangeMaps

/-- rows of series -/
def serCs (es : List (Value × Value)) : List Value := es.flatMap fun p => [p.1, p.2]
theorem serCs_len (es : List (Value × Value)) : (serCs es).length = es.length * 2 := flat_len (f := fun p : Value × Value => [p.1, p.2]) (C := 2) (fun _ => rfl) es
inductive SerRow (w : World) (base : Nat) : List (Value × Value) → List Ser → Prop
  | nil : SerRow w base [] []
  | cons {u v : Value} {y : Ser} {es : List (Value × Value)} {l : List Ser} : SerOwn w base (.agg #[u, v]) y → SerRow w base es l → SerRow w base ((u, v) :: es) (y :: l)
theorem SerRow.keep {w w' : World} {base : Nat} {es : List (Value × Value)} {l : List Ser} (h : SerRow w base es l) (hk : ∀ v y, SerOwn w base v y → SerOwn w' base v y) : SerRow w' base es l := by
  induction h with
  | nil => exact .nil
  | cons h1 _ ih => exact .cons (hk _ _ h1) ih
theorem SerRow.next {w w' : World} {base : Nat} {es : List (Value × Value)} {l : List Ser} (h : SerRow w base es l) (hb : Below w.heap.size w w') : SerRow w' base es l := h.keep fun _ _ k => k.next hb
theorem SerRow.len {w : World} {base : Nat} {es : List (Value × Value)} {l : List Ser} (h : SerRow w base es l) : es.length = l.length := by
  induction h with
  | nil => rfl
  | cons _ _ ih => simp [ih]
theorem SerRow.snoc {w : World} {base : Nat} {es : List (Value × Value)} {l : List Ser} {u v : Value} {y : Ser} (h : SerRow w base es l) (h1 : SerOwn w base (.agg #[u, v]) y) : SerRow w base (es ++ [(u, v)]) (l ++ [y]) := by
  induction h with
  | nil => exact .cons h1 .nil
  | cons h2 _ ih => exact .cons h2 ih
theorem SerRow.less {w : World} {base b2 : Nat} {es : List (Value × Value)} {l : List Ser} (h : SerRow w base es l) (hb : b2 ≤ base) : SerRow w b2 es l := by
  induction h with
  | nil => exact .nil
  | cons h1 _ ih => exact .cons (h1.less hb) ih
/-- all series -/
def serAt (st : StD) (k : ByteArray) : Ser := (findSt st k).getD ([], [])
def allN (st : StD) : List Ser := (keysS st).map (serAt st)
theorem allN_len (st : StD) : (allN st).length = st.length := by unfold allN; rw [List.length_map, keysS_len]
def AllP (l : List Ser) (w : World) (v : Value) (w' : World) : Prop :=
  ∃ A n c es, v = .slice A n c ∧ l.length = n ∧ w'.ownsRow w.heap.size 101 2 (.slice A n c) n (serCs es) ∧ SerRow w' w.heap.size es l ∧ Below w.heap.size w w'
theorem elSer : Elem Tryz.prog 60 101 2 48 := Elem.mk' (z := .agg #[.slice none 0 0, .slice none 0 0]) Tryz.underlying60 (by kernel_rfl) rfl (by decide)
theorem strCs_atS {l : List ByteArray} {k : Nat} {x : ByteArray} (h : l[k]? = some x) : (strCs l)[k]? = some (.string x) := by
  have e : strCs l = l.map Value.string := by
    unfold strCs
    induction l with
    | nil => rfl
    | cons x l ih => rw [List.flatMap_cons, List.map_cons]; simp [strC]; clear ih h; induction l with
      | nil => rfl
      | cons y l ih => rw [List.flatMap_cons, List.map_cons, ih]; rfl
  rw [e, List.getElem?_map, h]
  rfl
theorem step_append1s {P : Program} {w : World} {ops : Array Oper} {o : Oper} {a : Act} {K : Act → World → Prop} {Q : Exit → Act → World → Prop} {F : Prop} (hgd : o.guard = none) (s x : Operand) (t : TypeId)
    (ho : o.op = .call { callee := .builtin .append, args := #[s, x], argTypes := #[t, t] })
    {base size bytes : Nat} {e : TypeId} (E : Elem P t e size bytes) {v : Value} {n : Nat} {xs : List Value} (hown : w.ownsRow base e size v n xs) (hs : a.eval s = v)
    {B c : Nat} (hx : a.eval x = .slice (some ⟨B, 0, none⟩) 1 c) {cs : Array Value} {e' : TypeId} {fr : Nat × Nat} (hb : w.heap[B]? = some (.cells cs e' fr)) (hl : cs.size = size)
    (h1 : ∀ u ∈ cs.toList, u.oneCell' = true) (hmax : (n + 1) * bytes ≤ 140737488355328) (h63 : n + 1 ≤ maxLen) (hbase : base ≤ w.heap.size)
    (h : ∀ g c' w', w'.ownsRow base e size (.slice (some ⟨g, 0, none⟩) (n + 1) c') (n + 1) (xs ++ cs.toList) → w.grownBy w' v.ownBlock → Below base w w' → K (a.put o.dst (.slice (some ⟨g, 0, none⟩) (n + 1) c')) w') :
    if Region.wanted o (yielded ops a.tmps) = true then Oper.wp P o a w K Q else F := by
  obtain ⟨ht, ⟨i, z, hi, hz, hsize, hby, hzs⟩, hsz⟩ := E
  exact step_append_lies (w := w) hgd s x t ho base e i z size bytes ht hi hz hsize hby hzs hsz v n xs hs hown ⟨B, 0, none⟩ 1 c cs.toList hx (by simpa using hl) (World.news_of_block hb) h1 (by omega) h63 hmax hbase w.heap.size rfl
    (fun g cap w' k1 k2 _ _ => h _ _ _ k1 k2 (grown_below hown k2 hbase))
theorem SerOwn.zero (w : World) (base : Nat) : SerOwn w base (.agg #[.slice none 0 0, .slice none 0 0]) ([], []) := ⟨none, 0, 0, none, 0, 0, rfl, rfl, rfl, World.ownsRow_nil _ _ _ _, World.ownsRow_nil _ _ _ _⟩
theorem ser_look {w : World} {base g b dg : Nat} {A : Option Addr} {c : Nat} {es : Array MapEntry} {clock : Nat} {kvs : List (Value × Value)} {dk : List Nat} {sf : Int} {st : StD} (h : StAt w base g b dg A c es clock kvs dk sf st) (hok : StOk st) (key : ByteArray) (hk : key.size ≤ maxLen) :
    ∃ A1 n1 c1 A2 n2 c2, (Instr.lookup 96 (.map (some b)) (.string key) false).run Tryz.prog w = .ok (.agg #[.slice A1 n1 c1, .slice A2 n2 c2]) w ∧ (serAt st key).1.length = n1 ∧ (serAt st key).2.length = n2 ∧ n1 ≤ 10 ∧ n2 ≤ 1000 ∧ w.ownsRow base 85 2 (.slice A1 n1 c1) n1 (labCs (serAt st key).1) ∧ w.ownsRow base 26 2 (.slice A2 n2 c2) n2 (smpCs (serAt st key).2) := by
  have hl := MpS.look strKey Tryz.underlying96 (z := .agg #[.slice none 0 0, .slice none 0 0]) (fun u => by kernel_rfl) h.mp h.shape (str_keyed key hk) false
  simp only [Bool.false_eq_true, if_false] at hl
  rcases hl with ⟨hno, hr⟩ | ⟨v0, hm, hr⟩
  · have e : serAt st key = ([], []) := by unfold serAt; rw [find_none (h.rows.none hno)]; rfl
    rw [e]
    exact ⟨none, 0, 0, none, 0, 0, hr, rfl, rfl, by omega, by omega, World.ownsRow_nil _ _ _ _, World.ownsRow_nil _ _ _ _⟩
  · obtain ⟨y, hy, A1, n1, c1, A2, n2, c2, rfl, h1, h2, h3, h4⟩ := h.rows.mem hm
    have e : serAt st key = y := by unfold serAt; rw [find_of_mem h.keysNodup hy]; rfl
    obtain ⟨_, k2, k3, _⟩ := hok.2 _ hy
    rw [e]
    exact ⟨A1, n1, c1, A2, n2, c2, hr, h1, h2, by rw [← h1]; exact k3, by rw [← h2]; exact Nat.le_of_lt k2, h3, h4⟩
theorem keysS_mem {st : StD} {k : ByteArray} (h : k ∈ keysS st) : k ∈ st.map (·.1) := by
  unfold keysS at h
  obtain ⟨l, hl, rfl⟩ := List.mem_map.1 h
  unfold sortS strL at hl
  have h2 := (List.mergeSort_perm _ _).mem_iff.1 hl
  obtain ⟨s, hs, rfl⟩ := List.mem_map.1 h2
  simpa using hs
/-- keys of a store are of a string's size -/
def KeyOk (st : StD) : Prop := ∀ p ∈ st, p.1.size ≤ maxLen
end Go.Proofs.YtihjgbhnlejhfaaGreatDoor
namespace Go.Proofs.YtihjgbhnlejhfaaGreatDoor
open Go.RowKit Go.ChangeMaps

theorem below_drewT {B : Nat} {a w : World} (h : Below B a w) : Below B a w.drew := below_drewN h 1
theorem below_allocT {B : Nat} {a w : World} (h : Below B a w) (hB : B ≤ w.heap.size) (o : Obj) : Below B a (w.alloc o) := h.alloc hB o
theorem below_allocU {a w : World} (h : Below a.heap.size a w) (o : Obj) : Below a.heap.size a (w.alloc o) := h.alloc h.size o
theorem keepTA {w W : World} {g : Nat} {t : TypeId} {x y : Value} (hk : Blk w g t #[x, y]) (hb : Below w.heap.size w W) : W.cell? ⟨g, 0, none⟩ = some x ∧ W.cell? ⟨g, 1, none⟩ = some y := ⟨(hk.next hb).cell 0, (hk.next hb).cell 1⟩
theorem own_nil {w : World} {base size n c : Nat} {e : TypeId} {xs : List Value} (h : w.ownsRow base e size (.slice none n c) n xs) : n = 0 ∧ c = 0 := by
  rcases h.2 with ⟨e, h2⟩ | ⟨g, cap, cur, e, _⟩
  · injection e with _ _ e3
    exact ⟨h2, e3⟩
  · injection e with e1
    cases e1
theorem SerOwn.grown {w w' : World} {base b2 size n : Nat} {v v' : Value} {y : Ser} {xs : List Value} (h : SerOwn w base v y) (ho : w.ownsRow b2 101 size v' n xs) (hg : w.grownBy w' v'.ownBlock) : SerOwn w' base v y := by
  obtain ⟨A, n, c, A', n', c', h1, h2, h3, h4, h5⟩ := h
  exact ⟨A, n, c, A', n', c', h1, h2, h3, own_keep h4 hg (own_apart h4 ho (by decide)), own_keep h5 hg (own_apart h5 ho (by decide))⟩
set_option maxRecDepth 1000000 in
set_option maxHeartbeats 8000000 in
theorem all_any (base g : Nat) (dk : List Nat) (sf : Int) (st : StD) (hok : StOk st) (hkeys : KeyOk st) (w : World) (hS : StM w base g dk sf st) :
    Calls Tryz.prog 52 #[.pointer (some ⟨g, 0, none⟩)] w (RV (AllP (allN st) w)) := by
  obtain ⟨b, dg, DA, dc, es, clock, kvs, hS⟩ := hS
  have hbe : Below w.heap.size w (w.alloc (.cells #[.map (some b)] 96)) := one_allocB _ _
  have hKs := Lib.hid (sortedK_any hS hok.1)
  have o0 : w.cell? ⟨g, 0, none⟩ = some (.map (some b)) := hS.obj.cell 0
  have Hok := Lib.hid hok
  have Hkeys := Lib.hid hkeys
  have HS := Lib.hid hS
  clear hS hok hkeys
  go_enter Tryz.func52, Tryz.ntmps52
  go_wp2_with fail
  refine (keysZ_any _ _).mono ?_
  rintro e w1 ⟨rfl, rfl⟩
  go_wp2_with fail
  refine hKs.out.mono ?_
  rintro e w1 ⟨v, rfl, KA, m, kc, rfl, hm, hoK, hb1⟩
  have hb01 := Lib.hid (bnext hbe hb1)
  have Hm := Lib.hid hm
  have hHK := Lib.hid (Has.of_own hoK)
  have hoK := Lib.hid hoK
  clear hm hb1 hbe o0
  have hm200 : m < 200 := by rw [← Hm.out]; exact Hok.out.1
  go_wp2_with fail
  go_loopw [14, 3] (fun i out wr => ∃ (j : Nat) (A3 : Option Addr) (c3 : Nat) (es3 : List (Value × Value)), j ≤ m ∧ i = .int .i64 (j : Nat) ∧ out = .slice A3 j c3 ∧ Hid (wr.ownsRow w1.heap.size 101 2 (.slice A3 j c3) j (serCs es3)) ∧ Hid (SerRow wr w1.heap.size es3 ((allN st).take j)) ∧ Hid (Below w1.heap.size w1 wr)) (fun i _ _ => m - (intOf i).toNat)
  case atStart => exact ⟨0, none, 0, [], by omega, rfl, rfl, Lib.hid (World.ownsRow_nil _ _ _ _), Lib.hid (by rw [List.take_zero]; exact .nil), Lib.hid (Below.refl _ _)⟩
  case round =>
    obtain ⟨j, A3, c3, es3, hj, rfl, rfl, hoR, hR, hbr⟩ := hrel
    have hbwr := Lib.hid (bnext hb01.out hbr.out)
    by_cases hjm : j < m
    · have hkl : j < (keysS st).length := by rw [keysS_len, Hm.out]; exact hjm
      obtain ⟨key, hkey⟩ : ∃ key, (keysS st)[j]? = some key := ⟨_, List.getElem?_eq_getElem hkl⟩
      have hksz : key.size ≤ maxLen := by
        obtain ⟨p, hp, e⟩ := List.mem_map.1 (keysS_mem (List.mem_of_getElem? hkey))
        rw [← e]; exact Hkeys.out p hp
      obtain ⟨kad, rfl, _, kc0⟩ := (hHK.out.next hbr.out).at (strCs_atS hkey)
      have hSr := HS.out.next hbwr.out
      obtain ⟨A1, n1, c1, A2, n2, c2, hlk, e1, e2, l1, l2, ho1, ho2⟩ := ser_look hSr Hok.out key hksz
      have htake := Lib.hid (show (allN st).take (j + 1) = (allN st).take j ++ [serAt st key] by
        unfold allN
        rw [List.take_add_one]
        rw [List.getElem?_map, hkey]
        rfl)
      obtain ⟨y, hy⟩ : ∃ y, serAt st key = y := ⟨_, rfl⟩
      rw [hy] at htake e1 e2 ho1 ho2
      have o0 : wr.cell? ⟨g, 0, none⟩ = some (.map (some b)) := hSr.obj.cell 0
      have hSr := Lib.hid hSr
      have E1 := Lib.hid e1
      have E2 := Lib.hid e2
      have ho1 := Lib.hid ho1
      have ho2 := Lib.hid ho2
      clear e1 e2 hy hkl hkey
      go_upto_region 6 with fail
      obtain ⟨W6, hW6⟩ : ∃ W6, wr.alloc (.cells #[.slice A1 n1 c1, .slice A2 n2 c2] 101) = W6 := ⟨_, rfl⟩
      obtain ⟨q6, hq6⟩ : ∃ q6, wr.heap.size = q6 := ⟨_, rfl⟩
      have hb6 : Below wr.heap.size wr W6 := by rw [← hW6]; exact one_allocB _ _
      have k6 : Blk W6 q6 101 #[.slice A1 n1 c1, .slice A2 n2 c2] := by rw [← hW6]; exact Blk.newD _ _ _ _ hq6
      rw [hW6, hq6]
      have HC1 := Lib.hid (fun (w' : World) (hb : Below W6.heap.size W6 w') => cloneCLab_any A1 n1 c1 (labCs y.1) (by rw [labCs_len, E1.out]) (labCs_oneC _) (fun e => by subst e; exact own_nil (own_next ho1.out hb6)) (by omega) w' ((Has.of_own (own_next ho1.out hb6)).next hb))
      have HC2 := Lib.hid (fun (w' : World) (hb : Below W6.heap.size W6 w') => cloneCSmp_any A2 n2 c2 (smpCs y.2) (by rw [smpCs_len, E2.out]) (smpCs_oneC _) (fun e => by subst e; exact own_nil (own_next ho2.out hb6)) (by omega) w' ((Has.of_own (own_next ho2.out hb6)).next hb))
      have x0 : W6.cell? ⟨q6, 0, none⟩ = some (.slice A1 n1 c1) := k6.cell 0
      have x1 : W6.cell? ⟨q6, 1, none⟩ = some (.slice A2 n2 c2) := k6.cell 1
      have hoR6 := own_next hoR.out hb6
      have hb16 : w1.heap.size ≤ W6.heap.size := Nat.le_trans hbr.out.size hb6.size
      have Hb6 := Lib.hid hb6
      have hneR : some q6 ≠ (Value.slice A3 j c3).ownBlock := fun e => by have := (own_block hoR.out q6 e.symm).2; omega
      have HW6 := Lib.hid hW6
      clear hW6 hq6 hb6 o0 hlk kc0
      go_region_held_law (fun w' => w'.cell? ⟨q6, 0, none⟩ = some (.slice A1 n1 c1) ∧ w'.cell? ⟨q6, 1, none⟩ = some (.slice A2 n2 c2))
        (first | exact ⟨kE.cell 0, kE.cell 1⟩ | (refine keepTA k6 ?_; (repeat' (first | with_reducible exact Below.refl _ _ | with_reducible exact hbC | with_reducible exact hbS | with_reducible refine below_drewT ?_ | with_reducible refine below_allocU ?_ _))); done)
        (first
          | (have hz := hownB
             apply step_append1s rfl (.tmp 24) (.tmp 32) 60 rfl elSer (v := .slice A3 j c3) (n := j) (base := w1.heap.size) (xs := serCs es3); (case hown => (repeat' (first | with_reducible exact hoR8 | with_reducible refine World.ownsRow.alloc ?_ _)); done); (case hs => rfl); (case hx => rfl); (case hb => exact heap_alloc_new _ _); (case hl => rfl); (case h1 => (intro u hu; simp at hu; rcases hu with rfl | rfl <;> rfl)); (case hmax => omega); (case h63 => (unfold maxLen; omega)); (case hbase => exact Nat.le_trans hb18 (one_allocB _ _).size)
             intro g5 c5 w5 hown5 hgrow5 hbel5
             have kE : Blk w5 q6 101 #[.slice A1 n1 c1, .slice A2 n2 c2] := Blk.grown ((k6.next hbS).alloc _) hgrow5 hneR)
          | (have hz := hownA
             go_at_call 82
             refine (HC2.out _ (by (repeat' (first | with_reducible exact Below.refl _ _ | with_reducible exact hbC | with_reducible refine below_drewT ?_)); done)).mono ?_
             rintro e9 w8 ⟨v8, rfl, A8, c8, rfl, hownB, hbB⟩
             have hbS : Below W6.heap.size W6 w8 := bnext (by (repeat' (first | with_reducible exact hbC | with_reducible refine below_drewT ?_)); done) hbB
             have hoR8 : World.ownsRow w8 w1.heap.size 101 2 (.slice A3 j c3) j (serCs es3) := own_next hoR6 hbS
             have hb18 : w1.heap.size ≤ w8.heap.size := Nat.le_trans hb16 hbS.size)
          | (go_at_call 81
             refine (HC1.out _ (by (repeat' (first | with_reducible exact Below.refl _ _ | with_reducible refine below_drewT ?_)); done)).mono ?_
             rintro e9 w7 ⟨v7, rfl, A7, c7, rfl, hownA, hbA⟩
             have hbC : Below W6.heap.size W6 w7 := bnext (by (repeat' (first | with_reducible exact Below.refl _ _ | with_reducible refine below_drewT ?_)); done) hbA))
      all_goals
        have hb6w := Hb6.out
        have hbE : Below wr.heap.size wr w8 := bnext hb6w hbS
        have h7o : World.ownsRow w8 w1.heap.size 85 2 (.slice A7 n1 c7) n1 (labCs y.1) := own_next (own_less hownA (Nat.le_trans hb16 (by first | exact Nat.le_refl _ | exact Below.size (Below.refl W6.heap.size W6)))) hbB
        have h8o : World.ownsRow w8 w1.heap.size 26 2 (.slice A8 n2 c8) n2 (smpCs y.2) := own_less hownB (Nat.le_trans hb16 hbC.size)
        have hS8 : SerRow w8 w1.heap.size (es3 ++ [(.slice A7 n1 c7, .slice A8 n2 c8)]) ((allN st).take (j + 1)) := by
          rw [htake.out]
          exact (hR.out.next hbE).snoc ⟨A7, n1, c7, A8, n2, c8, rfl, E1.out, E2.out, h7o, h8o⟩
        have hS5 := Lib.hid ((hS8.next (one_allocB w8 (.cells #[.slice A7 n1 c7, .slice A8 n2 c8] 101))).keep fun v y h => h.grown (World.ownsRow.alloc hoR8 _) hgrow5)
        have ho5 := Lib.hid hown5
        have hb5 := Lib.hid (show Below w1.heap.size w1 w5 from hbr.out.trans ((hbE.mono hbr.out.size).trans (((one_allocB w8 (.cells #[.slice A7 n1 c7, .slice A8 n2 c8] 101)).mono hb18).trans hbel5)))
        clear hS8 h7o h8o hbE hb6w kE
        go_wp2_with fail
        go_roundw
        case rel => exact ⟨j + 1, some ⟨g5, 0, none⟩, c5, es3 ++ [(.slice A7 n1 c7, .slice A8 n2 c8)], by omega, by go_num, rfl, (by have := ho5.out; exact Lib.hid (by unfold serCs; rw [List.flatMap_append]; exact this)), hS5, hb5⟩
        case measure => simp [intOf]; omega
    · obtain rfl : j = m := by omega
      have htake := Lib.hid (show (allN st).take j = allN st from List.take_of_length_le (by rw [allN_len, Hm.out]; exact Nat.le_refl _))
      go_wp2_with fail
      go_ret
      have hR' := hR.out
      rw [htake.out] at hR'
      exact RV.mk ⟨A3, j, c3, es3, rfl, by rw [allN_len]; exact Hm.out, own_less hoR.out hb01.out.size, hR'.less hb01.out.size, hbwr.out⟩
end Go.Proofs.YtihjgbhnlejhfaaGreatDoor
namespace Go.Proofs.YtihjgbhnlejhfaaGreatDoor
open Go.RowKit

theorem smpIn_zero : SmpIn ⟨0, 0⟩ := by unfold SmpIn in64; simp
theorem StOk.nil : StOk [] := ⟨by decide, fun _ h => by cases h⟩
theorem enc_zero : encN [] ⟨0, 0⟩ = (recN [] ⟨0, 0⟩, 0) := by
  unfold encN
  rw [if_neg (by decide), if_neg (by decide)]
def st1 : StD := [(txL [], ([], [⟨0, 0⟩]))]
theorem put_zero : putN ([], []) [] ⟨0, 0⟩ = ((st1, frameL (recN [] ⟨0, 0⟩)), 0) := by
  unfold putN
  rw [enc_zero, if_neg (by simp)]
  rfl
theorem st1_ok : StOk st1 := ⟨by decide, fun p hp => by
  unfold st1 at hp
  simp at hp
  subst hp
  exact ⟨chkS_one _, by simp, by simp, by simp⟩⟩
theorem st1_keys : KeyOk st1 := fun p hp => by
  unfold st1 at hp
  simp at hp
  subst hp
  have := txtB_size (chkM_asM (show chkL [] = 0 by decide))
  show (txL []).size ≤ maxLen
  unfold maxLen txL
  omega
end Go.Proofs.YtihjgbhnlejhfaaGreatDoor
namespace Go.Proofs.YtihjgbhnlejhfaaGreatDoor

theorem dec_rec {L : List Lab} {x : Smp} (h : chkL L = 0) (hx : SmpIn x) (ht : -1152921504606846976 ≤ x.t ∧ x.t ≤ 1152921504606846976) : decN (recN L x) = (L, x, 0) := by
  have hz := zigN_lt (n := x.t) hx.1
  have hv := zigN_lt (n := x.v) hx.2
  have t1 : takeN (recN L x) = (zigN x.t, (putL (zigN x.t)).length, 0) := by
    unfold recN
    rw [List.append_assoc]
    exact takeN_put hz _
  have d1 : dr1 (recN L x) = putL (zigN x.v) ++ sb (txL L) := by
    unfold dr1
    rw [t1]
    unfold recN
    rw [List.append_assoc]
    exact List.drop_left
  have t2 : takeN (dr1 (recN L x)) = (zigN x.v, (putL (zigN x.v)).length, 0) := by
    rw [d1]
    exact takeN_put hv _
  have d2 : dr1 (dr1 (recN L x)) = sb (txL L) := by
    have : dr1 (dr1 (recN L x)) = (dr1 (recN L x)).drop (takeN (dr1 (recN L x))).2.1 := rfl
    rw [this, t2, d1]
    exact List.drop_left
  have he : encN L x = (recN L x, 0) := by
    unfold encN
    rw [if_neg (by rw [h]; simp), if_neg (by omega)]
  rw [decT_on (by rw [t1]) (by rw [t2]), t1, t2, d2]
  simp only []
  rw [zag_zig, zag_zig]
  unfold decT
  rw [bsOf_sb]
  have htx : readL (txL L) = (L, 0) := readL_told h
  rw [htx]
  rw [if_pos ⟨rfl, he⟩]
theorem dec_enc {L : List Lab} {x : Smp} {c : List Nat} (hx : SmpIn x) (h : encN L x = (c, 0)) : decN c = (L, x, 0) := by
  obtain ⟨h1, h2, h3, h4⟩ := enc_ok (L := L) (x := x) (by rw [h])
  rw [h] at h2
  have : c = recN L x := congrArg Prod.fst h2
  rw [this]
  exact dec_rec h1 hx ⟨h3, h4⟩
theorem enc_bad {L : List Lab} {x : Smp} {c : List Nat} {e : Int} (h : encN L x = (c, e)) (he : e ≠ 0) : c = [] := by
  unfold encN at h
  split at h
  · injection h with h _; exact h.symm
  · split at h
    · injection h with h _; exact h.symm
    · injection h with _ h; exact absurd h.symm he
theorem dec_ok {b : List Nat} {L : List Lab} {x : Smp} (h : decN b = (L, x, 0)) : encN L x = (b, 0) := by
  unfold decN at h
  split at h
  · injection h with _ h; injection h with _ h; cases h
  · split at h
    · injection h with _ h; injection h with _ h; cases h
    · unfold decT at h
      split at h
      · rename_i hh
        injection h with h1 h2
        injection h2 with h2 _
        rw [← h1, ← h2]
        exact hh.2
      · injection h with _ h; injection h with _ h; cases h
theorem dec_bad {b : List Nat} {L : List Lab} {x : Smp} {e : Int} (h : decN b = (L, x, e)) (he : e ≠ 0) : L = [] ∧ x = ⟨0, 0⟩ := by
  unfold decN at h
  split at h
  · injection h with h1 h2; injection h2 with h2 _; exact ⟨h1.symm, h2.symm⟩
  · split at h
    · injection h with h1 h2; injection h2 with h2 _; exact ⟨h1.symm, h2.symm⟩
    · unfold decT at h
      split at h
      · injection h with _ h2; injection h2 with _ h3; exact absurd h3.symm he
      · injection h with h1 h2; injection h2 with h2 _; exact ⟨h1.symm, h2.symm⟩
theorem dec_in {b : List Nat} {L : List Lab} {x : Smp} {e : Int} (hb : Bytes b) (h : decN b = (L, x, e)) : SmpIn x := by
  unfold decN at h
  split at h
  · injection h with _ h2; injection h2 with h2 _; rw [← h2]; exact smpIn_zero
  · split at h
    · injection h with _ h2; injection h2 with h2 _; rw [← h2]; exact smpIn_zero
    · unfold decT at h
      split at h
      · injection h with _ h2; injection h2 with h2 _
        rw [← h2]
        have hb1 : Bytes (dr1 b) := bytes_drop hb _
        exact ⟨zagN_in (takeN_lt hb rfl), zagN_in (takeN_lt hb1 rfl)⟩
      · injection h with _ h2; injection h2 with h2 _; rw [← h2]; exact smpIn_zero
end Go.Proofs.YtihjgbhnlejhfaaGreatDoor
namespace Go.Proofs.YtihjgbhnlejhfaaGreatDoor
open Go.Sort

abbrev Pt := List Lab × Smp
def okP (p : Pt) : Prop := (encN p.1 p.2).2 = 0
instance (p : Pt) : Decidable (okP p) := by unfold okP; exact inferInstance
/-- the store behind puts -/
def runN (s : StD × List Nat) (ps : List Pt) : StD × List Nat := ps.foldl (fun s p => (putN s p.1 p.2).1) s
theorem runN_nil (s : StD × List Nat) : runN s [] = s := rfl
theorem runN_snoc (s : StD × List Nat) (ps : List Pt) (p : Pt) : runN s (ps ++ [p]) = (putN (runN s ps) p.1 p.2).1 := by unfold runN; rw [List.foldl_append]; rfl
theorem upS {l : List Smp} (h : Up l) (h1 : l.length ≤ 1000) : chkS l = 0 := by
  have ho : ∀ k, k < l.length → ordUp l k = true := by
    intro k
    induction k with
    | zero => intro _; rfl
    | succ k ih =>
      intro hk
      unfold ordUp
      rw [ih (by omega), Bool.true_and, decide_eq_true_iff]
      have := List.pairwise_iff_getElem.1 h k (k + 1) (by omega) hk (by omega)
      rw [at_eq (by omega), at_eq hk]
      exact this
  unfold chkS
  rw [if_neg (by omega)]
  cases l with
  | nil => rfl
  | cons x l => rw [if_pos (ho _ (by simp))]
/-- what holds of a store behind m puts -/
structure InvS (s : StD × List Nat) (m : Nat) : Prop where
  len : s.1.length ≤ m
  ent : ∀ p ∈ s.1, p.1 = txL p.2.1 ∧ chkL p.2.1 = 0 ∧ Up p.2.2 ∧ p.2.2 ≠ [] ∧ p.2.2.length ≤ m
  keys : (s.1.map (·.1)).Nodup
  disk : s.2.length ≤ 1238 * m
theorem InvS.nil : InvS ([], []) 0 := ⟨by simp, fun p h => (by cases h), by simp, by simp⟩
theorem InvS.ok {s : StD × List Nat} {m : Nat} (h : InvS s m) (hm : m < 200) : StOk s.1 := by
  refine ⟨by have := h.len; omega, fun p hp => ?_⟩
  obtain ⟨_, h2, h3, _, h5⟩ := h.ent p hp
  exact ⟨upS h3 (by omega), by omega, (chkL_iff.1 h2).1, fun e he => by
    obtain ⟨q1, q2⟩ := (chkL_iff.1 h2).2.1 e he
    have q3 := nameOk_le q1
    exact ⟨by unfold maxLen; omega, by unfold maxLen; omega⟩⟩
theorem InvS.keyOk {s : StD × List Nat} {m : Nat} (h : InvS s m) : KeyOk s.1 := fun p hp => by
  obtain ⟨h1, h2, _⟩ := h.ent p hp
  have := txtB_size (chkM_asM h2)
  rw [h1]
  unfold maxLen txL
  omega
theorem put_mem {st : StD} {k : ByteArray} {y : Ser} {p : ByteArray × Ser} (h : p ∈ putSt st k y) : p = (k, y) ∨ p ∈ st := by
  induction st with
  | nil => unfold putSt at h; simp at h; exact .inl h
  | cons q st ih =>
    unfold putSt at h
    split at h
    · rcases List.mem_cons.1 h with e | e
      · exact .inl e
      · exact .inr (List.mem_cons_of_mem _ e)
    · rcases List.mem_cons.1 h with e | e
      · exact .inr (by rw [e]; exact List.mem_cons_self)
      · rcases ih e with e | e
        · exact .inl e
        · exact .inr (List.mem_cons_of_mem _ e)
theorem put_len (st : StD) (k : ByteArray) (y : Ser) : (putSt st k y).length ≤ st.length + 1 := by
  induction st with
  | nil => unfold putSt; simp
  | cons q st ih =>
    unfold putSt
    split
    · simp
    · simp; exact ih
theorem put_keys (st : StD) (k : ByteArray) (y : Ser) : (k ∈ st.map (·.1) ∧ (putSt st k y).map (·.1) = st.map (·.1)) ∨ (k ∉ st.map (·.1) ∧ (putSt st k y).map (·.1) = st.map (·.1) ++ [k]) := by
  induction st with
  | nil => exact .inr ⟨by simp, by unfold putSt; simp⟩
  | cons q st ih =>
    unfold putSt
    by_cases h : q.1 = k
    · rw [if_pos h]
      refine .inl ⟨by rw [List.map_cons, h]; exact List.mem_cons_self, by simp [h]⟩
    · rw [if_neg h, List.map_cons]
      rcases ih with ⟨h1, h2⟩ | ⟨h1, h2⟩
      · exact .inl ⟨List.mem_cons_of_mem _ h1, by rw [List.map_cons, h2]⟩
      · refine .inr ⟨fun e => ?_, by rw [List.map_cons, h2]; rfl⟩
        rcases List.mem_cons.1 e with e | e
        · exact h e.symm
        · exact h1 e
theorem put_nodup {st : StD} (h : (st.map (·.1)).Nodup) (k : ByteArray) (y : Ser) : ((putSt st k y).map (·.1)).Nodup := by
  rcases put_keys st k y with ⟨_, e⟩ | ⟨hk, e⟩
  · rw [e]; exact h
  · rw [e]
    exact List.nodup_append.2 ⟨h, by simp, fun a ha c hc e => by simp at hc; rw [e, hc] at ha; exact hk ha⟩
theorem InvS.put {s : StD × List Nat} {m : Nat} (h : InvS s m) {p : Pt} (hx : SmpIn p.2) : InvS (putN s p.1 p.2).1 (m + 1) := by
  obtain ⟨L, x⟩ := p
  by_cases hok : (encN L x).2 = 0
  · obtain ⟨hc, hr, _, _⟩ := enc_ok hok
    have e : (putN s L x).1 = (addN s.1 L x, s.2 ++ frameL (recN L x)) := by unfold putN; rw [hr, if_neg (by simp)]
    rw [e]
    have hser : (serN s.1 (txL L) L x).1 = L ∨ ∃ q ∈ s.1, q.1 = txL L ∧ (serN s.1 (txL L) L x).1 = q.2.1 := by
      unfold serN
      cases hf : findSt s.1 (txL L) with
      | none => exact .inl rfl
      | some y => exact .inr ⟨_, find_mem hf, rfl, rfl⟩
    have hL1 : txL (serN s.1 (txL L) L x).1 = txL L ∧ chkL (serN s.1 (txL L) L x).1 = 0 := by
      rcases hser with e | ⟨q, hq, hk, e⟩
      · rw [e]; exact ⟨rfl, hc⟩
      · rw [e]
        obtain ⟨h1, h2, _⟩ := h.ent q hq
        exact ⟨h1.symm.trans hk, h2⟩
    have hS1 : Up (serN s.1 (txL L) L x).2 ∧ (serN s.1 (txL L) L x).2 ≠ [] ∧ (serN s.1 (txL L) L x).2.length ≤ m + 1 := by
      unfold serN
      cases hf : findSt s.1 (txL L) with
      | none => exact ⟨List.pairwise_singleton _ _, by simp, by simp⟩
      | some y =>
        obtain ⟨_, _, h3, h4, h5⟩ := h.ent _ (find_mem hf)
        refine ⟨merge_up _ _ h3 (List.pairwise_singleton _ _), fun e => ?_, Nat.le_trans (mergeUp_one_len _ _) (by simp only [] at h5 ⊢; omega)⟩
        have h6 := look_merge y.2 [x] h3 (List.pairwise_singleton _ _) x.t
        simp only [] at e
        rw [e] at h6
        have : look [x] x.t = some x.v := by unfold look; rw [if_pos rfl]
        rw [this] at h6
        cases h7 : look y.2 x.t <;> rw [h7] at h6 <;> simp [look, join] at h6
    refine ⟨Nat.le_trans (put_len _ _ _) (by have := h.len; omega), fun p hp => ?_, put_nodup h.keys _ _, ?_⟩
    · rcases put_mem hp with e | e
      · rw [e]
        exact ⟨hL1.1.symm, hL1.2, hS1⟩
      · obtain ⟨h1, h2, h3, h4, h5⟩ := h.ent p e
        exact ⟨h1, h2, h3, h4, by omega⟩
    · have h1 : (recN L x).length ≤ 1220 := recN_len hc hx
      have h2 := frame_len (r := recN L x) (by omega)
      have h3 := h.disk
      show (s.2 ++ frameL (recN L x)).length ≤ _
      rw [List.length_append]
      omega
  · have e : (putN s L x).1 = s := by unfold putN; rw [if_pos hok]
    rw [e]
    exact ⟨by have := h.len; omega, fun p hp => by obtain ⟨h1, h2, h3, h4, h5⟩ := h.ent p hp; exact ⟨h1, h2, h3, h4, by omega⟩, h.keys, by have := h.disk; omega⟩
theorem InvS.run (ps : List Pt) (hx : ∀ p ∈ ps, SmpIn p.2) : ∀ {s : StD × List Nat} {m : Nat}, InvS s m → InvS (runN s ps) (m + ps.length) := by
  induction ps with
  | nil => intro s m h; exact h
  | cons p ps ih =>
    intro s m h
    have h1 := ih (fun q hq => hx q (List.mem_cons_of_mem _ hq)) (h.put (hx p List.mem_cons_self))
    rw [List.length_cons, show m + (ps.length + 1) = m + 1 + ps.length by omega]
    exact h1
end Go.Proofs.YtihjgbhnlejhfaaGreatDoor
namespace Go.Proofs.YtihjgbhnlejhfaaGreatDoor
open Go.Sort

/-- the value at a key and a time -/
def lookSt (st : StD) (k : ByteArray) (t : Int) : Option Int := match findSt st k with | none => none | some y => look y.2 t
theorem look_put {s : StD × List Nat} {m : Nat} (h : InvS s m) (L : List Lab) (x : Smp) (k : ByteArray) (t : Int) :
    lookSt (addN s.1 L x) k t = if txL L = k ∧ x.t = t then join (lookSt s.1 k t) (some x.v) else lookSt s.1 k t := by
  have hone : ∀ t, look [x] t = if x.t = t then some x.v else none := fun t => rfl
  unfold lookSt addN
  rw [find_put]
  by_cases hk : txL L = k
  · subst hk
    rw [if_pos rfl]
    unfold serN
    cases hf : findSt s.1 (txL L) with
    | none =>
      simp only []
      rw [hone]
      by_cases ht : x.t = t
      · rw [if_pos ht, if_pos ⟨trivial, ht⟩]; rfl
      · rw [if_neg ht, if_neg (fun e => ht e.2)]
    | some y =>
      obtain ⟨_, _, h3, _⟩ := h.ent _ (find_mem hf)
      simp only []
      rw [look_merge _ _ h3 (List.pairwise_singleton _ _), hone]
      by_cases ht : x.t = t
      · rw [if_pos ht, if_pos ⟨trivial, ht⟩]
      · rw [if_neg ht, if_neg (fun e => ht e.2)]
        cases look y.2 t <;> rfl
  · rw [if_neg hk, if_neg (fun e => hk e.1)]
theorem find_none_iff {st : StD} {k : ByteArray} : findSt st k = none ↔ k ∉ st.map (·.1) := by
  constructor
  · intro h hm
    obtain ⟨p, hp, e⟩ := List.mem_map.1 hm
    induction st with
    | nil => cases hp
    | cons q st ih =>
      unfold findSt at h
      split at h
      · cases h
      · rename_i hq
        rcases List.mem_cons.1 hp with e2 | e2
        · rw [← e2] at hq; exact hq e
        · exact ih h (List.mem_map.2 ⟨p, e2, e⟩) e2
  · intro h
    exact find_none fun p hp e => h (List.mem_map.2 ⟨p, hp, e⟩)
theorem look_head {l : List Smp} (h : l ≠ []) : ∃ t, look l t ≠ none := by
  cases l with
  | nil => exact absurd rfl h
  | cons x l => exact ⟨x.t, by unfold look; rw [if_pos rfl]; simp⟩
theorem key_iff {s : StD × List Nat} {m : Nat} (h : InvS s m) (k : ByteArray) : k ∈ s.1.map (·.1) ↔ ∃ t, lookSt s.1 k t ≠ none := by
  constructor
  · intro hk
    cases hf : findSt s.1 k with
    | none => exact absurd hk (find_none_iff.1 hf)
    | some y =>
      obtain ⟨_, _, _, h4, _⟩ := h.ent _ (find_mem hf)
      obtain ⟨t, ht⟩ := look_head h4
      exact ⟨t, by unfold lookSt; rw [hf]; exact ht⟩
  · rintro ⟨t, ht⟩
    refine Classical.byContradiction fun hk => ht ?_
    unfold lookSt
    rw [find_none_iff.2 hk]
theorem txL_inj {L M : List Lab} (h : chkL L = 0) (h' : chkL M = 0) (e : txL L = txL M) : L = M := by
  have h1 : readL (txL L) = (L, 0) := readL_told h
  have h2 : readL (txL M) = (M, 0) := readL_told h'
  rw [e, h2] at h1
  exact (congrArg Prod.fst h1).symm
theorem strL_perm {l m : List ByteArray} (h : l.Perm m) : (strL l).Perm (strL m) := h.map _
theorem keysS_ext {s s' : StD} (h : (s.map (·.1)).Nodup) (h' : (s'.map (·.1)).Nodup) (hk : ∀ k, k ∈ s.map (·.1) ↔ k ∈ s'.map (·.1)) : keysS s = keysS s' := by
  unfold keysS sortS
  rw [show (strL (s.map (·.1))).mergeSort (fun x y => decide (x ≤ y)) = (strL (s'.map (·.1))).mergeSort (fun x y => decide (x ≤ y)) from mergeSort_of_perm (strL_perm ((List.perm_ext_iff_of_nodup h h').2 hk))]
theorem all_ext {s s' : StD × List Nat} {m m' : Nat} (h : InvS s m) (h' : InvS s' m') (he : ∀ k t, lookSt s.1 k t = lookSt s'.1 k t) : allN s.1 = allN s'.1 := by
  have hk : ∀ k, k ∈ s.1.map (·.1) ↔ k ∈ s'.1.map (·.1) := fun k => by
    rw [key_iff h, key_iff h']
    exact ⟨fun ⟨t, ht⟩ => ⟨t, by rw [← he]; exact ht⟩, fun ⟨t, ht⟩ => ⟨t, by rw [he]; exact ht⟩⟩
  unfold allN
  rw [← keysS_ext h.keys h'.keys hk]
  refine List.map_congr_left fun k hm => ?_
  have hk1 := keysS_mem hm
  have hk2 := (hk k).1 hk1
  cases hf : findSt s.1 k with
  | none => exact absurd hk1 (find_none_iff.1 hf)
  | some y =>
    cases hf' : findSt s'.1 k with
    | none => exact absurd hk2 (find_none_iff.1 hf')
    | some y' =>
      obtain ⟨a1, a2, a3, _⟩ := h.ent _ (find_mem hf)
      obtain ⟨b1, b2, b3, _⟩ := h'.ent _ (find_mem hf')
      have e1 : y.1 = y'.1 := txL_inj a2 b2 (a1.symm.trans b1)
      have e2 : y.2 = y'.2 := look_ext _ _ a3 b3 fun t => by
        have := he k t
        unfold lookSt at this
        rw [hf, hf'] at this
        exact this
      unfold serAt
      rw [hf, hf']
      show y = y'
      cases y; cases y'
      simp only [] at e1 e2
      rw [e1, e2]
/-- a put that tells of a key and a time -/
def hitP (k : ByteArray) (t : Int) (p : Pt) : Prop := okP p ∧ txL p.1 = k ∧ p.2.t = t
instance (k : ByteArray) (t : Int) (p : Pt) : Decidable (hitP k t p) := by unfold hitP; exact inferInstance
/-- the greatest of what was put -/
def topP (k : ByteArray) (t : Int) (ps : List Pt) (o : Option Int) : Prop :=
  (o = none ∧ ∀ p ∈ ps, ¬ hitP k t p) ∨ ∃ v, o = some v ∧ (∃ p ∈ ps, hitP k t p ∧ p.2.v = v) ∧ ∀ p ∈ ps, hitP k t p → p.2.v ≤ v
theorem topP_ext {k : ByteArray} {t : Int} {ps qs : List Pt} {o o' : Option Int} (h : topP k t ps o) (h' : topP k t qs o') (hm : ∀ p, p ∈ ps ↔ p ∈ qs) : o = o' := by
  rcases h with ⟨e, h1⟩ | ⟨v, e, ⟨p, hp, hh, hv⟩, h2⟩
  · rcases h' with ⟨e', _⟩ | ⟨v', e', ⟨p, hp, hh, _⟩, _⟩
    · rw [e, e']
    · exact absurd hh (h1 p ((hm p).2 hp))
  · rcases h' with ⟨e', h1⟩ | ⟨v', e', ⟨p', hp', hh', hv'⟩, h2'⟩
    · exact absurd hh (h1 p ((hm p).1 hp))
    · have a := h2' p ((hm p).1 hp) hh
      have b := h2 p' ((hm p').2 hp') hh'
      rw [e, e', show v = v' by omega]
theorem topP_snoc {k : ByteArray} {t : Int} {ps : List Pt} {o : Option Int} (h : topP k t ps o) (p : Pt) : topP k t (ps ++ [p]) (if hitP k t p then join o (some p.2.v) else o) := by
  by_cases hp : hitP k t p
  · rw [if_pos hp]
    refine .inr ?_
    rcases h with ⟨e, h1⟩ | ⟨v, e, ⟨q, hq, hh, hv⟩, h2⟩
    · refine ⟨p.2.v, by rw [e]; rfl, ⟨p, by simp, hp, rfl⟩, fun r hr hh => ?_⟩
      rcases List.mem_append.1 hr with hr | hr
      · exact absurd hh (h1 r hr)
      · simp at hr; rw [hr]; exact Int.le_refl _
    · refine ⟨max v p.2.v, by rw [e]; rfl, ?_, fun r hr hr2 => ?_⟩
      · rcases Int.le_total v p.2.v with hl | hl
        · exact ⟨p, by simp, hp, by rw [Int.max_eq_right hl]⟩
        · exact ⟨q, List.mem_append_left _ hq, hh, by rw [Int.max_eq_left hl]; exact hv⟩
      · rcases List.mem_append.1 hr with hr | hr
        · have := h2 r hr hr2; omega
        · simp at hr; rw [hr]; omega
  · rw [if_neg hp]
    rcases h with ⟨e, h1⟩ | ⟨v, e, ⟨q, hq, hh, hv⟩, h2⟩
    · refine .inl ⟨e, fun r hr => ?_⟩
      rcases List.mem_append.1 hr with hr | hr
      · exact h1 r hr
      · simp at hr; rw [hr]; exact hp
    · refine .inr ⟨v, e, ⟨q, List.mem_append_left _ hq, hh, hv⟩, fun r hr hr2 => ?_⟩
      rcases List.mem_append.1 hr with hr | hr
      · exact h2 r hr hr2
      · simp at hr; rw [hr] at hr2; exact absurd hr2 hp
theorem putN_ok {s : StD × List Nat} {p : Pt} (h : okP p) : putN s p.1 p.2 = ((addN s.1 p.1 p.2, s.2 ++ frameL (recN p.1 p.2)), 0) := by
  obtain ⟨_, hr, _, _⟩ := enc_ok h
  unfold putN; rw [hr, if_neg (by simp)]
theorem putN_no {s : StD × List Nat} {p : Pt} (h : ¬ okP p) : putN s p.1 p.2 = (s, (encN p.1 p.2).2) := by
  unfold putN; rw [if_pos (show (encN p.1 p.2).2 ≠ 0 from h)]
theorem snocRec {α : Type} {motive : List α → Prop} (nil : motive []) (snoc : ∀ (l : List α) (a : α), motive l → motive (l ++ [a])) (l : List α) : motive l := by
  have h : ∀ l : List α, motive l.reverse := by
    intro l
    induction l with
    | nil => exact nil
    | cons a l ih => rw [List.reverse_cons]; exact snoc _ _ ih
  have := h l.reverse
  rwa [List.reverse_reverse] at this
theorem top_run : ∀ (ps : List Pt), (∀ p ∈ ps, SmpIn p.2) → ∀ k t, topP k t ps (lookSt (runN ([], []) ps).1 k t) := by
  intro ps
  induction ps using snocRec with
  | nil => intro _ k t; exact .inl ⟨rfl, by simp⟩
  | snoc ps p ih =>
    intro hx k t
    have hx1 : ∀ q ∈ ps, SmpIn q.2 := fun q hq => hx q (List.mem_append_left _ hq)
    have h1 := ih hx1 k t
    have hI := InvS.run ps hx1 InvS.nil
    rw [runN_snoc]
    have h2 := topP_snoc h1 p
    by_cases hp : okP p
    · rw [putN_ok hp]
      show topP k t _ (lookSt (addN _ p.1 p.2) k t)
      rw [look_put hI]
      have : (if hitP k t p then join (lookSt (runN ([], []) ps).1 k t) (some p.2.v) else lookSt (runN ([], []) ps).1 k t) = if txL p.1 = k ∧ p.2.t = t then join (lookSt (runN ([], []) ps).1 k t) (some p.2.v) else lookSt (runN ([], []) ps).1 k t := by
        by_cases hh : txL p.1 = k ∧ p.2.t = t
        · rw [if_pos hh, if_pos ⟨hp, hh.1, hh.2⟩]
        · rw [if_neg hh, if_neg (fun e => hh ⟨e.2.1, e.2.2⟩)]
      rw [← this]
      exact h2
    · rw [putN_no hp]
      rw [if_neg (fun e => hp e.1)] at h2
      exact h2
/-- puts of the same kinds are told alike -/
theorem all_same {ps qs : List Pt} (hp : ∀ p ∈ ps, SmpIn p.2) (hm : ∀ p, p ∈ ps ↔ p ∈ qs) : allN (runN ([], []) ps).1 = allN (runN ([], []) qs).1 :=
  all_ext (InvS.run ps hp InvS.nil) (InvS.run qs (fun q hq => hp q ((hm q).2 hq)) InvS.nil) fun k t => topP_ext (top_run ps hp k t) (top_run qs (fun q hq => hp q ((hm q).2 hq)) k t) hm
end Go.Proofs.YtihjgbhnlejhfaaGreatDoor
namespace Go.Proofs.YtihjgbhnlejhfaaGreatDoor
open Go.RowKit Go.ChangeMaps

theorem mod2_set (w : World) (g : Nat) (row : Option Nat) (i : Nat) (u : Value) : Mod2 g row w (w.setCell ⟨g, i, none⟩ u) :=
  ⟨rfl, rfl, rfl, by rw [World.size_setCell]; exact Nat.le_refl _, fun k _ hne _ => Below.heap_setCell w ⟨g, i, none⟩ u k hne⟩
set_option maxRecDepth 100000 in
theorem sync_store (base g : Nat) (dk : List Nat) (sf : Int) (st : StD) (w : World) (hS : StM w base g dk sf st) :
    Calls Tryz.prog 75 #[.pointer (some ⟨g, 0, none⟩)] w (R1 (.tuple #[]) (fun w' => StM w' base g dk dk.length st ∧ OutS base g w w')) := by
  obtain ⟨b, dg, DA, dc, es, clock, kvs, hS⟩ := hS
  have o1 : w.cell? ⟨g, 1, none⟩ = some (.pointer (some ⟨dg, 0, none⟩)) := hS.obj.cell 1
  have hD := Lib.hid (dsync_any base dg DA dc dk sf w hS.disk)
  obtain ⟨h1, h2⟩ := hS.mod2 (mod2_set w dg (DA.map Addr.block) 1 (.int .i64 dk.length)) (disk_sync hS.disk) (fun _ h => .inl h)
  have h1 := Lib.hid h1
  have h2 := Lib.hid h2
  clear hS
  go_enter Tryz.func75, Tryz.ntmps75
  go_wp2_with fail
  refine hD.out.mono ?_
  rintro e w1 ⟨rfl, rfl⟩
  go_wp2_with fail
  exact bodyPost_end (v := .tuple #[]) (results_none rfl _ _ _) rfl (R1.mk rfl ⟨⟨b, dg, DA, dc, es, clock, kvs, h1.out⟩, h2.out⟩)
set_option maxRecDepth 100000 in
theorem crash_no (base g : Nat) (dk : List Nat) (sf : Nat) (st : StD) (hs : sf ≤ dk.length) (hb : dk.length ≤ 1000000) (k : Int) (hkb : -9223372036854775808 ≤ k ∧ k ≤ 9223372036854775807) (hk : k < 0 ∨ (dk.length : Int) - (sf : Int) < k) (w : World) (hS : StM w base g dk sf st) :
    Calls Tryz.prog 63 #[.pointer (some ⟨g, 0, none⟩), .int .i64 k] w (R1 (.int .i64 1) (Below w.heap.size w)) := by
  obtain ⟨b, dg, DA, dc, es, clock, kvs, hS⟩ := hS
  have o1 : w.cell? ⟨g, 1, none⟩ = some (.pointer (some ⟨dg, 0, none⟩)) := hS.obj.cell 1
  have hD := Lib.hid (dcrash_no base dg DA dc dk sf hs hb k hkb hk w hS.disk)
  clear hS hk hkb
  go_enter Tryz.func63, Tryz.ntmps63
  go_wp2_with fail
  refine hD.out.mono ?_
  rintro e w1 ⟨rfl, nd, rfl⟩
  go_wp2_with fail
  go_ret
  exact R1.mk rfl (below_drewN (Below.refl _ _) _)
/-- cells' blocks are as they were -/
structure CellsK (w w' : World) : Prop where
  size : w.heap.size ≤ w'.heap.size
  cells : ∀ (k : Nat) (cs : Array Value) (t : TypeId) (fr : Nat × Nat), w.heap[k]? = some (Obj.cells cs t fr) → w'.heap[k]? = w.heap[k]?
theorem CellsK.refl (w : World) : CellsK w w := ⟨Nat.le_refl _, fun _ _ _ _ _ => rfl⟩
theorem CellsK.trans {a b c : World} (h : CellsK a b) (k : CellsK b c) : CellsK a c := ⟨Nat.le_trans h.size k.size, fun q cs t fr hq => (k.cells q cs t fr ((h.cells q cs t fr hq).trans hq)).trans (h.cells q cs t fr hq)⟩
theorem CellsK.of {w w' : World} (h : Below w.heap.size w w') : CellsK w w' := ⟨h.size, fun k _ _ _ hk => h.block k (Array.getElem?_eq_some_iff.1 hk).1⟩
theorem CellsK.setBlock {w : World} {b : Nat} {es : Array MapEntry} {clock : Nat} {o : Obj} (h : w.heap[b]? = some (.map es clock)) : CellsK w (setBlock w b o) :=
  ⟨by unfold Go.ChangeMaps.setBlock; simp, fun k cs t fr hk => heap_setBlock (fun e => by subst e; rw [h] at hk; cases hk)⟩
theorem CellsK.own {w w' : World} {base size n : Nat} {e : TypeId} {v : Value} {xs : List Value} (h : CellsK w w') (ho : w.ownsRow base e size v n xs) : w'.ownsRow base e size v n xs :=
  own_keepS ho fun q hq => by
    obtain ⟨cs, hc⟩ := own_kindS ho q hq
    exact h.cells q cs e _ hc
theorem CellsK.recs {w w' : World} {base : Nat} {vs : List Value} {rs : List (List Nat)} (hk : CellsK w w') (h : RecsOwn w base vs rs) : RecsOwn w' base vs rs := by
  induction h with
  | nil => exact .nil
  | cons h1 _ ih => exact .cons (hk.own h1) ih
theorem OutB.set0 {base g : Nat} {w : World} {cs : Array Value} (h : Blk w g 134 cs) (hg : base ≤ g) (i : Nat) (u : Value) : OutB base w (w.setCell ⟨g, i, none⟩ u) where
  os := rfl
  tape := rfl
  output := rfl
  size := by rw [World.size_setCell]; exact Nat.le_refl _
  low := fun k hk => Below.heap_setCell w ⟨g, i, none⟩ u k (fun e => by have e : k = g := e; omega)
  kinds := fun k cs' t fr hk ht => Below.heap_setCell w ⟨g, i, none⟩ u k (fun e => by
    have e : k = g := e
    subst e
    have h2 := blk_cells h
    rw [hk] at h2
    injection h2 with h2
    injection h2 with _ h2
    exact ht (.inl h2))
theorem StAt.fresh {w : World} {base g b dg : Nat} {A : Option Addr} {c : Nat} {es : Array MapEntry} {clock : Nat} {kvs : List (Value × Value)} {dk : List Nat} {sf : Int} {st : StD} (h : StAt w base g b dg A c es clock kvs dk sf st) (hb : base ≤ w.heap.size) :
    StAt ((w.alloc (.map #[] 0)).setCell ⟨g, 0, none⟩ (.map (some w.heap.size))) base g w.heap.size dg A c #[] 0 [] dk sf [] ∧ OutS base g w ((w.alloc (.map #[] 0)).setCell ⟨g, 0, none⟩ (.map (some w.heap.size))) := by
  have hb1 : Below w.heap.size w (w.alloc (.map #[] 0)) := one_allocB _ _
  have hobj := h.obj.next hb1
  have hO := (OutB.of hb1 hb).trans (OutB.set0 hobj h.og 0 (.map (some w.heap.size)))
  have hgl := h.obj.lt
  have hset : ∀ k, k ≠ g → ((w.alloc (.map #[] 0)).setCell ⟨g, 0, none⟩ (.map (some w.heap.size))).heap[k]? = (w.alloc (.map #[] 0)).heap[k]? := fun k hk => Below.heap_setCell _ ⟨g, 0, none⟩ _ k hk
  have hN : StAt ((w.alloc (.map #[] 0)).setCell ⟨g, 0, none⟩ (.map (some w.heap.size))) base g w.heap.size dg A c #[] 0 [] dk sf [] := {
    obj := hobj.set 0 _
    mp := (hset _ (by omega)).trans (heap_alloc_new w _)
    shape := MpS.empty _ _ _
    rows := .nil
    disk := ⟨(hset dg (fun e => by
      have h1 := blk_cells h.disk.1
      have h2 := blk_cells h.obj
      rw [e, h2] at h1
      injection h1 with h1
      injection h1 with _ h1
      exact absurd h1 (by decide))).trans (h.disk.1.next hb1), ownsRow_setCell_other (own_next h.disk.2 hb1) (a := ⟨g, 0, none⟩) (own_ne_blk hobj (own_next h.disk.2 hb1) (by decide)) _⟩
    og := h.og
    ob := hb
    od := h.od }
  refine ⟨hN, hO, fun q hq hf => ?_, fun q hq => ?_⟩
  · rw [h.foot] at hf
    exact (hset q (fun e => hf (by rw [e]; simp))).trans (hb1.block q hq)
  · rw [hN.foot] at hq
    rw [h.foot]
    simp only [List.mem_cons] at hq ⊢
    rcases hq with e | e | e | e
    · exact .inl (.inl e)
    · exact .inr (Nat.le_of_eq e.symm)
    · exact .inl (.inr (.inr (.inl e)))
    · exact .inl (.inr (.inr (.inr e)))
set_option maxRecDepth 1000000 in
set_option maxHeartbeats 400000 in
theorem drecs_any (base g : Nat) (A : Option Addr) (c : Nat) (b : List Nat) (s : Int) (hb : b.length ≤ 1000000) (hbb : Bytes b) (ts : List (List Nat)) (n : Nat) (hcut : cutN b = (ts, n)) (w : World) (hD : DiskAt w base g A c b s) :
    Calls Tryz.prog 88 #[.pointer (some ⟨g, 0, none⟩)] w (RV fun v w' => ∃ A' c' vs, v = .slice A' ts.length c' ∧ w'.ownsRow w.heap.size 76 1 (.slice A' ts.length c') ts.length vs ∧ RecsOwn w' w.heap.size vs ts ∧ Below w.heap.size w w') := by
  have k0 : w.cell? ⟨g, 0, none⟩ = some (.slice A b.length c) := hD.1.cell 0
  obtain ⟨q1, q2⟩ := own_len hD.2
  have hnil : A = none → c = 0 := by
    obtain ⟨A', c', e, _, _, _, h2⟩ := own_form hD.2
    injection e with e1 _ e2
    subst e1 e2
    exact h2
  have hnil := Lib.hid hnil
  have Hcut := Lib.hid hcut; clear hcut
  have hH := Lib.hid (Has.of_own hD.2)
  go_enter Tryz.func88, Tryz.ntmps88
  go_wp2_with fail
  refine (cut_any A b.length c b (ts, n) Hcut.out rfl q1 q2 (by omega) hbb hnil.out _ (by exact hH.out)).mono ?_
  rintro e w1 ⟨v, rfl, A1, c1, vs, rfl, ho1, hrec1, hb1⟩
  have ho1 := Lib.hid ho1
  go_wp2_with fail
  go_ret
  exact RV.mk ⟨A1, c1, vs, rfl, ho1.out, hrec1, hb1⟩

end Go.Proofs.YtihjgbhnlejhfaaGreatDoor
namespace Go.Proofs.YtihjgbhnlejhfaaGreatDoor
open Go.RowKit Go.ChangeMaps

def recsOf (qs : List Pt) : List (List Nat) := qs.map fun p => recN p.1 p.2
theorem recsOf_at {qs : List Pt} {j : Nat} (h : j < qs.length) : at_ (recsOf qs) j = recN (at_ qs j).1 (at_ qs j).2 := by
  rw [at_eq (by unfold recsOf; rw [List.length_map]; exact h), at_eq h]
  unfold recsOf
  rw [List.getElem_map]
theorem pts_take {qs : List Pt} {j : Nat} (h : j < qs.length) : qs.take (j + 1) = qs.take j ++ [at_ qs j] := by
  rw [List.take_add_one, List.getElem?_eq_getElem h, at_eq h]
  rfl
theorem labOk_of {L : List Lab} (h : chkL L = 0) : ∀ e ∈ L, LabOk e := fun e he => by
  obtain ⟨h1, h2, _⟩ := chkL_iff.1 h
  obtain ⟨h3, h4⟩ := h2 e he
  have h5 := nameOk_le h3
  exact ⟨by unfold maxLen; omega, by unfold maxLen; omega⟩
set_option maxRecDepth 1000000 in
set_option maxHeartbeats 8000000 in
theorem crash_yes (base g : Nat) (dk : List Nat) (sf : Nat) (st : StD) (hs : sf ≤ dk.length) (hbb : Bytes dk) (hb : dk.length ≤ 1000000) (k : Nat) (hk : sf + k ≤ dk.length) (n : Nat) (qs : List Pt) (hcut : cutN (dk.take (sf + k)) = (recsOf qs, n)) (hn : n ≤ dk.length) (hcut2 : cutN (dk.take n) = (recsOf qs, n)) (hq : ∀ p ∈ qs, okP p ∧ SmpIn p.2) (hq30 : qs.length ≤ 30) (w : World) (hS : StM w base g dk sf st) (hbase : base ≤ w.heap.size) (tS : SgAt w) (hsb : 0 < base) :
    Calls Tryz.prog 63 #[.pointer (some ⟨g, 0, none⟩), .int .i64 k] w (R1 (.int .i64 0) (fun w' => StM w' base g (dk.take n) n (runN ([], []) qs).1 ∧ OutS base g w w')) := by
  obtain ⟨b, dg, DA, dc, es, clock, kvs, hS⟩ := hS
  have o1 : w.cell? ⟨g, 1, none⟩ = some (.pointer (some ⟨dg, 0, none⟩)) := hS.obj.cell 1
  have hD := Lib.hid (dcrash_yes base dg DA dc dk sf hs hbb hb k hk n (recsOf qs) hcut hn w hS.disk)
  have HS := Lib.hid hS
  have Hq := Lib.hid hq
  have Hbase := Lib.hid hbase
  have tS := Lib.hid tS
  have Hcut2 := Lib.hid hcut2
  have Hlen := Lib.hid (show (dk.take n).length = n by rw [List.length_take, Nat.min_eq_left hn])
  have Hbb := Lib.hid (show Bytes (dk.take n) from fun x hx => hbb x (List.mem_of_mem_take hx))
  have Hmil := Lib.hid (show n ≤ 1000000 by omega)
  clear hS hq hbase hcut hcut2 hbb hs hk hb hn
  go_enter Tryz.func63, Tryz.ntmps63
  go_wp2_with fail
  refine hD.out.mono ?_
  rintro e w1 ⟨rfl, hD1, hM1⟩
  obtain ⟨hS1, hO1⟩ := HS.out.mod2 (w' := w1) ⟨hM1.os, hM1.tape, hM1.output, hM1.size, fun k hk h1 _ => hM1.block k hk h1 (by simp)⟩ hD1 (fun _ h => .inl h)
  have hmk : ∀ w : World, (Instr.makeMap 96 none).run Tryz.prog w = .ok (.map (some w.heap.size)) (w.alloc (.map #[] 0)) := fun _ => by kernel_rfl
  have kg1 : Blk (w1.alloc (.map #[] 0)) g 134 #[.map (some b), .pointer (some ⟨dg, 0, none⟩)] := hS1.obj.alloc _
  have g0 : (w1.alloc (.map #[] 0)).cell? ⟨g, 0, none⟩ = some (.map (some b)) := kg1.cell 0
  have gf : (w1.alloc (.map #[] 0)).frozen? ⟨g, 0, none⟩ = false := kg1.frozen 0
  have hb1 : base ≤ w1.heap.size := Nat.le_trans Hbase.out hO1.size
  obtain ⟨hS3, hO3⟩ := hS1.fresh hb1
  have hO03 := Lib.hid (hO1.trans hO3)
  have hb1 := Lib.hid hb1
  have hS3 := Lib.hid hS3
  clear hS1 hO1 hD1 hM1 hO3 o1 kg1
  go_upto_region 5 with fail
  obtain ⟨W3, hW3⟩ : ∃ W3, (w1.alloc (.map #[] 0)).setCell ⟨g, 0, none⟩ (.map (some w1.heap.size)) = W3 := ⟨_, rfl⟩
  obtain ⟨b3, hb3⟩ : ∃ b3, w1.heap.size = b3 := ⟨_, rfl⟩
  rw [hW3] at hS3 hO03 ⊢
  rw [hb3] at hS3
  clear hW3 hb3 g0 gf hb1
  have o1 : W3.cell? ⟨g, 1, none⟩ = some (.pointer (some ⟨dg, 0, none⟩)) := hS3.out.obj.cell 1
  have hR := Lib.hid (drecs_any base dg DA dc (dk.take n) n (by rw [Hlen.out]; exact Hmil.out) Hbb.out (recsOf qs) n Hcut2.out W3 hS3.out.disk)
  obtain ⟨m, hm⟩ : ∃ m, (recsOf qs).length = m := ⟨_, rfl⟩
  rw [hm] at hR
  have Hm := Lib.hid hm
  have hqm : qs.length = m := by rw [← hm]; unfold recsOf; rw [List.length_map]
  have Hqm := Lib.hid hqm
  have hm30 : m ≤ 30 := by omega
  clear hm hqm
  go_wp2_with fail
  refine hR.out.mono ?_
  rintro e w5 ⟨v, rfl, RA, rc, vs, rfl, hoR, hrec, hb5⟩
  have hS5 := hS3.out.next hb5
  have hO5 := hO03.out.trans (OutS.of hb5 (Nat.le_trans Hbase.out hO03.out.size) hS3.out)
  have hoR := Lib.hid hoR
  have hrec := Lib.hid hrec
  have hS5 := Lib.hid (show StM w5 base g (dk.take n) n [] from ⟨_, _, _, _, _, _, _, hS5⟩)
  have hO5 := Lib.hid hO5
  have hb5s := Lib.hid hb5.size
  clear o1 hb5
  go_wp2_with fail
  go_loopw [34] (fun i wr => ∃ j : Nat, j ≤ m ∧ i = .int .i64 (j : Nat) ∧ Hid (StM wr base g (dk.take n) n (runN ([], []) (qs.take j)).1) ∧ Hid (OutS base g w wr) ∧ Hid (CellsK w5 wr)) (fun i _ => m + 5 - (intOf i).toNat)
  case atStart => exact ⟨0, by omega, rfl, Lib.hid (by rw [List.take_zero]; exact hS5.out), hO5, Lib.hid (CellsK.refl _)⟩
  case round =>
    obtain ⟨j, hj, rfl, hM, hO, hK⟩ := hrel
    have hbw := Lib.hid (Nat.le_trans Hbase.out hO.out.size)
    have tSr : Hid (SgAt wr) := Lib.hid ⟨Nat.lt_of_lt_of_le tS.out.1 hO.out.size, fun k hk => by rw [← tS.out.2 k hk]; exact hO.out.below.cell (p := ⟨0, k, none⟩) hsb⟩
    by_cases hlt : (j : Int) < (m : Int)
    · have hjq : j < qs.length := by rw [Hqm.out]; omega
      have hoRr := hK.out.own hoR.out
      obtain ⟨u, hu, A3, c3, rfl, h31, h32, h33, h34⟩ := (hK.out.recs hrec.out).at.get (show j < (recsOf qs).length by rw [Hm.out]; omega)
      obtain ⟨ad, rfl, _, c0⟩ := (Has.of_own hoRr).at hu
      have hrj := recsOf_at hjq
      have htk := Lib.hid (pts_take hjq)
      obtain ⟨hokp, hinp⟩ := Hq.out _ (at_mem hjq)
      have hI := InvS.run (qs.take j) (fun p hp => (Hq.out p (List.mem_of_mem_take hp)).2) InvS.nil
      have hlj : (qs.take j).length ≤ j := by rw [List.length_take]; exact Nat.min_le_left _ _
      have hok := Lib.hid (hI.ok (by omega))
      obtain ⟨⟨L, x⟩, hp⟩ : ∃ p, at_ qs j = p := ⟨_, rfl⟩
      rw [hp] at hrj htk hokp hinp
      simp only [] at hrj hokp hinp
      obtain ⟨hchk, _, ht1, ht2⟩ := enc_ok (L := L) (x := x) hokp
      have hrl := recN_len hchk hinp
      rw [hrj] at h31 h34 c0
      obtain ⟨rn, hrn⟩ : ∃ rn, (recN L x).length = rn := ⟨_, rfl⟩
      rw [hrn] at h31 c0 hrl
      have hDe := dec_any A3 rn c3 (recN L x) hrn (by omega) h31 h32 h33 (recN_bytes L x) wr h34 tSr.out
      rw [dec_rec hchk hinp ⟨ht1, ht2⟩] at hDe
      have hDe := Lib.hid hDe
      have Hchk := Lib.hid hchk
      have Hokp := Lib.hid hokp
      clear hI hlj hp hrj hrn hchk hoRr hu h31 h32 h33 h34 hokp
      go_wp2_with fail
      refine hDe.out.mono ?_
      rintro e w6 ⟨v, rfl, AL, nl, cl, rfl, hnl, hoL, hb6⟩
      simp only [] at hnl hoL
      go_upto_region 9 with fail
      obtain ⟨W7, hW7⟩ : ∃ W7, w6.alloc (.cells #[.int .i64 x.t, .int .i64 x.v] 26) = W7 := ⟨_, rfl⟩
      obtain ⟨q7, hq7⟩ : ∃ q7, w6.heap.size = q7 := ⟨_, rfl⟩
      have hb7 : Below w6.heap.size w6 W7 := by rw [← hW7]; exact one_allocB _ _
      have k7 : Blk W7 q7 26 #[.int .i64 x.t, .int .i64 x.v] := by rw [← hW7]; exact Blk.newD _ _ _ _ hq7
      rw [hW7, hq7]
      have hbr7 := Lib.hid (bnext hb6 hb7)
      have hHL := Lib.hid ((Has.of_own hoL).next hb7)
      obtain ⟨n11, n12⟩ := own_len hoL
      have hnA : AL = none → nl = 0 ∧ cl = 0 := fun e => by subst e; exact own_nil hoL
      have hL10 := (labS_of Hchk.out).1
      have hlo := labOk_of Hchk.out
      have htx : textN L = (txL L, 0) := by unfold textN txL; rw [Hchk.out, if_neg (by simp)]
      have hts : (txL L).size ≤ 1200 := txtB_size (chkM_asM Hchk.out)
      have hTx := lbtext_any AL nl cl L hnl (by omega) W7 hHL.out hlo (tSr.out.next hbr7.out)
      rw [htx] at hTx
      obtain ⟨key, hkey⟩ : ∃ key, txL L = key := ⟨_, rfl⟩
      have hMr := Lib.hid (fun (w8 : World) (hb : Below W7.heap.size W7 w8) => more_any base g (dk.take n) n _ hok.out (txL L) (by unfold maxLen; omega) AL nl cl L hnl hnA (by omega) x w8 (hM.out.next (bnext hbr7.out hb)) (Nat.le_trans hbw.out (Nat.le_trans hbr7.out.size hb.size)) (hHL.out.next hb))
      obtain ⟨y, hy⟩ : ∃ y, serN (runN ([], []) (qs.take j)).1 (txL L) L x = y := ⟨_, rfl⟩
      rw [hy] at hMr
      have hst : Hid ((runN ([], []) (qs.take (j + 1))).1 = putSt (runN ([], []) (qs.take j)).1 (txL L) y) := Lib.hid (by rw [htk.out, runN_snoc, putN_ok Hokp.out, ← hy]; rfl)
      rw [hkey] at hTx hMr hst
      have hksz : Hid (key.size ≤ maxLen) := Lib.hid (by rw [← hkey]; unfold maxLen; omega)
      have hTx := Lib.hid hTx
      clear hW7 hq7 hb7 n11 n12 hnA hL10 hlo htx hts hkey hy hoL hnl hb6 c0
      go_wp2_with fail
      refine hTx.out.mono ?_
      rintro e w8 ⟨rfl, hb8⟩
      have k8 := k7.next hb8
      have x0 : w8.cell? ⟨q7, 0, none⟩ = some (.int .i64 x.t) := k8.cell 0
      have x1 : w8.cell? ⟨q7, 1, none⟩ = some (.int .i64 x.v) := k8.cell 1
      go_wp2_with fail
      refine (hMr.out _ hb8).mono ?_
      rintro e w9 ⟨v, rfl, u, rfl, hu9, hb9⟩
      obtain ⟨L1, m1, d1, S1, m2, d2, rfl, _⟩ := id hu9
      have hu9 := Lib.hid hu9
      go_upto_region 11 with fail
      obtain ⟨W4, hW4⟩ : ∃ W4, w9.alloc (.cells #[.slice L1 m1 d1, .slice S1 m2 d2] 101) = W4 := ⟨_, rfl⟩
      obtain ⟨q4, hq4⟩ : ∃ q4, w9.heap.size = q4 := ⟨_, rfl⟩
      have hb4 : Below w9.heap.size w9 W4 := by rw [← hW4]; exact one_allocB _ _
      have k4 : Blk W4 q4 101 #[.slice L1 m1 d1, .slice S1 m2 d2] := by rw [← hW4]; exact Blk.newD _ _ _ _ hq4
      rw [hW4, hq4]
      have hbr4 := bnext hbr7.out (bnext hb8 (bnext hb9 hb4))
      obtain ⟨b4, dg4, A4, c4, es4, ck4, kvs4, hS4⟩ := hM.out.next hbr4
      have hu4 := hu9.out.next hb4
      have hmp4 := hS4.mp
      have o0 : W4.cell? ⟨g, 0, none⟩ = some (.map (some b4)) := hS4.obj.cell 0
      have z0 : W4.cell? ⟨q4, 0, none⟩ = some (.slice L1 m1 d1) := k4.cell 0
      have z1 : W4.cell? ⟨q4, 1, none⟩ = some (.slice S1 m2 d2) := k4.cell 1
      have hbd : Below W4.heap.size W4 W4.drew := below_drewN (Below.refl _ _) 1
      obtain ⟨es6, clock6, kvs6, hrun6, hs6, hp6⟩ := upd_shape (w := W4.drew) strKey Tryz.underlying96 hmp4 hS4.shape (str_keyed key hksz.out) (.agg #[.slice L1 m1 d1, .slice S1 m2 d2])
      obtain ⟨hS6, hO6⟩ := (hS4.next hbd).set hs6 (hu4.next hbd) hp6
      have hK6 : CellsK W4.drew (setBlock W4.drew b4 (.map es6 clock6)) := CellsK.setBlock (hS4.next hbd).mp
      have hK7 := Lib.hid ((hK.out.trans (CellsK.of hbr4)).trans ((CellsK.of hbd).trans hK6))
      have hO7 := Lib.hid ((hO.out.trans (OutS.ofM hbr4 hbw.out hM.out)).trans ((OutS.of hbd (Nat.le_trans hbw.out hbr4.size) hS4).trans hO6))
      have k6 := hO6.blk (k4.next hbd) (by unfold StKind; decide)
      have e6 : (setBlock W4.drew b4 (.map es6 clock6)).cell? ⟨g, 0, none⟩ = some (.map (some b4)) ∧ (setBlock W4.drew b4 (.map es6 clock6)).cell? ⟨q4, 0, none⟩ = some (.slice L1 m1 d1) ∧ (setBlock W4.drew b4 (.map es6 clock6)).cell? ⟨q4, 1, none⟩ = some (.slice S1 m2 d2) := ⟨hS6.obj.cell 0, k6.cell 0, k6.cell 1⟩
      have hS6 := Lib.hid (show StM (setBlock W4.drew b4 (.map es6 clock6)) base g (dk.take n) n (runN ([], []) (qs.take (j + 1))).1 by rw [hst.out]; exact ⟨_, _, _, _, _, _, _, hS6⟩)
      clear hs6 hp6 hO6 hbd k6 k4 k7 k8 x0 x1 hb4 hb8 hb9 hbr4 hS4 hu4 hmp4 hK6 hW4 hq4
      go_upto_region 12 with fail
      go_region_held3 (fun w' => w'.cell? ⟨g, 0, none⟩ = some (.map (some b4)) ∧ w'.cell? ⟨q4, 0, none⟩ = some (.slice L1 m1 d1) ∧ w'.cell? ⟨q4, 1, none⟩ = some (.slice S1 m2 d2)) (first | exact ⟨o0, z0, z1⟩ | exact e6) (fail)
      all_goals
        go_wp2_with fail
        go_roundw
        case rel => exact ⟨j + 1, by omega, by go_num, hS6, hO7, hK7⟩
        case measure => simp [intOf]; omega
    · obtain rfl : j = m := by omega
      have htk : qs.take j = qs := List.take_of_length_le (by rw [Hqm.out]; exact Nat.le_refl _)
      rw [htk] at hM
      clear htk
      go_wp2_with fail
      go_ret
      exact R1.mk rfl ⟨hM.out, hO.out⟩
end Go.Proofs.YtihjgbhnlejhfaaGreatDoor
namespace Go.Proofs.YtihjgbhnlejhfaaGreatDoor
open Go.RowKit Go.ChangeMaps Go.Maps Go.Sort Go.Shelf
/-- strings, sorted -/
def sortK (ks : List ByteArray) : List ByteArray := (sortS ks).map fun l => ⟨l.toArray⟩
theorem keysS_eq (st : StD) : keysS st = sortK (st.map (·.1)) := rfl
theorem sortK_cells (ks : List ByteArray) : (sortS ks).map encStr = strCs (sortK ks) := by
  unfold sortK strCs
  generalize sortS ks = X
  induction X with
  | nil => rfl
  | cons x X ih => rw [List.map_cons, List.map_cons, List.flatMap_cons, ih]; rfl
theorem sortK_len (ks : List ByteArray) : (sortK ks).length = ks.length := by unfold sortK; rw [List.length_map, sortS_len]
theorem sortK_mem {ks : List ByteArray} {k : ByteArray} : k ∈ sortK ks ↔ k ∈ ks := by
  unfold sortK sortS strL
  constructor
  · intro h
    obtain ⟨l, hl, rfl⟩ := List.mem_map.1 h
    have h2 := (List.mergeSort_perm _ _).mem_iff.1 hl
    obtain ⟨s, hs, rfl⟩ := List.mem_map.1 h2
    simpa using hs
  · intro h
    exact List.mem_map.2 ⟨k.data.toList, (List.mergeSort_perm _ _).mem_iff.2 (List.mem_map.2 ⟨k, h, rfl⟩), by simp⟩
theorem sortK_perm {ks ks' : List ByteArray} (h : ks.Perm ks') : sortK ks = sortK ks' := by
  unfold sortK sortS
  rw [show (strL ks).mergeSort (fun x y => decide (x ≤ y)) = (strL ks').mergeSort (fun x y => decide (x ≤ y)) from mergeSort_of_perm (h.map _)]
theorem sortK_nodup {ks : List ByteArray} (h : ks.Nodup) : (sortK ks).Nodup := by
  unfold sortK sortS strL
  have h1 : ((ks.map fun s : ByteArray => s.data.toList).mergeSort fun x y => decide (x ≤ y)).Nodup := ((List.mergeSort_perm _ _).nodup_iff).2 ((List.pairwise_map.2 (h.imp fun hne e => hne (by
    rename_i a b
    cases a; cases b
    simp only [] at e
    rw [Array.toList_inj.1 e]))))
  exact List.pairwise_map.2 (h1.imp fun hne e => hne (by injection e with e; simpa using congrArg Array.toList e))
/-- sorted keys, in a row of the call's own -/
def KeysA (ks : List ByteArray) (w : World) (v : Value) (w' : World) : Prop :=
  ∃ A n c, v = .slice A n c ∧ ks.length = n ∧ w'.ownsRow w.heap.size 9 1 (.slice A n c) n (strCs (sortK ks)) ∧ Below w.heap.size w w'
end Go.Proofs.YtihjgbhnlejhfaaGreatDoor
namespace Go.Proofs.YtihjgbhnlejhfaaGreatDoor
open Go.RowKit

theorem SerRow.get {w : World} {base : Nat} {es : List (Value × Value)} {l : List Ser} (h : SerRow w base es l) : ∀ {j : Nat}, j < l.length → ∃ u v, (serCs es)[j * 2]? = some u ∧ (serCs es)[j * 2 + 1]? = some v ∧ SerOwn w base (.agg #[u, v]) (at_ l j) := by
  induction h with
  | nil => intro j hj; simp at hj
  | @cons u v y es l h1 _ ih =>
    intro j hj
    cases j with
    | zero => exact ⟨u, v, rfl, rfl, h1⟩
    | succ j =>
      obtain ⟨u', v', e1, e2, h3⟩ := ih (show j < l.length by simp at hj; omega)
      refine ⟨u', v', ?_, ?_, h3⟩
      · show (u :: v :: serCs es)[(j + 1) * 2]? = _
        rw [show (j + 1) * 2 = j * 2 + 1 + 1 by omega, List.getElem?_cons_succ, List.getElem?_cons_succ]
        exact e1
      · show (u :: v :: serCs es)[(j + 1) * 2 + 1]? = _
        rw [show (j + 1) * 2 + 1 = j * 2 + 1 + 1 + 1 by omega, List.getElem?_cons_succ, List.getElem?_cons_succ]
        exact e2
theorem ser_ext {l m : List Ser} (hl : l.length = m.length) (h : ∀ i, i < l.length → at_ l i = at_ m i) : l = m := by
  apply List.ext_getElem hl
  intro i h1 h2
  have := h i h1
  rwa [at_eq h1, at_eq h2] at this
set_option maxRecDepth 1000000 in
set_option maxHeartbeats 4000000 in
theorem sameSer1_any (b1 b2 : Nat) (u v : Value) (y y' : Ser) (w : World) (h : SerOwn w b1 u y) (h' : SerOwn w b2 v y') :
    Calls Tryz.prog 60 #[u, v] w (R1 (.bool (decide (y = y'))) (Below w.heap.size w)) := by
  obtain ⟨A1, n1, c1, A2, n2, c2, rfl, e1, e2, h1, h2⟩ := h
  obtain ⟨B1, m1, d1, B2, m2, d2, rfl, e3, e4, h3, h4⟩ := h'
  obtain ⟨L, S⟩ := y
  obtain ⟨M, T⟩ := y'
  simp only [] at e1 e2 e3 e4 h1 h2 h3 h4
  obtain ⟨W0, hW0⟩ : ∃ W0, (w.alloc (.cells #[.slice A1 n1 c1, .slice A2 n2 c2] 101)).alloc (.cells #[.slice B1 m1 d1, .slice B2 m2 d2] 101) = W0 := ⟨_, rfl⟩
  obtain ⟨q, hq⟩ : ∃ q, w.heap.size = q := ⟨_, rfl⟩
  have hb0 : Below w.heap.size w W0 := by rw [← hW0]; exact (one_allocB _ _).alloc (one_allocB _ _).size _
  have kx : Blk W0 q 101 #[.slice A1 n1 c1, .slice A2 n2 c2] := by rw [← hW0]; exact (Blk.newD _ _ _ _ hq).alloc _
  have ky : Blk W0 (q + 1) 101 #[.slice B1 m1 d1, .slice B2 m2 d2] := by rw [← hW0]; exact Blk.newD _ _ _ _ (by rw [← hq]; exact Array.size_push _)
  obtain ⟨l1, k1⟩ := own_len h1
  obtain ⟨l2, k2⟩ := own_len h2
  obtain ⟨l3, k3⟩ := own_len h3
  obtain ⟨l4, k4⟩ := own_len h4
  have x0 : W0.cell? ⟨q, 0, none⟩ = some (.slice A1 n1 c1) := kx.cell 0
  have x1 : W0.cell? ⟨q, 1, none⟩ = some (.slice A2 n2 c2) := kx.cell 1
  have y0 : W0.cell? ⟨q + 1, 0, none⟩ = some (.slice B1 m1 d1) := ky.cell 0
  have y1 : W0.cell? ⟨q + 1, 1, none⟩ = some (.slice B2 m2 d2) := ky.cell 1
  have HL := Lib.hid (sameLabN_any A1 B1 n1 m1 c1 d1 L M e1 e3 (by omega) (by omega) W0 ((Has.of_own h1).next hb0) ((Has.of_own h3).next hb0))
  have HT := Lib.hid (fun (k : Nat) => same_any A2 B2 n2 m2 c2 d2 S T e2 e4 (by omega) (by omega) (W0.drewN k) (((Has.of_own h2).next hb0).drewN_size k) (((Has.of_own h4).next hb0).drewN_size k))
  have HW0 := Lib.hid hW0
  have Hq := Lib.hid hq
  have hb0 := Lib.hid hb0
  clear h1 h2 h3 h4 e1 e2 e3 e4 hW0 hq kx ky l1 k1 l2 k2 l3 k3 l4 k4
  by_cases hLM : L = M
  · subst hLM
    rw [decide_eq_true rfl] at HL
    have hd : decide ((L, S) = (L, T)) = decide (S = T) := by
      by_cases hS : S = T
      · rw [hS, decide_eq_true rfl, decide_eq_true rfl]
      · rw [decide_eq_false hS, decide_eq_false (fun e => hS (congrArg Prod.snd e))]
    rw [hd]
    obtain ⟨r, hr⟩ : ∃ r, decide (S = T) = r := ⟨_, rfl⟩
    rw [hr] at HT ⊢
    clear hd hr
    go_enter Tryz.func60, Tryz.ntmps60
    go_upto_region 1 with fail
    rw [HW0.out, Hq.out]
    go_wp2_with fail
    refine HL.out.mono ?_
    rintro e w1 ⟨rfl, nd, rfl⟩
    go_wp2_with fail
    refine (HT.out _).mono ?_
    rintro e w2 ⟨rfl, nd2, rfl⟩
    go_wp2_with fail
    go_ret
    exact R1.mk rfl (below_drewN hb0.out _)
  · rw [decide_eq_false hLM] at HL
    rw [decide_eq_false (fun e => hLM (congrArg Prod.fst e))]
    have hLM := Lib.hid hLM
    go_enter Tryz.func60, Tryz.ntmps60
    go_upto_region 1 with fail
    rw [HW0.out, Hq.out]
    go_wp2_with fail
    refine HL.out.mono ?_
    rintro e w1 ⟨rfl, nd, rfl⟩
    go_wp2_with fail
    go_ret
    exact R1.mk rfl (below_drewN hb0.out _)
set_option maxRecDepth 1000000 in
set_option maxHeartbeats 4000000 in
theorem equalSer_any (A B : Option Addr) (n m c d : Nat) (l k : List Ser) (es ks : List (Value × Value)) (b1 b2 : Nat) (hn : l.length = n) (hm : k.length = m) (hl : n ≤ maxLen) (hk : m ≤ maxLen) (w : World) (h : Has w w.heap.size A (serCs es)) (hr : SerRow w b1 es l) (h' : Has w w.heap.size B (serCs ks)) (hr' : SerRow w b2 ks k) :
    Calls Tryz.prog 59 #[.slice A n c, .slice B m d, Value.func (Fn.func 60) #[] #[]] w (R1 (.bool (decide (l = k))) (Below w.heap.size w)) := by
  unfold maxLen at hl hk
  by_cases hnm : n = m
  · subst hnm
    have hr := Lib.hid hr
    have hr' := Lib.hid hr'
    have h := Lib.hid h
    have h' := Lib.hid h'
    have Hn := Lib.hid hn
    have Hm := Lib.hid hm
    clear hn hm
    go_enter Tryz.func59, Tryz.ntmps59
    go_wp2_with fail
    go_loopw [17] (fun i wr => ∃ j : Nat, j ≤ n ∧ i = .int .i64 (j : Nat) ∧ Hid (∀ q, q < j → at_ l q = at_ k q) ∧ Below w.heap.size w wr) (fun i _ => n + 5 - (intOf i).toNat)
    case atStart => exact ⟨0, by omega, rfl, Lib.hid (fun q hq => by omega), Below.refl _ _⟩
    case round =>
      obtain ⟨j, hj, rfl, heq, hbr⟩ := hrel
      by_cases hlt : (j : Int) < (n : Int)
      · obtain ⟨u0, u1, hu0, hu1, hs⟩ := hr.out.get (show j < l.length by rw [Hn.out]; omega)
        obtain ⟨v0, v1, hv0, hv1, hs'⟩ := hr'.out.get (show j < k.length by rw [Hm.out]; omega)
        obtain ⟨ad, rfl, hbk, c0⟩ := (h.out.next hbr).at hu0
        obtain ⟨ad', e', _, c1⟩ := (h.out.next hbr).at hu1
        injection e' with e'
        subst e'
        obtain ⟨bd, rfl, hbk', d0⟩ := (h'.out.next hbr).at hv0
        obtain ⟨bd', e', _, d1⟩ := (h'.out.next hbr).at hv1
        injection e' with e'
        subst e'
        have c1 := cell_off c1 (by decide)
        have d1 := cell_off d1 (by decide)
        obtain ⟨y, hy⟩ : ∃ y, at_ l j = y := ⟨_, rfl⟩
        obtain ⟨z, hz⟩ : ∃ z, at_ k j = z := ⟨_, rfl⟩
        rw [hy] at hs
        rw [hz] at hs'
        have HY := Lib.hid hy
        have HZ := Lib.hid hz
        obtain ⟨A1, n1, p1, A2, n2, p2, e5, _⟩ := id hs
        obtain ⟨B1, m1, r1, B2, m2, r2, e6, _⟩ := id hs'
        simp at e5 e6
        obtain ⟨rfl, rfl⟩ := e5
        obtain ⟨rfl, rfl⟩ := e6
        have hs := Lib.hid (hs.next hbr)
        have hs' := Lib.hid (hs'.next hbr)
        have q1 : (0 : Int) ≤ (j : Int) := by omega
        clear hy hz hu0 hu1 hv0 hv1
        have hbd : (bd.add (j * 2)).block < wr.heap.size := by rw [add_block]; exact Nat.lt_of_lt_of_le hbk' (Nat.le_refl _)
        go_upto_region 6 with fail
        obtain ⟨W6, hW6⟩ : ∃ W6, wr.alloc (.cells #[.slice A1 n1 p1, .slice A2 n2 p2] 101) = W6 := ⟨_, rfl⟩
        obtain ⟨q6, hq6⟩ : ∃ q6, wr.heap.size = q6 := ⟨_, rfl⟩
        have hb6 : Below wr.heap.size wr W6 := by rw [← hW6]; exact one_allocB _ _
        have k6 : Blk W6 q6 101 #[.slice A1 n1 p1, .slice A2 n2 p2] := by rw [← hW6]; exact Blk.newD _ _ _ _ hq6
        have d06 : W6.cell? (bd.add (j * 2)) = some (.slice B1 m1 r1) := (hb6.cell hbd).trans d0
        have d16 : W6.cell? ⟨(bd.add (j * 2)).block, (bd.add (j * 2)).off + 1, none⟩ = some (.slice B2 m2 r2) := (hb6.cell (p := ⟨(bd.add (j * 2)).block, (bd.add (j * 2)).off + 1, none⟩) hbd).trans d1
        rw [hW6, hq6]
        clear hW6 c0 c1 d0 d1
        go_upto_region 7 with fail
        obtain ⟨W7, hW7⟩ : ∃ W7, W6.alloc (.cells #[.slice B1 m1 r1, .slice B2 m2 r2] 101) = W7 := ⟨_, rfl⟩
        obtain ⟨q7, hq7⟩ : ∃ q7, W6.heap.size = q7 := ⟨_, rfl⟩
        have hb7 : Below W6.heap.size W6 W7 := by rw [← hW7]; exact one_allocB _ _
        have k7 : Blk W7 q7 101 #[.slice B1 m1 r1, .slice B2 m2 r2] := by rw [← hW7]; exact Blk.newD _ _ _ _ hq7
        have k67 := k6.next hb7
        have hb67 := bnext hb6 hb7
        rw [hW7, hq7]
        have x0 : W7.cell? ⟨q6, 0, none⟩ = some (.slice A1 n1 p1) := k67.cell 0
        have x1 : W7.cell? ⟨q6, 1, none⟩ = some (.slice A2 n2 p2) := k67.cell 1
        have y0 : W7.cell? ⟨q7, 0, none⟩ = some (.slice B1 m1 r1) := k7.cell 0
        have y1 : W7.cell? ⟨q7, 1, none⟩ = some (.slice B2 m2 r2) := k7.cell 1
        have HQ := Lib.hid (sameSer1_any b1 b2 _ _ y z W7 (hs.out.next hb67) (hs'.out.next hb67))
        have hbr7 := Lib.hid (bnext hbr hb67)
        clear hW7 hq7 d06 d16 k6 k67 k7 hb6 hb7 hb67 hbd hq6
        by_cases e : y = z
        · rw [decide_eq_true e] at HQ
          have E := Lib.hid e; clear e
          go_wp2_with fail
          refine HQ.out.mono ?_
          rintro e w8 ⟨rfl, hb8⟩
          have hbr8 := bnext hbr7.out hb8
          go_wp2_with fail
          go_roundw
          case rel => exact ⟨j + 1, by omega, by go_num, Lib.hid (fun q hq => by rcases Nat.lt_or_ge q j with h1 | h1; exact heq.out q h1; rw [show q = j by omega, HY.out, HZ.out]; exact E.out), hbr8⟩
          case measure => simp [intOf]; omega
        · rw [decide_eq_false e] at HQ
          have E := Lib.hid e; clear e
          go_wp2_with fail
          refine HQ.out.mono ?_
          rintro e w8 ⟨rfl, hb8⟩
          have hbr8 := bnext hbr7.out hb8
          go_wp2_with fail
          go_ret
          exact R1.mk (bool_eq (by rw [eq_comm, decide_eq_false_iff_not]; intro h1; exact E.out (by rw [← HY.out, ← HZ.out, h1]))) hbr8
      · go_wp2_with fail
        go_ret
        exact R1.mk (bool_eq (by rw [eq_comm, decide_eq_true_iff]; exact ser_ext (by rw [Hn.out, Hm.out]) (fun i hi => heq.out i (by rw [Hn.out] at hi; omega)))) hbr
  · have f0 : ((n : Int) != (m : Int)) = true := by rw [bne_iff_ne]; omega
    have E := Lib.hid hnm; clear hnm
    go_enter Tryz.func59, Tryz.ntmps59
    go_wp2_with fail
    go_ret
    exact R1.mk (bool_eq (by rw [eq_comm, decide_eq_false_iff_not]; intro h1; exact E.out (by rw [← hn, ← hm, h1]))) (Below.refl _ _)
set_option maxRecDepth 1000000 in
theorem sameSer_any (A B : Option Addr) (n m c d : Nat) (l k : List Ser) (es ks : List (Value × Value)) (b1 b2 : Nat) (hn : l.length = n) (hm : k.length = m) (hl : n ≤ maxLen) (hk : m ≤ maxLen) (w : World) (h : Has w w.heap.size A (serCs es)) (hr : SerRow w b1 es l) (h' : Has w w.heap.size B (serCs ks)) (hr' : SerRow w b2 ks k) :
    Calls Tryz.prog 30 #[.slice A n c, .slice B m d] w (R1 (.bool (decide (l = k))) (Below w.heap.size w)) := by
  go_enter Tryz.func30, Tryz.ntmps30
  go_wp2_with fail
  refine (equalSer_any A B n m c d l k es ks b1 b2 hn hm hl hk _ (by exact h) (by exact hr) (by exact h') (by exact hr')).mono ?_
  rintro e w1 ⟨rfl, hb1⟩
  go_wp2_with fail
  go_ret
  exact R1.mk rfl hb1
end Go.Proofs.YtihjgbhnlejhfaaGreatDoor
namespace Go.Proofs.YtihjgbhnlejhfaaGreatDoor
open Go.RowKit Go.ChangeMaps Go.Maps Go.Sort Go.Shelf

theorem keysY_any (mb : Option Nat) (w : World) : Calls Tryz.prog 93 #[.map mb] w (R1 (.func (.func 114) #[] #[.pointer (some ⟨w.heap.size, 0, none⟩)]) (fun w' => w' = w.alloc (.cells #[.map mb] 150))) :=
  callsIn_wide.1 (AnyZ.keys_in Tryz.keysY Fence.wide 5 trivial rfl mb w)
set_option maxHeartbeats 1000000 in
theorem sortedY0_any {H : Type} (b nn : Nat) (D0 : DataW H) (R : Value → Option (DataW H × List MemPlace)) (w : World) (hown : w.ownsMap Tryz.prog 9 R b nn D0) (hmax : Maps.size D0 ≤ maxLen) (hbytes : Maps.size D0 * 16 ≤ 140737488355328) :
    Calls Tryz.prog 54 #[.func (.func 114) #[] #[.pointer (some ⟨w.heap.size, 0, none⟩)]] (w.alloc (.cells #[.map (some b)] 150)) fun e w' => ∃ (v : Value) (ss : List (List UInt8)), e = .returned v ∧ ss.Perm (strKeys D0) ∧
      w'.ownsRow (w.alloc (.cells #[.map (some b)] 150)).heap.size 9 1 v ss.length ((ss.mergeSort (fun x y => decide (x ≤ y))).map encStr) ∧ (v = .slice none 0 0 ↔ ss = []) ∧ Below (w.alloc (.cells #[.map (some b)] 150)).heap.size (w.alloc (.cells #[.map (some b)] 150)) w' := by
  have hbl := hown.lt
  have hseq : SeqGives Fence.wide 2 Tryz.prog 114 #[.pointer (some ⟨w.heap.size, 0, none⟩)] encStr (fun ss => ss.Perm (strKeys D0)) (Maps.size D0) (w.alloc (.cells #[.map (some b)] 150)) :=
    AnyZ.keys_gives (ρ := Tryz.keysY_ren) { Tryz.keysY with } Fence.wide _ trivial rfl (by omega) w.heap.size b nn D0 _ (by simp) (by simp) (by
      obtain ⟨es, clock, hb, Ft, hs, hD⟩ := hown
      exact ⟨es, clock, (Below.heap_alloc _ _ b hbl).trans hb, Ft, hs, hD⟩)
  exact callsIn_wide.1 (AnyZ.sorted_in Tryz.sortedZ Fence.wide 5 trivial trivial trivial trivial rfl (by omega) (sortsZ _) (enters_of Tryz.func84 (by kernel_rfl) rfl) 114 #[.pointer (some ⟨w.heap.size, 0, none⟩)] trivial (enters_of Tryz.func114 (by kernel_rfl) rfl) _ _ hmax hbytes _ hseq)
set_option maxRecDepth 100000 in
theorem sortedY_any {w : World} {b : Nat} {es : Array MapEntry} {clock : Nat} {kvs : List (Value × Value)} {ks : List ByteArray} (hb : w.heap[b]? = some (.map es clock)) (S : MpS Tryz.prog 9 es clock kvs) (hk : kvs.map (·.1) = ks.map Value.string) (hl : ks.length < 1000) :
    Calls Tryz.prog 54 #[.func (.func 114) #[] #[.pointer (some ⟨w.heap.size, 0, none⟩)]] (w.alloc (.cells #[.map (some b)] 150)) (RV (KeysA ks (w.alloc (.cells #[.map (some b)] 150)))) := by
  have hes : es.size = ks.length := by
    have h1 := congrArg List.length hk
    rw [← S.pairs, List.length_map, List.length_map, List.length_map, Array.length_toList] at h1
    exact h1
  have hF := S.fit (by unfold maxLen; omega)
  have hsz : ((es.toList.map (WideElems.rg (H := Unit) Tryz.prog 9 (fun _ => some (.nil, [])))).foldr DataW.insert []).length = es.size := length_read es
  refine (sortedY0_any (H := Unit) b es.size _ _ w ⟨es, clock, hb, hF, Nat.le_refl _, rfl⟩ (by show List.length _ ≤ _; rw [hsz]; unfold maxLen; omega) (by show List.length _ * 16 ≤ _; rw [hsz]; omega)).mono ?_
  rintro e w' ⟨v, ss, rfl, hp, ho, hv, hb2⟩
  have hkeys : ss.Perm (strL ks) := by
    refine hp.trans ?_
    show (List.map _ _).Perm _
    refine ((WideShapes.sorted_perm _).map _).trans ?_
    rw [List.map_map]
    have e1 : strL ks = es.toList.map (fun e => (match e.key with | .string s => s.data.toList | _ => [])) := by
      have h1 : es.toList.map (·.key) = ks.map Value.string := by
        rw [← hk, ← S.pairs, List.map_map]; rfl
      have h2 := congrArg (List.map (fun v : Value => (match v with | .string s => s.data.toList | _ => []))) h1
      rw [List.map_map, List.map_map] at h2
      unfold strL
      exact h2.symm
    rw [e1]
    refine List.Perm.of_eq (List.map_congr_left fun x hx => ?_)
    obtain ⟨y, hy⟩ := hF.reads x hx
    have hkk := WideElems.rd_key hy
    obtain ⟨s, hs, hs2, _⟩ := Maps.keyOf_str Tryz.underlying9 hkk
    show strOf (WideElems.rg _ _ _ x).1 = _
    unfold WideElems.rg
    rw [hy, hs]
    show strOf y.1 = _
    rw [hs2]
    simp [strOf]
  have hss : ss.mergeSort (fun x y => decide (x ≤ y)) = sortS ks := mergeSort_of_perm hkeys
  have hlen : ss.length = ks.length := by rw [hkeys.length_eq]; unfold strL; rw [List.length_map]
  rw [hss, sortK_cells] at ho
  obtain ⟨A5, c5, e5, _⟩ := own_form ho
  rw [e5] at ho
  exact ⟨_, rfl, A5, ss.length, c5, e5, hlen.symm, ho, hb2⟩
end Go.Proofs.YtihjgbhnlejhfaaGreatDoor
