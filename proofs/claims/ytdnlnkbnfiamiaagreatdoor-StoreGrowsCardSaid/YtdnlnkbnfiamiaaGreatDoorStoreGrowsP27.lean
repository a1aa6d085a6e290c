/- Texts of the proof of StoreGrows, joined (by merge.py). Conditions: each theorem's own hypotheses. -/
import Derived.Test.YtdnlnkbnfiamiaaGreatDoorStoreGrowsP11
import Derived.Test.YtdnlnkbnfiamiaaGreatDoorStoreGrowsP14
import Derived.Test.YtdnlnkbnfiamiaaGreatDoorStoreGrowsP17
import Derived.Test.YtdnlnkbnfiamiaaGreatDoorStoreGrowsP20
import Derived.Test.YtdnlnkbnfiamiaaGreatDoorStoreGrowsP23
import Derived.Test.YtdnlnkbnfiamiaaGreatDoorStoreGrowsP24
import Derived.Test.YtdnlnkbnfiamiaaGreatDoorStoreGrowsP26
import Derived.Deep.CutRange
namespace Go.Proofs.YtdnlnkbnfiamiaaGreatDoor
open Go.RowKit Go.ChangeMaps Go.Maps Go.Sort Go.Shelf

theorem keysZ_any (mb : Option Nat) (w : World) : Calls Tryz.prog 29 #[.map mb] w (R1 (.func (.func 56) #[] #[.pointer (some ⟨w.heap.size, 0, none⟩)]) (fun w' => w' = w.alloc (.cells #[.map mb] 67))) :=
  callsIn_wide.1 (AnyZ.keys_in Tryz.keysZ Fence.wide 5 trivial rfl mb w)
theorem sortsZ (m : Nat) : AnyZ.SortsIn Tryz.prog Tryz.sortedZ_ren Fence.wide m :=
  ⟨fun blk off cap ss W hH hblk hsz => callsIn_wide.2 (AnyM.slices_Sort_string Tryz.sortZ blk off cap ss W hH hblk hsz),
   fun p cap W => callsIn_wide.2 (AnyM.slices_Sort_string_none Tryz.sortZ p cap W)⟩
set_option maxHeartbeats 1000000 in
theorem sortedZ_any {H : Type} (b nn : Nat) (D0 : DataW H) (R : Value → Option (DataW H × List MemPlace)) (w : World) (hown : w.ownsMap Tryz.prog 9 R b nn D0) (hmax : Maps.size D0 ≤ maxLen) (hbytes : Maps.size D0 * 16 ≤ 140737488355328) :
    Calls Tryz.prog 28 #[.func (.func 56) #[] #[.pointer (some ⟨w.heap.size, 0, none⟩)]] (w.alloc (.cells #[.map (some b)] 67)) fun e w' => ∃ (v : Value) (ss : List (List UInt8)), e = .returned v ∧ ss.Perm (strKeys D0) ∧
      w'.ownsRow (w.alloc (.cells #[.map (some b)] 67)).heap.size 9 1 v ss.length ((ss.mergeSort (fun x y => decide (x ≤ y))).map encStr) ∧ (v = .slice none 0 0 ↔ ss = []) ∧ Below (w.alloc (.cells #[.map (some b)] 67)).heap.size (w.alloc (.cells #[.map (some b)] 67)) w' := by
  have hbl := hown.lt
  have hseq : SeqGives Fence.wide 2 Tryz.prog 56 #[.pointer (some ⟨w.heap.size, 0, none⟩)] encStr (fun ss => ss.Perm (strKeys D0)) (Maps.size D0) (w.alloc (.cells #[.map (some b)] 67)) :=
    AnyZ.keys_gives (ρ := Tryz.keysZ_ren) { Tryz.keysZ with } Fence.wide _ trivial rfl (by omega) w.heap.size b nn D0 _ (by simp) (by simp) (by
      obtain ⟨es, clock, hb, Ft, hs, hD⟩ := hown
      exact ⟨es, clock, (Below.heap_alloc _ _ b hbl).trans hb, Ft, hs, hD⟩)
  exact callsIn_wide.1 (AnyZ.sorted_in Tryz.sortedZ Fence.wide 5 trivial trivial trivial trivial rfl (by omega) (sortsZ _) (enters_of Tryz.func55 (by kernel_rfl) rfl) 56 #[.pointer (some ⟨w.heap.size, 0, none⟩)] trivial (enters_of Tryz.func56 (by kernel_rfl) rfl) _ _ hmax hbytes _ hseq)
/-- the keys, sorted -/
def keysS (st : StD) : List ByteArray := (sortS (st.map (·.1))).map fun l => ⟨l.toArray⟩
theorem keysS_cells (st : StD) : (sortS (st.map (·.1))).map encStr = strCs (keysS st) := by
  unfold keysS strCs
  generalize sortS (st.map (·.1)) = X
  induction X with
  | nil => rfl
  | cons x X ih => rw [List.map_cons, List.map_cons, List.flatMap_cons, ih]; rfl
theorem keysS_len (st : StD) : (keysS st).length = st.length := by unfold keysS; rw [List.length_map, sortS_len, List.length_map]
def KeysP (st : StD) (w : World) (v : Value) (w' : World) : Prop :=
  ∃ A n c, v = .slice A n c ∧ st.length = n ∧ w'.ownsRow w.heap.size 9 1 (.slice A n c) n (strCs (keysS st)) ∧ Below w.heap.size w w'
set_option maxRecDepth 100000 in
theorem sortedK_any {w : World} {base g b dg : Nat} {A : Option Addr} {c : Nat} {es : Array MapEntry} {clock : Nat} {kvs : List (Value × Value)} {dk : List Nat} {sf : Int} {st : StD} (h : StAt w base g b dg A c es clock kvs dk sf st) (hl : st.length < 200) :
    Calls Tryz.prog 28 #[.func (.func 56) #[] #[.pointer (some ⟨w.heap.size, 0, none⟩)]] (w.alloc (.cells #[.map (some b)] 67)) (RV (KeysP st (w.alloc (.cells #[.map (some b)] 67)))) := by
  have hes := h.size
  have hF := h.shape.fit (by unfold maxLen; omega)
  have hsz : ((es.toList.map (WideElems.rg (H := Unit) Tryz.prog 9 (fun _ => some (.nil, [])))).foldr DataW.insert []).length = es.size := length_read es
  refine (sortedZ_any (H := Unit) b es.size _ _ w ⟨es, clock, h.mp, hF, Nat.le_refl _, rfl⟩ (by show List.length _ ≤ _; rw [hsz]; unfold maxLen; omega) (by show List.length _ * 16 ≤ _; rw [hsz]; omega)).mono ?_
  rintro e w' ⟨v, ss, rfl, hp, ho, hv, hb⟩
  have hkeys : ss.Perm (strL (st.map (·.1))) := by
    refine hp.trans ?_
    show (List.map _ _).Perm _
    refine ((WideShapes.sorted_perm _).map _).trans ?_
    rw [List.map_map]
    have e1 : strL (st.map (·.1)) = es.toList.map (fun e => match e.key with | .string s => s.data.toList | _ => []) := by
      have h1 : es.toList.map (·.key) = st.map (fun p => Value.string p.1) := by
        rw [← h.rows.keys, ← h.shape.pairs, List.map_map]; rfl
      have h2 := congrArg (List.map (fun v : Value => match v with | .string s => s.data.toList | _ => [])) h1
      rw [List.map_map, List.map_map] at h2
      unfold strL
      rw [List.map_map]
      exact h2.symm
    rw [e1]
    refine List.Perm.of_eq (List.map_congr_left fun x hx => ?_)
    obtain ⟨y, hy⟩ := hF.reads x hx
    have hk := WideElems.rd_key hy
    obtain ⟨s, hs, hs2, _⟩ := Maps.keyOf_str Tryz.underlying9 hk
    show strOf (WideElems.rg _ _ _ x).1 = _
    unfold WideElems.rg
    rw [hy, hs]
    show strOf y.1 = _
    rw [hs2]
    simp [strOf]
  have hss : ss.mergeSort (fun x y => decide (x ≤ y)) = sortS (st.map (·.1)) := mergeSort_of_perm hkeys
  have hlen : ss.length = st.length := by rw [hkeys.length_eq]; unfold strL; rw [List.length_map, List.length_map]
  rw [hss, keysS_cells] at ho
  obtain ⟨A5, c5, e5, _⟩ := own_form ho
  rw [e5] at ho
  exact ⟨_, rfl, A5, ss.length, c5, e5, hlen.symm, ho, hb⟩
end Go.Proofs.YtdnlnkbnfiamiaaGreatDoor
namespace Go.Proofs.YtdnlnkbnfiamiaaGreatDoor
open Go.RowKit Go.ChangeMaps

/-- rows of series -/
def serCs (es : List (Value × Value)) : List Value := es.flatMap fun p => [p.1, p.2]
theorem serCs_len (es : List (Value × Value)) : (serCs es).length = es.length * 2 := flat_len (f := fun p : Value × Value => [p.1, p.2]) (C := 2) (fun _ => rfl) es
inductive SerRow (w : World) (base : Nat) : List (Value × Value) → List Ser → Prop
  | nil : SerRow w base [] []
  | cons {u v : Value} {y : Ser} {es : List (Value × Value)} {l : List Ser} : SerOwn w base (.agg #[u, v]) y → SerRow w base es l → SerRow w base ((u, v) :: es) (y :: l)
theorem SerRow.keep {w w' : World} {base : Nat} {es : List (Value × Value)} {l : List Ser} (h : SerRow w base es l) (hk : ∀ v y, SerOwn w base v y → SerOwn w' base v y) : SerRow w' base es l := by
  induction h with
  | nil => exact .nil
  | cons h1 _ ih => exact .cons (hk _ _ h1) ih
theorem SerRow.next {w w' : World} {base : Nat} {es : List (Value × Value)} {l : List Ser} (h : SerRow w base es l) (hb : Below w.heap.size w w') : SerRow w' base es l := h.keep fun _ _ k => k.next hb
theorem SerRow.len {w : World} {base : Nat} {es : List (Value × Value)} {l : List Ser} (h : SerRow w base es l) : es.length = l.length := by
  induction h with
  | nil => rfl
  | cons _ _ ih => simp [ih]
theorem SerRow.snoc {w : World} {base : Nat} {es : List (Value × Value)} {l : List Ser} {u v : Value} {y : Ser} (h : SerRow w base es l) (h1 : SerOwn w base (.agg #[u, v]) y) : SerRow w base (es ++ [(u, v)]) (l ++ [y]) := by
  induction h with
  | nil => exact .cons h1 .nil
  | cons h2 _ ih => exact .cons h2 ih
theorem SerRow.less {w : World} {base b2 : Nat} {es : List (Value × Value)} {l : List Ser} (h : SerRow w base es l) (hb : b2 ≤ base) : SerRow w b2 es l := by
  induction h with
  | nil => exact .nil
  | cons h1 _ ih => exact .cons (h1.less hb) ih
/-- all series -/
def serAt (st : StD) (k : ByteArray) : Ser := (findSt st k).getD ([], [])
def allN (st : StD) : List Ser := (keysS st).map (serAt st)
theorem allN_len (st : StD) : (allN st).length = st.length := by unfold allN; rw [List.length_map, keysS_len]
def AllP (l : List Ser) (w : World) (v : Value) (w' : World) : Prop :=
  ∃ A n c es, v = .slice A n c ∧ l.length = n ∧ w'.ownsRow w.heap.size 42 2 (.slice A n c) n (serCs es) ∧ SerRow w' w.heap.size es l ∧ Below w.heap.size w w'
theorem elSer : Elem Tryz.prog 32 42 2 48 := Elem.mk' (z := .agg #[.slice none 0 0, .slice none 0 0]) Tryz.underlying32 (by kernel_rfl) rfl (by decide)
theorem strCs_atS {l : List ByteArray} {k : Nat} {x : ByteArray} (h : l[k]? = some x) : (strCs l)[k]? = some (.string x) := by
  have e : strCs l = l.map Value.string := by
    unfold strCs
    induction l with
    | nil => rfl
    | cons x l ih => rw [List.flatMap_cons, List.map_cons]; simp [strC]; clear ih h; induction l with
      | nil => rfl
      | cons y l ih => rw [List.flatMap_cons, List.map_cons, ih]; rfl
  rw [e, List.getElem?_map, h]
  rfl
theorem step_append1s {P : Program} {w : World} {ops : Array Oper} {o : Oper} {a : Act} {K : Act → World → Prop} {Q : Exit → Act → World → Prop} {F : Prop} (hgd : o.guard = none) (s x : Operand) (t : TypeId)
    (ho : o.op = .call { callee := .builtin .append, args := #[s, x], argTypes := #[t, t] })
    {base size bytes : Nat} {e : TypeId} (E : Elem P t e size bytes) {v : Value} {n : Nat} {xs : List Value} (hown : w.ownsRow base e size v n xs) (hs : a.eval s = v)
    {B c : Nat} (hx : a.eval x = .slice (some ⟨B, 0, none⟩) 1 c) {cs : Array Value} {e' : TypeId} {fr : Nat × Nat} (hb : w.heap[B]? = some (.cells cs e' fr)) (hl : cs.size = size)
    (h1 : ∀ u ∈ cs.toList, u.oneCell' = true) (hmax : (n + 1) * bytes ≤ 140737488355328) (h63 : n + 1 ≤ maxLen) (hbase : base ≤ w.heap.size)
    (h : ∀ g c' w', w'.ownsRow base e size (.slice (some ⟨g, 0, none⟩) (n + 1) c') (n + 1) (xs ++ cs.toList) → w.grownBy w' v.ownBlock → Below base w w' → K (a.put o.dst (.slice (some ⟨g, 0, none⟩) (n + 1) c')) w') :
    if Region.wanted o (yielded ops a.tmps) = true then Oper.wp P o a w K Q else F := by
  obtain ⟨ht, ⟨i, z, hi, hz, hsize, hby, hzs⟩, hsz⟩ := E
  exact step_append_lies (w := w) hgd s x t ho base e i z size bytes ht hi hz hsize hby hzs hsz v n xs hs hown ⟨B, 0, none⟩ 1 c cs.toList hx (by simpa using hl) (World.news_of_block hb) h1 (by omega) h63 hmax hbase w.heap.size rfl
    (fun g cap w' k1 k2 _ _ => h _ _ _ k1 k2 (grown_below hown k2 hbase))
theorem SerOwn.zero (w : World) (base : Nat) : SerOwn w base (.agg #[.slice none 0 0, .slice none 0 0]) ([], []) := ⟨none, 0, 0, none, 0, 0, rfl, rfl, rfl, World.ownsRow_nil _ _ _ _, World.ownsRow_nil _ _ _ _⟩
theorem ser_look {w : World} {base g b dg : Nat} {A : Option Addr} {c : Nat} {es : Array MapEntry} {clock : Nat} {kvs : List (Value × Value)} {dk : List Nat} {sf : Int} {st : StD} (h : StAt w base g b dg A c es clock kvs dk sf st) (hok : StOk st) (key : ByteArray) (hk : key.size ≤ maxLen) :
    ∃ A1 n1 c1 A2 n2 c2, (Instr.lookup 67 (.map (some b)) (.string key) false).run Tryz.prog w = .ok (.agg #[.slice A1 n1 c1, .slice A2 n2 c2]) w ∧ (serAt st key).1.length = n1 ∧ (serAt st key).2.length = n2 ∧ n1 ≤ 10 ∧ n2 ≤ 1000 ∧ w.ownsRow base 73 2 (.slice A1 n1 c1) n1 (labCs (serAt st key).1) ∧ w.ownsRow base 27 2 (.slice A2 n2 c2) n2 (smpCs (serAt st key).2) := by
  have hl := MpS.look strKey Tryz.underlying67 (z := .agg #[.slice none 0 0, .slice none 0 0]) (fun u => by kernel_rfl) h.mp h.shape (str_keyed key hk) false
  simp only [Bool.false_eq_true, if_false] at hl
  rcases hl with ⟨hno, hr⟩ | ⟨v0, hm, hr⟩
  · have e : serAt st key = ([], []) := by unfold serAt; rw [find_none (h.rows.none hno)]; rfl
    rw [e]
    exact ⟨none, 0, 0, none, 0, 0, hr, rfl, rfl, by omega, by omega, World.ownsRow_nil _ _ _ _, World.ownsRow_nil _ _ _ _⟩
  · obtain ⟨y, hy, A1, n1, c1, A2, n2, c2, rfl, h1, h2, h3, h4⟩ := h.rows.mem hm
    have e : serAt st key = y := by unfold serAt; rw [find_of_mem h.keysNodup hy]; rfl
    obtain ⟨_, k2, k3, _⟩ := hok.2 _ hy
    rw [e]
    exact ⟨A1, n1, c1, A2, n2, c2, hr, h1, h2, by rw [← h1]; exact k3, by rw [← h2]; exact Nat.le_of_lt k2, h3, h4⟩
theorem keysS_mem {st : StD} {k : ByteArray} (h : k ∈ keysS st) : k ∈ st.map (·.1) := by
  unfold keysS at h
  obtain ⟨l, hl, rfl⟩ := List.mem_map.1 h
  unfold sortS strL at hl
  have h2 := (List.mergeSort_perm _ _).mem_iff.1 hl
  obtain ⟨s, hs, rfl⟩ := List.mem_map.1 h2
  simpa using hs
/-- keys of a store are of a string's size -/
def KeyOk (st : StD) : Prop := ∀ p ∈ st, p.1.size ≤ maxLen
end Go.Proofs.YtdnlnkbnfiamiaaGreatDoor
namespace Go.Proofs.YtdnlnkbnfiamiaaGreatDoor
open Go.RowKit Go.ChangeMaps

theorem below_drewT {B : Nat} {a w : World} (h : Below B a w) : Below B a w.drew := below_drewN h 1
theorem below_allocT {B : Nat} {a w : World} (h : Below B a w) (hB : B ≤ w.heap.size) (o : Obj) : Below B a (w.alloc o) := h.alloc hB o
theorem below_allocU {a w : World} (h : Below a.heap.size a w) (o : Obj) : Below a.heap.size a (w.alloc o) := h.alloc h.size o
theorem keepTA {w W : World} {g : Nat} {t : TypeId} {x y : Value} (hk : Blk w g t #[x, y]) (hb : Below w.heap.size w W) : W.cell? ⟨g, 0, none⟩ = some x ∧ W.cell? ⟨g, 1, none⟩ = some y := ⟨(hk.next hb).cell 0, (hk.next hb).cell 1⟩
theorem own_nil {w : World} {base size n c : Nat} {e : TypeId} {xs : List Value} (h : w.ownsRow base e size (.slice none n c) n xs) : n = 0 ∧ c = 0 := by
  rcases h.2 with ⟨e, h2⟩ | ⟨g, cap, cur, e, _⟩
  · injection e with _ _ e3
    exact ⟨h2, e3⟩
  · injection e with e1
    cases e1
theorem SerOwn.grown {w w' : World} {base b2 size n : Nat} {v v' : Value} {y : Ser} {xs : List Value} (h : SerOwn w base v y) (ho : w.ownsRow b2 42 size v' n xs) (hg : w.grownBy w' v'.ownBlock) : SerOwn w' base v y := by
  obtain ⟨A, n, c, A', n', c', h1, h2, h3, h4, h5⟩ := h
  exact ⟨A, n, c, A', n', c', h1, h2, h3, own_keep h4 hg (own_apart h4 ho (by decide)), own_keep h5 hg (own_apart h5 ho (by decide))⟩
set_option maxRecDepth 1000000 in
set_option maxHeartbeats 8000000 in
theorem all_any (base g : Nat) (dk : List Nat) (sf : Int) (st : StD) (hok : StOk st) (hkeys : KeyOk st) (w : World) (hS : StM w base g dk sf st) :
    Calls Tryz.prog 12 #[.pointer (some ⟨g, 0, none⟩)] w (RV (AllP (allN st) w)) := by
  obtain ⟨b, dg, DA, dc, es, clock, kvs, hS⟩ := hS
  have hbe : Below w.heap.size w (w.alloc (.cells #[.map (some b)] 67)) := one_allocB _ _
  have hKs := Lib.hid (sortedK_any hS hok.1)
  have o0 : w.cell? ⟨g, 0, none⟩ = some (.map (some b)) := hS.obj.cell 0
  have Hok := Lib.hid hok
  have Hkeys := Lib.hid hkeys
  have HS := Lib.hid hS
  clear hS hok hkeys
  go_enter Tryz.func12, Tryz.ntmps12
  go_wp2_with fail
  refine (keysZ_any _ _).mono ?_
  rintro e w1 ⟨rfl, rfl⟩
  go_wp2_with fail
  refine hKs.out.mono ?_
  rintro e w1 ⟨v, rfl, KA, m, kc, rfl, hm, hoK, hb1⟩
  have hb01 := Lib.hid (bnext hbe hb1)
  have Hm := Lib.hid hm
  have hHK := Lib.hid (Has.of_own hoK)
  have hoK := Lib.hid hoK
  clear hm hb1 hbe o0
  have hm200 : m < 200 := by rw [← Hm.out]; exact Hok.out.1
  go_wp2_with fail
  go_loopw [14, 3] (fun i out wr => ∃ (j : Nat) (A3 : Option Addr) (c3 : Nat) (es3 : List (Value × Value)), j ≤ m ∧ i = .int .i64 (j : Nat) ∧ out = .slice A3 j c3 ∧ Hid (wr.ownsRow w1.heap.size 42 2 (.slice A3 j c3) j (serCs es3)) ∧ Hid (SerRow wr w1.heap.size es3 ((allN st).take j)) ∧ Hid (Below w1.heap.size w1 wr)) (fun i _ _ => m - (intOf i).toNat)
  case atStart => exact ⟨0, none, 0, [], by omega, rfl, rfl, Lib.hid (World.ownsRow_nil _ _ _ _), Lib.hid (by rw [List.take_zero]; exact .nil), Lib.hid (Below.refl _ _)⟩
  case round =>
    obtain ⟨j, A3, c3, es3, hj, rfl, rfl, hoR, hR, hbr⟩ := hrel
    have hbwr := Lib.hid (bnext hb01.out hbr.out)
    by_cases hjm : j < m
    · have hkl : j < (keysS st).length := by rw [keysS_len, Hm.out]; exact hjm
      obtain ⟨key, hkey⟩ : ∃ key, (keysS st)[j]? = some key := ⟨_, List.getElem?_eq_getElem hkl⟩
      have hksz : key.size ≤ maxLen := by
        obtain ⟨p, hp, e⟩ := List.mem_map.1 (keysS_mem (List.mem_of_getElem? hkey))
        rw [← e]; exact Hkeys.out p hp
      obtain ⟨kad, rfl, _, kc0⟩ := (hHK.out.next hbr.out).at (strCs_atS hkey)
      have hSr := HS.out.next hbwr.out
      obtain ⟨A1, n1, c1, A2, n2, c2, hlk, e1, e2, l1, l2, ho1, ho2⟩ := ser_look hSr Hok.out key hksz
      have htake := Lib.hid (show (allN st).take (j + 1) = (allN st).take j ++ [serAt st key] by
        unfold allN
        rw [List.take_add_one]
        rw [List.getElem?_map, hkey]
        rfl)
      obtain ⟨y, hy⟩ : ∃ y, serAt st key = y := ⟨_, rfl⟩
      rw [hy] at htake e1 e2 ho1 ho2
      have o0 : wr.cell? ⟨g, 0, none⟩ = some (.map (some b)) := hSr.obj.cell 0
      have hSr := Lib.hid hSr
      have E1 := Lib.hid e1
      have E2 := Lib.hid e2
      have ho1 := Lib.hid ho1
      have ho2 := Lib.hid ho2
      clear e1 e2 hy hkl hkey
      go_upto_region 6 with fail
      obtain ⟨W6, hW6⟩ : ∃ W6, wr.alloc (.cells #[.slice A1 n1 c1, .slice A2 n2 c2] 42) = W6 := ⟨_, rfl⟩
      obtain ⟨q6, hq6⟩ : ∃ q6, wr.heap.size = q6 := ⟨_, rfl⟩
      have hb6 : Below wr.heap.size wr W6 := by rw [← hW6]; exact one_allocB _ _
      have k6 : Blk W6 q6 42 #[.slice A1 n1 c1, .slice A2 n2 c2] := by rw [← hW6]; exact Blk.newD _ _ _ _ hq6
      rw [hW6, hq6]
      have HC1 := Lib.hid (fun (w' : World) (hb : Below W6.heap.size W6 w') => cloneCLab_any A1 n1 c1 (labCs y.1) (by rw [labCs_len, E1.out]) (labCs_oneC _) (fun e => by subst e; exact own_nil (own_next ho1.out hb6)) (by omega) w' ((Has.of_own (own_next ho1.out hb6)).next hb))
      have HC2 := Lib.hid (fun (w' : World) (hb : Below W6.heap.size W6 w') => cloneCSmp_any A2 n2 c2 (smpCs y.2) (by rw [smpCs_len, E2.out]) (smpCs_oneC _) (fun e => by subst e; exact own_nil (own_next ho2.out hb6)) (by omega) w' ((Has.of_own (own_next ho2.out hb6)).next hb))
      have x0 : W6.cell? ⟨q6, 0, none⟩ = some (.slice A1 n1 c1) := k6.cell 0
      have x1 : W6.cell? ⟨q6, 1, none⟩ = some (.slice A2 n2 c2) := k6.cell 1
      have hoR6 := own_next hoR.out hb6
      have hb16 : w1.heap.size ≤ W6.heap.size := Nat.le_trans hbr.out.size hb6.size
      have Hb6 := Lib.hid hb6
      have hneR : some q6 ≠ (Value.slice A3 j c3).ownBlock := fun e => by have := (own_block hoR.out q6 e.symm).2; omega
      have HW6 := Lib.hid hW6
      clear hW6 hq6 hb6 o0 hlk kc0
      go_region_held_law (fun w' => w'.cell? ⟨q6, 0, none⟩ = some (.slice A1 n1 c1) ∧ w'.cell? ⟨q6, 1, none⟩ = some (.slice A2 n2 c2))
        (first | exact ⟨kE.cell 0, kE.cell 1⟩ | (refine keepTA k6 ?_; (repeat' (first | with_reducible exact Below.refl _ _ | with_reducible exact hbC | with_reducible exact hbS | with_reducible refine below_drewT ?_ | with_reducible refine below_allocU ?_ _))); done)
        (first
          | (have hz := hownB
             apply step_append1s rfl (.tmp 24) (.tmp 32) 32 rfl elSer (v := .slice A3 j c3) (n := j) (base := w1.heap.size) (xs := serCs es3); (case hown => (repeat' (first | with_reducible exact hoR8 | with_reducible refine World.ownsRow.alloc ?_ _)); done); (case hs => rfl); (case hx => rfl); (case hb => exact heap_alloc_new _ _); (case hl => rfl); (case h1 => (intro u hu; simp at hu; rcases hu with rfl | rfl <;> rfl)); (case hmax => omega); (case h63 => (unfold maxLen; omega)); (case hbase => exact Nat.le_trans hb18 (one_allocB _ _).size)
             intro g5 c5 w5 hown5 hgrow5 hbel5
             have kE : Blk w5 q6 42 #[.slice A1 n1 c1, .slice A2 n2 c2] := Blk.grown ((k6.next hbS).alloc _) hgrow5 hneR)
          | (have hz := hownA
             go_at_call 31
             refine (HC2.out _ (by (repeat' (first | with_reducible exact Below.refl _ _ | with_reducible exact hbC | with_reducible refine below_drewT ?_)); done)).mono ?_
             rintro e9 w8 ⟨v8, rfl, A8, c8, rfl, hownB, hbB⟩
             have hbS : Below W6.heap.size W6 w8 := bnext (by (repeat' (first | with_reducible exact hbC | with_reducible refine below_drewT ?_)); done) hbB
             have hoR8 : World.ownsRow w8 w1.heap.size 42 2 (.slice A3 j c3) j (serCs es3) := own_next hoR6 hbS
             have hb18 : w1.heap.size ≤ w8.heap.size := Nat.le_trans hb16 hbS.size)
          | (go_at_call 30
             refine (HC1.out _ (by (repeat' (first | with_reducible exact Below.refl _ _ | with_reducible refine below_drewT ?_)); done)).mono ?_
             rintro e9 w7 ⟨v7, rfl, A7, c7, rfl, hownA, hbA⟩
             have hbC : Below W6.heap.size W6 w7 := bnext (by (repeat' (first | with_reducible exact Below.refl _ _ | with_reducible refine below_drewT ?_)); done) hbA))
      all_goals
        have hb6w := Hb6.out
        have hbE : Below wr.heap.size wr w8 := bnext hb6w hbS
        have h7o : World.ownsRow w8 w1.heap.size 73 2 (.slice A7 n1 c7) n1 (labCs y.1) := own_next (own_less hownA (Nat.le_trans hb16 (by first | exact Nat.le_refl _ | exact Below.size (Below.refl W6.heap.size W6)))) hbB
        have h8o : World.ownsRow w8 w1.heap.size 27 2 (.slice A8 n2 c8) n2 (smpCs y.2) := own_less hownB (Nat.le_trans hb16 hbC.size)
        have hS8 : SerRow w8 w1.heap.size (es3 ++ [(.slice A7 n1 c7, .slice A8 n2 c8)]) ((allN st).take (j + 1)) := by
          rw [htake.out]
          exact (hR.out.next hbE).snoc ⟨A7, n1, c7, A8, n2, c8, rfl, E1.out, E2.out, h7o, h8o⟩
        have hS5 := Lib.hid ((hS8.next (one_allocB w8 (.cells #[.slice A7 n1 c7, .slice A8 n2 c8] 42))).keep fun v y h => h.grown (World.ownsRow.alloc hoR8 _) hgrow5)
        have ho5 := Lib.hid hown5
        have hb5 := Lib.hid (show Below w1.heap.size w1 w5 from hbr.out.trans ((hbE.mono hbr.out.size).trans (((one_allocB w8 (.cells #[.slice A7 n1 c7, .slice A8 n2 c8] 42)).mono hb18).trans hbel5)))
        clear hS8 h7o h8o hbE hb6w kE
        go_wp2_with fail
        go_roundw
        case rel => exact ⟨j + 1, some ⟨g5, 0, none⟩, c5, es3 ++ [(.slice A7 n1 c7, .slice A8 n2 c8)], by omega, by go_num, rfl, (by have := ho5.out; exact Lib.hid (by unfold serCs; rw [List.flatMap_append]; exact this)), hS5, hb5⟩
        case measure => simp [intOf]; omega
    · obtain rfl : j = m := by omega
      have htake := Lib.hid (show (allN st).take j = allN st from List.take_of_length_le (by rw [allN_len, Hm.out]; exact Nat.le_refl _))
      go_wp2_with fail
      go_ret
      have hR' := hR.out
      rw [htake.out] at hR'
      exact RV.mk ⟨A3, j, c3, es3, rfl, by rw [allN_len]; exact Hm.out, own_less hoR.out hb01.out.size, hR'.less hb01.out.size, hbwr.out⟩
end Go.Proofs.YtdnlnkbnfiamiaaGreatDoor
namespace Go.Proofs.YtdnlnkbnfiamiaaGreatDoor
open Go.RowKit

theorem SerRow.get {w : World} {base : Nat} {es : List (Value × Value)} {l : List Ser} (h : SerRow w base es l) : ∀ {j : Nat}, j < l.length → ∃ u v, (serCs es)[j * 2]? = some u ∧ (serCs es)[j * 2 + 1]? = some v ∧ SerOwn w base (.agg #[u, v]) (at_ l j) := by
  induction h with
  | nil => intro j hj; simp at hj
  | @cons u v y es l h1 _ ih =>
    intro j hj
    cases j with
    | zero => exact ⟨u, v, rfl, rfl, h1⟩
    | succ j =>
      obtain ⟨u', v', e1, e2, h3⟩ := ih (show j < l.length by simp at hj; omega)
      refine ⟨u', v', ?_, ?_, h3⟩
      · show (u :: v :: serCs es)[(j + 1) * 2]? = _
        rw [show (j + 1) * 2 = j * 2 + 1 + 1 by omega, List.getElem?_cons_succ, List.getElem?_cons_succ]
        exact e1
      · show (u :: v :: serCs es)[(j + 1) * 2 + 1]? = _
        rw [show (j + 1) * 2 + 1 = j * 2 + 1 + 1 + 1 by omega, List.getElem?_cons_succ, List.getElem?_cons_succ]
        exact e2
theorem ser_ext {l m : List Ser} (hl : l.length = m.length) (h : ∀ i, i < l.length → at_ l i = at_ m i) : l = m := by
  apply List.ext_getElem hl
  intro i h1 h2
  have := h i h1
  rwa [at_eq h1, at_eq h2] at this
set_option maxRecDepth 1000000 in
set_option maxHeartbeats 4000000 in
theorem sameSer1_any (b1 b2 : Nat) (u v : Value) (y y' : Ser) (w : World) (h : SerOwn w b1 u y) (h' : SerOwn w b2 v y') :
    Calls Tryz.prog 27 #[u, v] w (R1 (.bool (decide (y = y'))) (Below w.heap.size w)) := by
  obtain ⟨A1, n1, c1, A2, n2, c2, rfl, e1, e2, h1, h2⟩ := h
  obtain ⟨B1, m1, d1, B2, m2, d2, rfl, e3, e4, h3, h4⟩ := h'
  obtain ⟨L, S⟩ := y
  obtain ⟨M, T⟩ := y'
  simp only [] at e1 e2 e3 e4 h1 h2 h3 h4
  obtain ⟨W0, hW0⟩ : ∃ W0, (w.alloc (.cells #[.slice A1 n1 c1, .slice A2 n2 c2] 42)).alloc (.cells #[.slice B1 m1 d1, .slice B2 m2 d2] 42) = W0 := ⟨_, rfl⟩
  obtain ⟨q, hq⟩ : ∃ q, w.heap.size = q := ⟨_, rfl⟩
  have hb0 : Below w.heap.size w W0 := by rw [← hW0]; exact (one_allocB _ _).alloc (one_allocB _ _).size _
  have kx : Blk W0 q 42 #[.slice A1 n1 c1, .slice A2 n2 c2] := by rw [← hW0]; exact (Blk.newD _ _ _ _ hq).alloc _
  have ky : Blk W0 (q + 1) 42 #[.slice B1 m1 d1, .slice B2 m2 d2] := by rw [← hW0]; exact Blk.newD _ _ _ _ (by rw [← hq]; exact Array.size_push _)
  obtain ⟨l1, k1⟩ := own_len h1
  obtain ⟨l2, k2⟩ := own_len h2
  obtain ⟨l3, k3⟩ := own_len h3
  obtain ⟨l4, k4⟩ := own_len h4
  have x0 : W0.cell? ⟨q, 0, none⟩ = some (.slice A1 n1 c1) := kx.cell 0
  have x1 : W0.cell? ⟨q, 1, none⟩ = some (.slice A2 n2 c2) := kx.cell 1
  have y0 : W0.cell? ⟨q + 1, 0, none⟩ = some (.slice B1 m1 d1) := ky.cell 0
  have y1 : W0.cell? ⟨q + 1, 1, none⟩ = some (.slice B2 m2 d2) := ky.cell 1
  have HL := Lib.hid (sameLabN_any A1 B1 n1 m1 c1 d1 L M e1 e3 (by omega) (by omega) W0 ((Has.of_own h1).next hb0) ((Has.of_own h3).next hb0))
  have HT := Lib.hid (fun (k : Nat) => same_any A2 B2 n2 m2 c2 d2 S T e2 e4 (by omega) (by omega) (W0.drewN k) (((Has.of_own h2).next hb0).drewN_size k) (((Has.of_own h4).next hb0).drewN_size k))
  have HW0 := Lib.hid hW0
  have Hq := Lib.hid hq
  have hb0 := Lib.hid hb0
  clear h1 h2 h3 h4 e1 e2 e3 e4 hW0 hq kx ky l1 k1 l2 k2 l3 k3 l4 k4
  by_cases hLM : L = M
  · subst hLM
    rw [decide_eq_true rfl] at HL
    have hd : decide ((L, S) = (L, T)) = decide (S = T) := by
      by_cases hS : S = T
      · rw [hS, decide_eq_true rfl, decide_eq_true rfl]
      · rw [decide_eq_false hS, decide_eq_false (fun e => hS (congrArg Prod.snd e))]
    rw [hd]
    obtain ⟨r, hr⟩ : ∃ r, decide (S = T) = r := ⟨_, rfl⟩
    rw [hr] at HT ⊢
    clear hd hr
    go_enter Tryz.func27, Tryz.ntmps27
    go_upto_region 1 with fail
    rw [HW0.out, Hq.out]
    go_wp2_with fail
    refine HL.out.mono ?_
    rintro e w1 ⟨rfl, nd, rfl⟩
    go_wp2_with fail
    refine (HT.out _).mono ?_
    rintro e w2 ⟨rfl, nd2, rfl⟩
    go_wp2_with fail
    go_ret
    exact R1.mk rfl (below_drewN hb0.out _)
  · rw [decide_eq_false hLM] at HL
    rw [decide_eq_false (fun e => hLM (congrArg Prod.fst e))]
    have hLM := Lib.hid hLM
    go_enter Tryz.func27, Tryz.ntmps27
    go_upto_region 1 with fail
    rw [HW0.out, Hq.out]
    go_wp2_with fail
    refine HL.out.mono ?_
    rintro e w1 ⟨rfl, nd, rfl⟩
    go_wp2_with fail
    go_ret
    exact R1.mk rfl (below_drewN hb0.out _)
set_option maxRecDepth 1000000 in
set_option maxHeartbeats 4000000 in
theorem equalSer_any (A B : Option Addr) (n m c d : Nat) (l k : List Ser) (es ks : List (Value × Value)) (b1 b2 : Nat) (hn : l.length = n) (hm : k.length = m) (hl : n ≤ maxLen) (hk : m ≤ maxLen) (w : World) (h : Has w w.heap.size A (serCs es)) (hr : SerRow w b1 es l) (h' : Has w w.heap.size B (serCs ks)) (hr' : SerRow w b2 ks k) :
    Calls Tryz.prog 26 #[.slice A n c, .slice B m d, Value.func (Fn.func 27) #[] #[]] w (R1 (.bool (decide (l = k))) (Below w.heap.size w)) := by
  unfold maxLen at hl hk
  by_cases hnm : n = m
  · subst hnm
    have hr := Lib.hid hr
    have hr' := Lib.hid hr'
    have h := Lib.hid h
    have h' := Lib.hid h'
    have Hn := Lib.hid hn
    have Hm := Lib.hid hm
    clear hn hm
    go_enter Tryz.func26, Tryz.ntmps26
    go_wp2_with fail
    go_loopw [17] (fun i wr => ∃ j : Nat, j ≤ n ∧ i = .int .i64 (j : Nat) ∧ Hid (∀ q, q < j → at_ l q = at_ k q) ∧ Below w.heap.size w wr) (fun i _ => n + 5 - (intOf i).toNat)
    case atStart => exact ⟨0, by omega, rfl, Lib.hid (fun q hq => by omega), Below.refl _ _⟩
    case round =>
      obtain ⟨j, hj, rfl, heq, hbr⟩ := hrel
      by_cases hlt : (j : Int) < (n : Int)
      · obtain ⟨u0, u1, hu0, hu1, hs⟩ := hr.out.get (show j < l.length by rw [Hn.out]; omega)
        obtain ⟨v0, v1, hv0, hv1, hs'⟩ := hr'.out.get (show j < k.length by rw [Hm.out]; omega)
        obtain ⟨ad, rfl, hbk, c0⟩ := (h.out.next hbr).at hu0
        obtain ⟨ad', e', _, c1⟩ := (h.out.next hbr).at hu1
        injection e' with e'
        subst e'
        obtain ⟨bd, rfl, hbk', d0⟩ := (h'.out.next hbr).at hv0
        obtain ⟨bd', e', _, d1⟩ := (h'.out.next hbr).at hv1
        injection e' with e'
        subst e'
        have c1 := cell_off c1 (by decide)
        have d1 := cell_off d1 (by decide)
        obtain ⟨y, hy⟩ : ∃ y, at_ l j = y := ⟨_, rfl⟩
        obtain ⟨z, hz⟩ : ∃ z, at_ k j = z := ⟨_, rfl⟩
        rw [hy] at hs
        rw [hz] at hs'
        have HY := Lib.hid hy
        have HZ := Lib.hid hz
        obtain ⟨A1, n1, p1, A2, n2, p2, e5, _⟩ := id hs
        obtain ⟨B1, m1, r1, B2, m2, r2, e6, _⟩ := id hs'
        simp at e5 e6
        obtain ⟨rfl, rfl⟩ := e5
        obtain ⟨rfl, rfl⟩ := e6
        have hs := Lib.hid (hs.next hbr)
        have hs' := Lib.hid (hs'.next hbr)
        have q1 : (0 : Int) ≤ (j : Int) := by omega
        clear hy hz hu0 hu1 hv0 hv1
        have hbd : (bd.add (j * 2)).block < wr.heap.size := by rw [add_block]; exact Nat.lt_of_lt_of_le hbk' (Nat.le_refl _)
        go_upto_region 6 with fail
        obtain ⟨W6, hW6⟩ : ∃ W6, wr.alloc (.cells #[.slice A1 n1 p1, .slice A2 n2 p2] 42) = W6 := ⟨_, rfl⟩
        obtain ⟨q6, hq6⟩ : ∃ q6, wr.heap.size = q6 := ⟨_, rfl⟩
        have hb6 : Below wr.heap.size wr W6 := by rw [← hW6]; exact one_allocB _ _
        have k6 : Blk W6 q6 42 #[.slice A1 n1 p1, .slice A2 n2 p2] := by rw [← hW6]; exact Blk.newD _ _ _ _ hq6
        have d06 : W6.cell? (bd.add (j * 2)) = some (.slice B1 m1 r1) := (hb6.cell hbd).trans d0
        have d16 : W6.cell? ⟨(bd.add (j * 2)).block, (bd.add (j * 2)).off + 1, none⟩ = some (.slice B2 m2 r2) := (hb6.cell (p := ⟨(bd.add (j * 2)).block, (bd.add (j * 2)).off + 1, none⟩) hbd).trans d1
        rw [hW6, hq6]
        clear hW6 c0 c1 d0 d1
        go_upto_region 7 with fail
        obtain ⟨W7, hW7⟩ : ∃ W7, W6.alloc (.cells #[.slice B1 m1 r1, .slice B2 m2 r2] 42) = W7 := ⟨_, rfl⟩
        obtain ⟨q7, hq7⟩ : ∃ q7, W6.heap.size = q7 := ⟨_, rfl⟩
        have hb7 : Below W6.heap.size W6 W7 := by rw [← hW7]; exact one_allocB _ _
        have k7 : Blk W7 q7 42 #[.slice B1 m1 r1, .slice B2 m2 r2] := by rw [← hW7]; exact Blk.newD _ _ _ _ hq7
        have k67 := k6.next hb7
        have hb67 := bnext hb6 hb7
        rw [hW7, hq7]
        have x0 : W7.cell? ⟨q6, 0, none⟩ = some (.slice A1 n1 p1) := k67.cell 0
        have x1 : W7.cell? ⟨q6, 1, none⟩ = some (.slice A2 n2 p2) := k67.cell 1
        have y0 : W7.cell? ⟨q7, 0, none⟩ = some (.slice B1 m1 r1) := k7.cell 0
        have y1 : W7.cell? ⟨q7, 1, none⟩ = some (.slice B2 m2 r2) := k7.cell 1
        have HQ := Lib.hid (sameSer1_any b1 b2 _ _ y z W7 (hs.out.next hb67) (hs'.out.next hb67))
        have hbr7 := Lib.hid (bnext hbr hb67)
        clear hW7 hq7 d06 d16 k6 k67 k7 hb6 hb7 hb67 hbd hq6
        by_cases e : y = z
        · rw [decide_eq_true e] at HQ
          have E := Lib.hid e; clear e
          go_wp2_with fail
          refine HQ.out.mono ?_
          rintro e w8 ⟨rfl, hb8⟩
          have hbr8 := bnext hbr7.out hb8
          go_wp2_with fail
          go_roundw
          case rel => exact ⟨j + 1, by omega, by go_num, Lib.hid (fun q hq => by rcases Nat.lt_or_ge q j with h1 | h1; exact heq.out q h1; rw [show q = j by omega, HY.out, HZ.out]; exact E.out), hbr8⟩
          case measure => simp [intOf]; omega
        · rw [decide_eq_false e] at HQ
          have E := Lib.hid e; clear e
          go_wp2_with fail
          refine HQ.out.mono ?_
          rintro e w8 ⟨rfl, hb8⟩
          have hbr8 := bnext hbr7.out hb8
          go_wp2_with fail
          go_ret
          exact R1.mk (bool_eq (by rw [eq_comm, decide_eq_false_iff_not]; intro h1; exact E.out (by rw [← HY.out, ← HZ.out, h1]))) hbr8
      · go_wp2_with fail
        go_ret
        exact R1.mk (bool_eq (by rw [eq_comm, decide_eq_true_iff]; exact ser_ext (by rw [Hn.out, Hm.out]) (fun i hi => heq.out i (by rw [Hn.out] at hi; omega)))) hbr
  · have f0 : ((n : Int) != (m : Int)) = true := by rw [bne_iff_ne]; omega
    have E := Lib.hid hnm; clear hnm
    go_enter Tryz.func26, Tryz.ntmps26
    go_wp2_with fail
    go_ret
    exact R1.mk (bool_eq (by rw [eq_comm, decide_eq_false_iff_not]; intro h1; exact E.out (by rw [← hn, ← hm, h1]))) (Below.refl _ _)
set_option maxRecDepth 1000000 in
theorem sameSer_any (A B : Option Addr) (n m c d : Nat) (l k : List Ser) (es ks : List (Value × Value)) (b1 b2 : Nat) (hn : l.length = n) (hm : k.length = m) (hl : n ≤ maxLen) (hk : m ≤ maxLen) (w : World) (h : Has w w.heap.size A (serCs es)) (hr : SerRow w b1 es l) (h' : Has w w.heap.size B (serCs ks)) (hr' : SerRow w b2 ks k) :
    Calls Tryz.prog 10 #[.slice A n c, .slice B m d] w (R1 (.bool (decide (l = k))) (Below w.heap.size w)) := by
  go_enter Tryz.func10, Tryz.ntmps10
  go_wp2_with fail
  refine (equalSer_any A B n m c d l k es ks b1 b2 hn hm hl hk _ (by exact h) (by exact hr) (by exact h') (by exact hr')).mono ?_
  rintro e w1 ⟨rfl, hb1⟩
  go_wp2_with fail
  go_ret
  exact R1.mk rfl hb1
end Go.Proofs.YtdnlnkbnfiamiaaGreatDoor
namespace Go.Proofs.YtdnlnkbnfiamiaaGreatDoor
open Go.RowKit

set_option maxRecDepth 1000000 in
set_option maxHeartbeats 4000000 in
theorem grow1_any (b1 b2 q : Nat) (A1 : Option Addr) (n1 c1 : Nat) (A2 : Option Addr) (n2 c2 : Nat) (v : Value) (y y' : Ser) (w : World) (hq : Blk w q 42 #[.slice A1 n1 c1, .slice A2 n2 c2]) (h : SerOwn w b1 (.agg #[.slice A1 n1 c1, .slice A2 n2 c2]) y) (h' : SerOwn w b2 v y') :
    Calls Tryz.prog 18 #[v, .pointer (some ⟨q, 0, none⟩)] w (R1 (.bool (decide (y = y'))) (Below w.heap.size w)) := by
  obtain ⟨A1', n1', c1', A2', n2', c2', ee, e1, e2, h1, h2⟩ := h
  simp at ee
  obtain ⟨⟨rfl, rfl, rfl⟩, rfl, rfl, rfl⟩ := ee
  obtain ⟨B1, m1, d1, B2, m2, d2, rfl, e3, e4, h3, h4⟩ := h'
  obtain ⟨L, S⟩ := y
  obtain ⟨M, T⟩ := y'
  simp only [] at e1 e2 e3 e4 h1 h2 h3 h4
  obtain ⟨W0, hW0⟩ : ∃ W0, w.alloc (.cells #[.slice B1 m1 d1, .slice B2 m2 d2] 42) = W0 := ⟨_, rfl⟩
  obtain ⟨r, hr⟩ : ∃ r, w.heap.size = r := ⟨_, rfl⟩
  have hb0 : Below w.heap.size w W0 := by rw [← hW0]; exact one_allocB _ _
  have kx : Blk W0 q 42 #[.slice A1 n1 c1, .slice A2 n2 c2] := hq.next hb0
  have ky : Blk W0 r 42 #[.slice B1 m1 d1, .slice B2 m2 d2] := by rw [← hW0]; exact Blk.newD _ _ _ _ hr
  obtain ⟨l1, k1⟩ := own_len h1
  obtain ⟨l2, k2⟩ := own_len h2
  obtain ⟨l3, k3⟩ := own_len h3
  obtain ⟨l4, k4⟩ := own_len h4
  have x0 : W0.cell? ⟨q, 0, none⟩ = some (.slice A1 n1 c1) := kx.cell 0
  have x1 : W0.cell? ⟨q, 1, none⟩ = some (.slice A2 n2 c2) := kx.cell 1
  have y0 : W0.cell? ⟨r, 0, none⟩ = some (.slice B1 m1 d1) := ky.cell 0
  have y1 : W0.cell? ⟨r, 1, none⟩ = some (.slice B2 m2 d2) := ky.cell 1
  have HL := Lib.hid (sameLabN_any A1 B1 n1 m1 c1 d1 L M e1 e3 (by omega) (by omega) W0 ((Has.of_own h1).next hb0) ((Has.of_own h3).next hb0))
  have HT := Lib.hid (fun (k : Nat) => same_any A2 B2 n2 m2 c2 d2 S T e2 e4 (by omega) (by omega) (W0.drewN k) (((Has.of_own h2).next hb0).drewN_size k) (((Has.of_own h4).next hb0).drewN_size k))
  have HW0 := Lib.hid hW0
  have Hr := Lib.hid hr
  have hb0 := Lib.hid hb0
  clear h1 h2 h3 h4 e1 e2 e3 e4 hW0 hr kx ky hq l1 k1 l2 k2 l3 k3 l4 k4
  by_cases hLM : L = M
  · subst hLM
    rw [decide_eq_true rfl] at HL
    have hd : decide ((L, S) = (L, T)) = decide (S = T) := by
      by_cases hS : S = T
      · rw [hS, decide_eq_true rfl, decide_eq_true rfl]
      · rw [decide_eq_false hS, decide_eq_false (fun e => hS (congrArg Prod.snd e))]
    rw [hd]
    obtain ⟨rr, hrr⟩ : ∃ rr, decide (S = T) = rr := ⟨_, rfl⟩
    rw [hrr] at HT ⊢
    clear hd hrr
    go_enter Tryz.func18, Tryz.ntmps18
    go_upto_region 1 with fail
    rw [HW0.out, Hr.out]
    go_wp2_with fail
    refine HL.out.mono ?_
    rintro e w1 ⟨rfl, nd, rfl⟩
    go_wp2_with fail
    refine (HT.out _).mono ?_
    rintro e w2 ⟨rfl, nd2, rfl⟩
    go_wp2_with fail
    go_ret
    exact R1.mk rfl (below_drewN hb0.out _)
  · rw [decide_eq_false hLM] at HL
    rw [decide_eq_false (fun e => hLM (congrArg Prod.fst e))]
    have hLM := Lib.hid hLM
    go_enter Tryz.func18, Tryz.ntmps18
    go_upto_region 1 with fail
    rw [HW0.out, Hr.out]
    go_wp2_with fail
    refine HL.out.mono ?_
    rintro e w1 ⟨rfl, nd, rfl⟩
    go_wp2_with fail
    go_ret
    exact R1.mk rfl (below_drewN hb0.out _)
set_option maxRecDepth 1000000 in
set_option maxHeartbeats 4000000 in
theorem growIx_any (A : Option Addr) (n c : Nat) (l : List Ser) (es : List (Value × Value)) (b1 b2 q : Nat) (A1 : Option Addr) (n1 c1 : Nat) (A2 : Option Addr) (n2 c2 : Nat) (y : Ser) (hn : l.length = n) (hl : n ≤ maxLen) (w : World) (h : Has w w.heap.size A (serCs es)) (hr : SerRow w b1 es l) (hq : Blk w q 42 #[.slice A1 n1 c1, .slice A2 n2 c2]) (hy : SerOwn w b2 (.agg #[.slice A1 n1 c1, .slice A2 n2 c2]) y) :
    Calls Tryz.prog 41 #[.slice A n c, Value.func (Fn.func 18) #[] #[.pointer (some ⟨q, 0, none⟩)]] w (RV fun v w' => ∃ i : Int, v = .int .i64 i ∧ (0 ≤ i ↔ y ∈ l) ∧ Below w.heap.size w w') := by
  unfold maxLen at hl
  have hr := Lib.hid hr
  have h := Lib.hid h
  have Hn := Lib.hid hn
  have hq := Lib.hid hq
  have hy := Lib.hid hy
  clear hn
  go_enter Tryz.func41, Tryz.ntmps41
  go_wp2_with fail
  go_loopw [8] (fun i wr => ∃ j : Nat, j ≤ n ∧ i = .int .i64 (j : Nat) ∧ Hid (∀ q, q < j → at_ l q ≠ y) ∧ Below w.heap.size w wr) (fun i _ => n + 5 - (intOf i).toNat)
  case atStart => exact ⟨0, by omega, rfl, Lib.hid (fun q hq => by omega), Below.refl _ _⟩
  case round =>
    obtain ⟨j, hj, rfl, heq, hbr⟩ := hrel
    by_cases hlt : (j : Int) < (n : Int)
    · obtain ⟨u0, u1, hu0, hu1, hs⟩ := hr.out.get (show j < l.length by rw [Hn.out]; omega)
      have hmem : at_ l j ∈ l := at_mem (show j < l.length by rw [Hn.out]; omega)
      obtain ⟨ad, rfl, hbk, k0⟩ := (h.out.next hbr).at hu0
      obtain ⟨ad', e', _, k1⟩ := (h.out.next hbr).at hu1
      injection e' with e'
      subst e'
      have k1 := cell_off k1 (by decide)
      obtain ⟨z, hz⟩ : ∃ z, at_ l j = z := ⟨_, rfl⟩
      rw [hz] at hs hmem
      obtain ⟨B1, m1, r1, B2, m2, r2, e5, _⟩ := id hs
      simp at e5
      obtain ⟨rfl, rfl⟩ := e5
      have HG := Lib.hid (grow1_any b2 b1 q A1 n1 c1 A2 n2 c2 _ y z wr (hq.out.next hbr) (hy.out.next hbr) (hs.next hbr))
      have HZ := Lib.hid hz
      have hmem := Lib.hid hmem
      have q1 : (0 : Int) ≤ (j : Int) := by omega
      clear hz hu0 hu1 hs
      by_cases e : y = z
      · rw [decide_eq_true e] at HG
        have E := Lib.hid e; clear e
        go_wp2_with fail
        refine HG.out.mono ?_
        rintro e w8 ⟨rfl, hb8⟩
        go_wp2_with fail
        go_ret
        exact RV.mk ⟨j, rfl, ⟨fun _ => by rw [E.out]; exact hmem.out, fun _ => q1⟩, bnext hbr hb8⟩
      · rw [decide_eq_false e] at HG
        have E := Lib.hid e; clear e
        go_wp2_with fail
        refine HG.out.mono ?_
        rintro e w8 ⟨rfl, hb8⟩
        go_wp2_with fail
        go_roundw
        case rel => exact ⟨j + 1, by omega, by go_num, Lib.hid (fun q hq => by rcases Nat.lt_or_ge q j with h1 | h1; exact heq.out q h1; rw [show q = j by omega, HZ.out]; exact fun e => E.out e.symm), bnext hbr hb8⟩
        case measure => simp [intOf]; omega
    · have hno : Hid (y ∉ l) := Lib.hid (fun hm => by
        obtain ⟨k, hk, e⟩ := List.getElem_of_mem hm
        exact heq.out k (by rw [Hn.out] at hk; omega) (by rw [at_eq hk]; exact e))
      go_wp2_with fail
      go_ret
      exact RV.mk ⟨-1, rfl, ⟨fun h => absurd h (by decide), fun h => absurd h hno.out⟩, hbr⟩
set_option maxRecDepth 100000 in
theorem growIn_any (A : Option Addr) (n c : Nat) (l : List Ser) (es : List (Value × Value)) (b1 b2 q : Nat) (A1 : Option Addr) (n1 c1 : Nat) (A2 : Option Addr) (n2 c2 : Nat) (y : Ser) (hn : l.length = n) (hl : n ≤ maxLen) (w : World) (h : Has w w.heap.size A (serCs es)) (hr : SerRow w b1 es l) (hq : Blk w q 42 #[.slice A1 n1 c1, .slice A2 n2 c2]) (hy : SerOwn w b2 (.agg #[.slice A1 n1 c1, .slice A2 n2 c2]) y) (hin : y ∈ l) :
    Calls Tryz.prog 17 #[.slice A n c, Value.func (Fn.func 18) #[] #[.pointer (some ⟨q, 0, none⟩)]] w (R1 (.bool true) (Below w.heap.size w)) := by
  have HI := Lib.hid (growIx_any A n c l es b1 b2 q A1 n1 c1 A2 n2 c2 y hn hl w h hr hq hy)
  have hin := Lib.hid hin
  clear h hr hq hy hn hl
  go_enter Tryz.func17, Tryz.ntmps17
  go_wp2_with fail
  refine HI.out.mono ?_
  rintro e w1 ⟨v, rfl, i, rfl, hi, hb1⟩
  have h0 : (0 : Int) ≤ i := hi.2 hin.out
  go_wp2_with fail
  go_ret
  exact R1.mk rfl hb1
end Go.Proofs.YtdnlnkbnfiamiaaGreatDoor
namespace Go.Proofs.YtdnlnkbnfiamiaaGreatDoor
open Go.RowKit

theorem smpIn_zero : SmpIn ⟨0, 0⟩ := by unfold SmpIn in64; simp
theorem StOk.nil : StOk [] := ⟨by decide, fun _ h => by cases h⟩
theorem enc_zero : encN [] ⟨0, 0⟩ = (recN [] ⟨0, 0⟩, 0) := by
  unfold encN
  rw [if_neg (by decide), if_neg (by decide)]
def st1 : StD := [(txL [], ([], [⟨0, 0⟩]))]
theorem put_zero : putN ([], []) [] ⟨0, 0⟩ = ((st1, frameL (recN [] ⟨0, 0⟩)), 0) := by
  unfold putN
  rw [enc_zero, if_neg (by simp)]
  rfl
theorem st1_ok : StOk st1 := ⟨by decide, fun p hp => by
  unfold st1 at hp
  simp at hp
  subst hp
  exact ⟨chkS_one _, by simp, by simp, by simp⟩⟩
theorem st1_keys : KeyOk st1 := fun p hp => by
  unfold st1 at hp
  simp at hp
  subst hp
  have := txtB_size (chkM_asM (show chkL [] = 0 by decide))
  show (txL []).size ≤ maxLen
  unfold maxLen txL
  omega
set_option maxRecDepth 100000 in
set_option maxHeartbeats 1000000 in
theorem stores_true (w : World) (tS : SgAt w) : Calls Tryz.prog 7 #[] w (R1 (.bool true) (Below w.heap.size w)) := by
  have HS := Lib.hid tS
  clear tS
  go_enter Tryz.func7, Tryz.ntmps7
  go_wp2_with fail
  refine (snew_any w).mono ?_
  rintro e w1 ⟨v, rfl, g, rfl, hM1, hb1⟩
  go_wp2_with fail
  refine (put_store w.heap.size g [] 0 [] StOk.nil (by simp) none 0 0 [] rfl (by omega) (fun _ => ⟨rfl, rfl⟩) ⟨0, 0⟩ smpIn_zero (by simp) w1 hM1 hb1.size (Has.nil _ _ _) (HS.out.next hb1)).mono ?_
  rintro e w2 ⟨rfl, hM2, hO2⟩
  rw [put_zero] at hM2 ⊢
  simp only [] at hM2 ⊢
  have hb2 := hO2.below
  go_wp2_with fail
  refine (all_any w.heap.size g _ 0 st1 st1_ok st1_keys w2 hM2).mono ?_
  rintro e w3 ⟨v, rfl, A, n, c, es, rfl, hn, _, _, hb3⟩
  rw [allN_len] at hn
  have hn : 1 = n := hn
  subst hn
  go_wp2_with fail
  go_ret
  exact R1.mk rfl ((hb1.trans hb2).trans (hb3.mono (Nat.le_trans hb1.size hb2.size)))
end Go.Proofs.YtdnlnkbnfiamiaaGreatDoor
namespace Go.Proofs.YtdnlnkbnfiamiaaGreatDoor

theorem dec_rec {L : List Lab} {x : Smp} (h : chkL L = 0) (hx : SmpIn x) (ht : -1152921504606846976 ≤ x.t ∧ x.t ≤ 1152921504606846976) : decN (recN L x) = (L, x, 0) := by
  have hz := zigN_lt (n := x.t) hx.1
  have hv := zigN_lt (n := x.v) hx.2
  have t1 : takeN (recN L x) = (zigN x.t, (putL (zigN x.t)).length, 0) := by
    unfold recN
    rw [List.append_assoc]
    exact takeN_put hz _
  have d1 : dr1 (recN L x) = putL (zigN x.v) ++ sb (txL L) := by
    unfold dr1
    rw [t1]
    unfold recN
    rw [List.append_assoc]
    exact List.drop_left
  have t2 : takeN (dr1 (recN L x)) = (zigN x.v, (putL (zigN x.v)).length, 0) := by
    rw [d1]
    exact takeN_put hv _
  have d2 : dr1 (dr1 (recN L x)) = sb (txL L) := by
    have : dr1 (dr1 (recN L x)) = (dr1 (recN L x)).drop (takeN (dr1 (recN L x))).2.1 := rfl
    rw [this, t2, d1]
    exact List.drop_left
  have he : encN L x = (recN L x, 0) := by
    unfold encN
    rw [if_neg (by rw [h]; simp), if_neg (by omega)]
  rw [decT_on (by rw [t1]) (by rw [t2]), t1, t2, d2]
  simp only []
  rw [zag_zig, zag_zig]
  unfold decT
  rw [bsOf_sb]
  have htx : readL (txL L) = (L, 0) := readL_told h
  rw [htx]
  rw [if_pos ⟨rfl, he⟩]
theorem dec_enc {L : List Lab} {x : Smp} {c : List Nat} (hx : SmpIn x) (h : encN L x = (c, 0)) : decN c = (L, x, 0) := by
  obtain ⟨h1, h2, h3, h4⟩ := enc_ok (L := L) (x := x) (by rw [h])
  rw [h] at h2
  have : c = recN L x := congrArg Prod.fst h2
  rw [this]
  exact dec_rec h1 hx ⟨h3, h4⟩
theorem enc_bad {L : List Lab} {x : Smp} {c : List Nat} {e : Int} (h : encN L x = (c, e)) (he : e ≠ 0) : c = [] := by
  unfold encN at h
  split at h
  · injection h with h _; exact h.symm
  · split at h
    · injection h with h _; exact h.symm
    · injection h with _ h; exact absurd h.symm he
theorem dec_ok {b : List Nat} {L : List Lab} {x : Smp} (h : decN b = (L, x, 0)) : encN L x = (b, 0) := by
  unfold decN at h
  split at h
  · injection h with _ h; injection h with _ h; cases h
  · split at h
    · injection h with _ h; injection h with _ h; cases h
    · unfold decT at h
      split at h
      · rename_i hh
        injection h with h1 h2
        injection h2 with h2 _
        rw [← h1, ← h2]
        exact hh.2
      · injection h with _ h; injection h with _ h; cases h
theorem dec_bad {b : List Nat} {L : List Lab} {x : Smp} {e : Int} (h : decN b = (L, x, e)) (he : e ≠ 0) : L = [] ∧ x = ⟨0, 0⟩ := by
  unfold decN at h
  split at h
  · injection h with h1 h2; injection h2 with h2 _; exact ⟨h1.symm, h2.symm⟩
  · split at h
    · injection h with h1 h2; injection h2 with h2 _; exact ⟨h1.symm, h2.symm⟩
    · unfold decT at h
      split at h
      · injection h with _ h2; injection h2 with _ h3; exact absurd h3.symm he
      · injection h with h1 h2; injection h2 with h2 _; exact ⟨h1.symm, h2.symm⟩
theorem dec_in {b : List Nat} {L : List Lab} {x : Smp} {e : Int} (hb : Bytes b) (h : decN b = (L, x, e)) : SmpIn x := by
  unfold decN at h
  split at h
  · injection h with _ h2; injection h2 with h2 _; rw [← h2]; exact smpIn_zero
  · split at h
    · injection h with _ h2; injection h2 with h2 _; rw [← h2]; exact smpIn_zero
    · unfold decT at h
      split at h
      · injection h with _ h2; injection h2 with h2 _
        rw [← h2]
        have hb1 : Bytes (dr1 b) := bytes_drop hb _
        exact ⟨zagN_in (takeN_lt hb rfl), zagN_in (takeN_lt hb1 rfl)⟩
      · injection h with _ h2; injection h2 with h2 _; rw [← h2]; exact smpIn_zero
end Go.Proofs.YtdnlnkbnfiamiaaGreatDoor
namespace Go.Proofs.YtdnlnkbnfiamiaaGreatDoor
open Go.Sort

abbrev Pt := List Lab × Smp
def okP (p : Pt) : Prop := (encN p.1 p.2).2 = 0
instance (p : Pt) : Decidable (okP p) := by unfold okP; exact inferInstance
/-- the store behind puts -/
def runN (s : StD × List Nat) (ps : List Pt) : StD × List Nat := ps.foldl (fun s p => (putN s p.1 p.2).1) s
theorem runN_nil (s : StD × List Nat) : runN s [] = s := rfl
theorem runN_snoc (s : StD × List Nat) (ps : List Pt) (p : Pt) : runN s (ps ++ [p]) = (putN (runN s ps) p.1 p.2).1 := by unfold runN; rw [List.foldl_append]; rfl
theorem upS {l : List Smp} (h : Up l) (h1 : l.length ≤ 1000) : chkS l = 0 := by
  have ho : ∀ k, k < l.length → ordUp l k = true := by
    intro k
    induction k with
    | zero => intro _; rfl
    | succ k ih =>
      intro hk
      unfold ordUp
      rw [ih (by omega), Bool.true_and, decide_eq_true_iff]
      have := List.pairwise_iff_getElem.1 h k (k + 1) (by omega) hk (by omega)
      rw [at_eq (by omega), at_eq hk]
      exact this
  unfold chkS
  rw [if_neg (by omega)]
  cases l with
  | nil => rfl
  | cons x l => rw [if_pos (ho _ (by simp))]
/-- what holds of a store behind m puts -/
structure InvS (s : StD × List Nat) (m : Nat) : Prop where
  len : s.1.length ≤ m
  ent : ∀ p ∈ s.1, p.1 = txL p.2.1 ∧ chkL p.2.1 = 0 ∧ Up p.2.2 ∧ p.2.2 ≠ [] ∧ p.2.2.length ≤ m
  keys : (s.1.map (·.1)).Nodup
  disk : s.2.length ≤ 1238 * m
theorem InvS.nil : InvS ([], []) 0 := ⟨by simp, fun p h => (by cases h), by simp, by simp⟩
theorem InvS.ok {s : StD × List Nat} {m : Nat} (h : InvS s m) (hm : m < 200) : StOk s.1 := by
  refine ⟨by have := h.len; omega, fun p hp => ?_⟩
  obtain ⟨_, h2, h3, _, h5⟩ := h.ent p hp
  exact ⟨upS h3 (by omega), by omega, (chkL_iff.1 h2).1, fun e he => by
    obtain ⟨q1, q2⟩ := (chkL_iff.1 h2).2.1 e he
    have q3 := nameOk_le q1
    exact ⟨by unfold maxLen; omega, by unfold maxLen; omega⟩⟩
theorem InvS.keyOk {s : StD × List Nat} {m : Nat} (h : InvS s m) : KeyOk s.1 := fun p hp => by
  obtain ⟨h1, h2, _⟩ := h.ent p hp
  have := txtB_size (chkM_asM h2)
  rw [h1]
  unfold maxLen txL
  omega
theorem put_mem {st : StD} {k : ByteArray} {y : Ser} {p : ByteArray × Ser} (h : p ∈ putSt st k y) : p = (k, y) ∨ p ∈ st := by
  induction st with
  | nil => unfold putSt at h; simp at h; exact .inl h
  | cons q st ih =>
    unfold putSt at h
    split at h
    · rcases List.mem_cons.1 h with e | e
      · exact .inl e
      · exact .inr (List.mem_cons_of_mem _ e)
    · rcases List.mem_cons.1 h with e | e
      · exact .inr (by rw [e]; exact List.mem_cons_self)
      · rcases ih e with e | e
        · exact .inl e
        · exact .inr (List.mem_cons_of_mem _ e)
theorem put_len (st : StD) (k : ByteArray) (y : Ser) : (putSt st k y).length ≤ st.length + 1 := by
  induction st with
  | nil => unfold putSt; simp
  | cons q st ih =>
    unfold putSt
    split
    · simp
    · simp; exact ih
theorem put_keys (st : StD) (k : ByteArray) (y : Ser) : (k ∈ st.map (·.1) ∧ (putSt st k y).map (·.1) = st.map (·.1)) ∨ (k ∉ st.map (·.1) ∧ (putSt st k y).map (·.1) = st.map (·.1) ++ [k]) := by
  induction st with
  | nil => exact .inr ⟨by simp, by unfold putSt; simp⟩
  | cons q st ih =>
    unfold putSt
    by_cases h : q.1 = k
    · rw [if_pos h]
      refine .inl ⟨by rw [List.map_cons, h]; exact List.mem_cons_self, by simp [h]⟩
    · rw [if_neg h, List.map_cons]
      rcases ih with ⟨h1, h2⟩ | ⟨h1, h2⟩
      · exact .inl ⟨List.mem_cons_of_mem _ h1, by rw [List.map_cons, h2]⟩
      · refine .inr ⟨fun e => ?_, by rw [List.map_cons, h2]; rfl⟩
        rcases List.mem_cons.1 e with e | e
        · exact h e.symm
        · exact h1 e
theorem put_nodup {st : StD} (h : (st.map (·.1)).Nodup) (k : ByteArray) (y : Ser) : ((putSt st k y).map (·.1)).Nodup := by
  rcases put_keys st k y with ⟨_, e⟩ | ⟨hk, e⟩
  · rw [e]; exact h
  · rw [e]
    exact List.nodup_append.2 ⟨h, by simp, fun a ha c hc e => by simp at hc; rw [e, hc] at ha; exact hk ha⟩
theorem InvS.put {s : StD × List Nat} {m : Nat} (h : InvS s m) {p : Pt} (hx : SmpIn p.2) : InvS (putN s p.1 p.2).1 (m + 1) := by
  obtain ⟨L, x⟩ := p
  by_cases hok : (encN L x).2 = 0
  · obtain ⟨hc, hr, _, _⟩ := enc_ok hok
    have e : (putN s L x).1 = (addN s.1 L x, s.2 ++ frameL (recN L x)) := by unfold putN; rw [hr, if_neg (by simp)]
    rw [e]
    have hser : (serN s.1 (txL L) L x).1 = L ∨ ∃ q ∈ s.1, q.1 = txL L ∧ (serN s.1 (txL L) L x).1 = q.2.1 := by
      unfold serN
      cases hf : findSt s.1 (txL L) with
      | none => exact .inl rfl
      | some y => exact .inr ⟨_, find_mem hf, rfl, rfl⟩
    have hL1 : txL (serN s.1 (txL L) L x).1 = txL L ∧ chkL (serN s.1 (txL L) L x).1 = 0 := by
      rcases hser with e | ⟨q, hq, hk, e⟩
      · rw [e]; exact ⟨rfl, hc⟩
      · rw [e]
        obtain ⟨h1, h2, _⟩ := h.ent q hq
        exact ⟨h1.symm.trans hk, h2⟩
    have hS1 : Up (serN s.1 (txL L) L x).2 ∧ (serN s.1 (txL L) L x).2 ≠ [] ∧ (serN s.1 (txL L) L x).2.length ≤ m + 1 := by
      unfold serN
      cases hf : findSt s.1 (txL L) with
      | none => exact ⟨List.pairwise_singleton _ _, by simp, by simp⟩
      | some y =>
        obtain ⟨_, _, h3, h4, h5⟩ := h.ent _ (find_mem hf)
        refine ⟨merge_up _ _ h3 (List.pairwise_singleton _ _), fun e => ?_, Nat.le_trans (mergeUp_one_len _ _) (by simp only [] at h5 ⊢; omega)⟩
        have h6 := look_merge y.2 [x] h3 (List.pairwise_singleton _ _) x.t
        simp only [] at e
        rw [e] at h6
        have : look [x] x.t = some x.v := by unfold look; rw [if_pos rfl]
        rw [this] at h6
        cases h7 : look y.2 x.t <;> rw [h7] at h6 <;> simp [look, join] at h6
    refine ⟨Nat.le_trans (put_len _ _ _) (by have := h.len; omega), fun p hp => ?_, put_nodup h.keys _ _, ?_⟩
    · rcases put_mem hp with e | e
      · rw [e]
        exact ⟨hL1.1.symm, hL1.2, hS1⟩
      · obtain ⟨h1, h2, h3, h4, h5⟩ := h.ent p e
        exact ⟨h1, h2, h3, h4, by omega⟩
    · have h1 : (recN L x).length ≤ 1220 := recN_len hc hx
      have h2 := frame_len (r := recN L x) (by omega)
      have h3 := h.disk
      show (s.2 ++ frameL (recN L x)).length ≤ _
      rw [List.length_append]
      omega
  · have e : (putN s L x).1 = s := by unfold putN; rw [if_pos hok]
    rw [e]
    exact ⟨by have := h.len; omega, fun p hp => by obtain ⟨h1, h2, h3, h4, h5⟩ := h.ent p hp; exact ⟨h1, h2, h3, h4, by omega⟩, h.keys, by have := h.disk; omega⟩
theorem InvS.run (ps : List Pt) (hx : ∀ p ∈ ps, SmpIn p.2) : ∀ {s : StD × List Nat} {m : Nat}, InvS s m → InvS (runN s ps) (m + ps.length) := by
  induction ps with
  | nil => intro s m h; exact h
  | cons p ps ih =>
    intro s m h
    have h1 := ih (fun q hq => hx q (List.mem_cons_of_mem _ hq)) (h.put (hx p List.mem_cons_self))
    rw [List.length_cons, show m + (ps.length + 1) = m + 1 + ps.length by omega]
    exact h1
end Go.Proofs.YtdnlnkbnfiamiaaGreatDoor
namespace Go.Proofs.YtdnlnkbnfiamiaaGreatDoor
open Go.Sort

/-- the value at a key and a time -/
def lookSt (st : StD) (k : ByteArray) (t : Int) : Option Int := match findSt st k with | none => none | some y => look y.2 t
theorem look_put {s : StD × List Nat} {m : Nat} (h : InvS s m) (L : List Lab) (x : Smp) (k : ByteArray) (t : Int) :
    lookSt (addN s.1 L x) k t = if txL L = k ∧ x.t = t then join (lookSt s.1 k t) (some x.v) else lookSt s.1 k t := by
  have hone : ∀ t, look [x] t = if x.t = t then some x.v else none := fun t => rfl
  unfold lookSt addN
  rw [find_put]
  by_cases hk : txL L = k
  · subst hk
    rw [if_pos rfl]
    unfold serN
    cases hf : findSt s.1 (txL L) with
    | none =>
      simp only []
      rw [hone]
      by_cases ht : x.t = t
      · rw [if_pos ht, if_pos ⟨trivial, ht⟩]; rfl
      · rw [if_neg ht, if_neg (fun e => ht e.2)]
    | some y =>
      obtain ⟨_, _, h3, _⟩ := h.ent _ (find_mem hf)
      simp only []
      rw [look_merge _ _ h3 (List.pairwise_singleton _ _), hone]
      by_cases ht : x.t = t
      · rw [if_pos ht, if_pos ⟨trivial, ht⟩]
      · rw [if_neg ht, if_neg (fun e => ht e.2)]
        cases look y.2 t <;> rfl
  · rw [if_neg hk, if_neg (fun e => hk e.1)]
theorem find_none_iff {st : StD} {k : ByteArray} : findSt st k = none ↔ k ∉ st.map (·.1) := by
  constructor
  · intro h hm
    obtain ⟨p, hp, e⟩ := List.mem_map.1 hm
    induction st with
    | nil => cases hp
    | cons q st ih =>
      unfold findSt at h
      split at h
      · cases h
      · rename_i hq
        rcases List.mem_cons.1 hp with e2 | e2
        · rw [← e2] at hq; exact hq e
        · exact ih h (List.mem_map.2 ⟨p, e2, e⟩) e2
  · intro h
    exact find_none fun p hp e => h (List.mem_map.2 ⟨p, hp, e⟩)
theorem look_head {l : List Smp} (h : l ≠ []) : ∃ t, look l t ≠ none := by
  cases l with
  | nil => exact absurd rfl h
  | cons x l => exact ⟨x.t, by unfold look; rw [if_pos rfl]; simp⟩
theorem key_iff {s : StD × List Nat} {m : Nat} (h : InvS s m) (k : ByteArray) : k ∈ s.1.map (·.1) ↔ ∃ t, lookSt s.1 k t ≠ none := by
  constructor
  · intro hk
    cases hf : findSt s.1 k with
    | none => exact absurd hk (find_none_iff.1 hf)
    | some y =>
      obtain ⟨_, _, _, h4, _⟩ := h.ent _ (find_mem hf)
      obtain ⟨t, ht⟩ := look_head h4
      exact ⟨t, by unfold lookSt; rw [hf]; exact ht⟩
  · rintro ⟨t, ht⟩
    refine Classical.byContradiction fun hk => ht ?_
    unfold lookSt
    rw [find_none_iff.2 hk]
theorem txL_inj {L M : List Lab} (h : chkL L = 0) (h' : chkL M = 0) (e : txL L = txL M) : L = M := by
  have h1 : readL (txL L) = (L, 0) := readL_told h
  have h2 : readL (txL M) = (M, 0) := readL_told h'
  rw [e, h2] at h1
  exact (congrArg Prod.fst h1).symm
theorem strL_perm {l m : List ByteArray} (h : l.Perm m) : (strL l).Perm (strL m) := h.map _
theorem keysS_ext {s s' : StD} (h : (s.map (·.1)).Nodup) (h' : (s'.map (·.1)).Nodup) (hk : ∀ k, k ∈ s.map (·.1) ↔ k ∈ s'.map (·.1)) : keysS s = keysS s' := by
  unfold keysS sortS
  rw [show (strL (s.map (·.1))).mergeSort (fun x y => decide (x ≤ y)) = (strL (s'.map (·.1))).mergeSort (fun x y => decide (x ≤ y)) from mergeSort_of_perm (strL_perm ((List.perm_ext_iff_of_nodup h h').2 hk))]
theorem all_ext {s s' : StD × List Nat} {m m' : Nat} (h : InvS s m) (h' : InvS s' m') (he : ∀ k t, lookSt s.1 k t = lookSt s'.1 k t) : allN s.1 = allN s'.1 := by
  have hk : ∀ k, k ∈ s.1.map (·.1) ↔ k ∈ s'.1.map (·.1) := fun k => by
    rw [key_iff h, key_iff h']
    exact ⟨fun ⟨t, ht⟩ => ⟨t, by rw [← he]; exact ht⟩, fun ⟨t, ht⟩ => ⟨t, by rw [he]; exact ht⟩⟩
  unfold allN
  rw [← keysS_ext h.keys h'.keys hk]
  refine List.map_congr_left fun k hm => ?_
  have hk1 := keysS_mem hm
  have hk2 := (hk k).1 hk1
  cases hf : findSt s.1 k with
  | none => exact absurd hk1 (find_none_iff.1 hf)
  | some y =>
    cases hf' : findSt s'.1 k with
    | none => exact absurd hk2 (find_none_iff.1 hf')
    | some y' =>
      obtain ⟨a1, a2, a3, _⟩ := h.ent _ (find_mem hf)
      obtain ⟨b1, b2, b3, _⟩ := h'.ent _ (find_mem hf')
      have e1 : y.1 = y'.1 := txL_inj a2 b2 (a1.symm.trans b1)
      have e2 : y.2 = y'.2 := look_ext _ _ a3 b3 fun t => by
        have := he k t
        unfold lookSt at this
        rw [hf, hf'] at this
        exact this
      unfold serAt
      rw [hf, hf']
      show y = y'
      cases y; cases y'
      simp only [] at e1 e2
      rw [e1, e2]
/-- a put that tells of a key and a time -/
def hitP (k : ByteArray) (t : Int) (p : Pt) : Prop := okP p ∧ txL p.1 = k ∧ p.2.t = t
instance (k : ByteArray) (t : Int) (p : Pt) : Decidable (hitP k t p) := by unfold hitP; exact inferInstance
/-- the greatest of what was put -/
def topP (k : ByteArray) (t : Int) (ps : List Pt) (o : Option Int) : Prop :=
  (o = none ∧ ∀ p ∈ ps, ¬ hitP k t p) ∨ ∃ v, o = some v ∧ (∃ p ∈ ps, hitP k t p ∧ p.2.v = v) ∧ ∀ p ∈ ps, hitP k t p → p.2.v ≤ v
theorem topP_ext {k : ByteArray} {t : Int} {ps qs : List Pt} {o o' : Option Int} (h : topP k t ps o) (h' : topP k t qs o') (hm : ∀ p, p ∈ ps ↔ p ∈ qs) : o = o' := by
  rcases h with ⟨e, h1⟩ | ⟨v, e, ⟨p, hp, hh, hv⟩, h2⟩
  · rcases h' with ⟨e', _⟩ | ⟨v', e', ⟨p, hp, hh, _⟩, _⟩
    · rw [e, e']
    · exact absurd hh (h1 p ((hm p).2 hp))
  · rcases h' with ⟨e', h1⟩ | ⟨v', e', ⟨p', hp', hh', hv'⟩, h2'⟩
    · exact absurd hh (h1 p ((hm p).1 hp))
    · have a := h2' p ((hm p).1 hp) hh
      have b := h2 p' ((hm p').2 hp') hh'
      rw [e, e', show v = v' by omega]
theorem topP_snoc {k : ByteArray} {t : Int} {ps : List Pt} {o : Option Int} (h : topP k t ps o) (p : Pt) : topP k t (ps ++ [p]) (if hitP k t p then join o (some p.2.v) else o) := by
  by_cases hp : hitP k t p
  · rw [if_pos hp]
    refine .inr ?_
    rcases h with ⟨e, h1⟩ | ⟨v, e, ⟨q, hq, hh, hv⟩, h2⟩
    · refine ⟨p.2.v, by rw [e]; rfl, ⟨p, by simp, hp, rfl⟩, fun r hr hh => ?_⟩
      rcases List.mem_append.1 hr with hr | hr
      · exact absurd hh (h1 r hr)
      · simp at hr; rw [hr]; exact Int.le_refl _
    · refine ⟨max v p.2.v, by rw [e]; rfl, ?_, fun r hr hr2 => ?_⟩
      · rcases Int.le_total v p.2.v with hl | hl
        · exact ⟨p, by simp, hp, by rw [Int.max_eq_right hl]⟩
        · exact ⟨q, List.mem_append_left _ hq, hh, by rw [Int.max_eq_left hl]; exact hv⟩
      · rcases List.mem_append.1 hr with hr | hr
        · have := h2 r hr hr2; omega
        · simp at hr; rw [hr]; omega
  · rw [if_neg hp]
    rcases h with ⟨e, h1⟩ | ⟨v, e, ⟨q, hq, hh, hv⟩, h2⟩
    · refine .inl ⟨e, fun r hr => ?_⟩
      rcases List.mem_append.1 hr with hr | hr
      · exact h1 r hr
      · simp at hr; rw [hr]; exact hp
    · refine .inr ⟨v, e, ⟨q, List.mem_append_left _ hq, hh, hv⟩, fun r hr hr2 => ?_⟩
      rcases List.mem_append.1 hr with hr | hr
      · exact h2 r hr hr2
      · simp at hr; rw [hr] at hr2; exact absurd hr2 hp
theorem putN_ok {s : StD × List Nat} {p : Pt} (h : okP p) : putN s p.1 p.2 = ((addN s.1 p.1 p.2, s.2 ++ frameL (recN p.1 p.2)), 0) := by
  obtain ⟨_, hr, _, _⟩ := enc_ok h
  unfold putN; rw [hr, if_neg (by simp)]
theorem putN_no {s : StD × List Nat} {p : Pt} (h : ¬ okP p) : putN s p.1 p.2 = (s, (encN p.1 p.2).2) := by
  unfold putN; rw [if_pos (show (encN p.1 p.2).2 ≠ 0 from h)]
theorem snocRec {α : Type} {motive : List α → Prop} (nil : motive []) (snoc : ∀ (l : List α) (a : α), motive l → motive (l ++ [a])) (l : List α) : motive l := by
  have h : ∀ l : List α, motive l.reverse := by
    intro l
    induction l with
    | nil => exact nil
    | cons a l ih => rw [List.reverse_cons]; exact snoc _ _ ih
  have := h l.reverse
  rwa [List.reverse_reverse] at this
theorem top_run : ∀ (ps : List Pt), (∀ p ∈ ps, SmpIn p.2) → ∀ k t, topP k t ps (lookSt (runN ([], []) ps).1 k t) := by
  intro ps
  induction ps using snocRec with
  | nil => intro _ k t; exact .inl ⟨rfl, by simp⟩
  | snoc ps p ih =>
    intro hx k t
    have hx1 : ∀ q ∈ ps, SmpIn q.2 := fun q hq => hx q (List.mem_append_left _ hq)
    have h1 := ih hx1 k t
    have hI := InvS.run ps hx1 InvS.nil
    rw [runN_snoc]
    have h2 := topP_snoc h1 p
    by_cases hp : okP p
    · rw [putN_ok hp]
      show topP k t _ (lookSt (addN _ p.1 p.2) k t)
      rw [look_put hI]
      have : (if hitP k t p then join (lookSt (runN ([], []) ps).1 k t) (some p.2.v) else lookSt (runN ([], []) ps).1 k t) = if txL p.1 = k ∧ p.2.t = t then join (lookSt (runN ([], []) ps).1 k t) (some p.2.v) else lookSt (runN ([], []) ps).1 k t := by
        by_cases hh : txL p.1 = k ∧ p.2.t = t
        · rw [if_pos hh, if_pos ⟨hp, hh.1, hh.2⟩]
        · rw [if_neg hh, if_neg (fun e => hh ⟨e.2.1, e.2.2⟩)]
      rw [← this]
      exact h2
    · rw [putN_no hp]
      rw [if_neg (fun e => hp e.1)] at h2
      exact h2
/-- puts of the same kinds are told alike -/
theorem all_same {ps qs : List Pt} (hp : ∀ p ∈ ps, SmpIn p.2) (hm : ∀ p, p ∈ ps ↔ p ∈ qs) : allN (runN ([], []) ps).1 = allN (runN ([], []) qs).1 :=
  all_ext (InvS.run ps hp InvS.nil) (InvS.run qs (fun q hq => hp q ((hm q).2 hq)) InvS.nil) fun k t => topP_ext (top_run ps hp k t) (top_run qs (fun q hq => hp q ((hm q).2 hq)) k t) hm
end Go.Proofs.YtdnlnkbnfiamiaaGreatDoor
namespace Go.Proofs.YtdnlnkbnfiamiaaGreatDoor
open Go.Sort

theorem keysS_of {st : StD} {k : ByteArray} (h : k ∈ st.map (·.1)) : k ∈ keysS st := by
  unfold keysS
  refine List.mem_map.2 ⟨k.data.toList, ?_, by simp⟩
  unfold sortS strL
  exact (List.mergeSort_perm _ _).mem_iff.2 (List.mem_map.2 ⟨k, h, rfl⟩)
theorem all_mem {s : StD × List Nat} {m : Nat} (_h : InvS s m) {y : Ser} (hy : y ∈ allN s.1) : ∃ k, findSt s.1 k = some y := by
  unfold allN at hy
  obtain ⟨k, hk, e⟩ := List.mem_map.1 hy
  have hk1 := keysS_mem hk
  cases hf : findSt s.1 k with
  | none => exact absurd hk1 (find_none_iff.1 hf)
  | some z =>
    refine ⟨k, ?_⟩
    unfold serAt at e
    rw [hf] at e
    rw [hf, ← e]
    rfl
theorem mem_all {st : StD} {k : ByteArray} {y : Ser} (hf : findSt st k = some y) : y ∈ allN st := by
  unfold allN
  refine List.mem_map.2 ⟨k, keysS_of ?_, by unfold serAt; rw [hf]; rfl⟩
  exact List.mem_map.2 ⟨_, find_mem hf, rfl⟩
theorem filter_one {l : List Smp} (h : Up l) {t v : Int} (hl : look l t = some v) : l.filter (inS t (t + 1)) = [⟨t, v⟩] := by
  induction l with
  | nil => cases hl
  | cons x l ih =>
    unfold look at hl
    by_cases hx : x.t = t
    · rw [if_pos hx] at hl
      injection hl with hl
      have hr : l.filter (inS t (t + 1)) = [] := by
        rw [List.filter_eq_nil_iff]
        intro y hy
        have := up_mem h y hy
        unfold inS
        simp
        omega
      rw [List.filter_cons, if_pos (by unfold inS; simp; omega), hr]
      cases x
      simp only [] at hx hl
      rw [hx, hl]
    · rw [if_neg hx] at hl
      rw [List.filter_cons, if_neg (by unfold inS; simp; omega)]
      exact ih (up_tail h) hl
/-- what is there behind a put that was taken -/
structure GrowR (a b : List Ser) (p : Pt) : Prop where
  here : ∀ y ∈ b, y.1 = p.1 → chkS y.2 = 0 ∧ ∃ v, rangeN y.2 p.2.t (p.2.t + 1) = [⟨p.2.t, v⟩] ∧ p.2.v ≤ v
  other : ∀ y ∈ b, y.1 ≠ p.1 → y ∈ a
  there : ∃ y ∈ b, y.1 = p.1
theorem grow_all {s : StD × List Nat} {m : Nat} (h : InvS s m) (hm : m ≤ 100) {p : Pt} (hp : okP p) (hx : SmpIn p.2) : GrowR (allN s.1) (allN (putN s p.1 p.2).1.1) p := by
  have h' : InvS (putN s p.1 p.2).1 (m + 1) := h.put hx
  obtain ⟨hc, _, _, _⟩ := enc_ok (L := p.1) (x := p.2) hp
  have e0 : (putN s p.1 p.2).1.1 = addN s.1 p.1 p.2 := by rw [putN_ok hp]
  have hk : findSt (putN s p.1 p.2).1.1 (txL p.1) = some (serN s.1 (txL p.1) p.1 p.2) := by
    rw [e0]
    unfold addN
    rw [find_put, if_pos rfl]
  have hl := look_put h p.1 p.2 (txL p.1) p.2.t
  rw [if_pos ⟨rfl, rfl⟩] at hl
  obtain ⟨o, ho⟩ : ∃ o, lookSt s.1 (txL p.1) p.2.t = o := ⟨_, rfl⟩
  rw [ho] at hl
  have hone : ∀ y ∈ allN (putN s p.1 p.2).1.1, ∃ k, findSt (putN s p.1 p.2).1.1 k = some y ∧ k = txL y.1 ∧ chkL y.1 = 0 ∧ Up y.2 ∧ y.2.length ≤ m + 1 := fun y hy => by
    obtain ⟨k, hf⟩ := all_mem h' hy
    obtain ⟨a1, a2, a3, _, a5⟩ := h'.ent _ (find_mem hf)
    exact ⟨k, hf, a1, a2, a3, a5⟩
  refine ⟨fun y hy e => ?_, fun y hy e => ?_, ?_⟩
  · obtain ⟨k, hf, a1, a2, a3, a5⟩ := hone y hy
    have hchk : chkS y.2 = 0 := upS a3 (by omega)
    refine ⟨hchk, ?_⟩
    rw [a1, e, hk] at hf
    rw [← e0] at hl
    unfold lookSt at hl
    rw [hk] at hl
    injection hf with hf
    simp only [] at hl
    rw [hf] at hl
    have hv : ∃ v, look y.2 p.2.t = some v ∧ p.2.v ≤ v := by
      rw [hl]
      cases o with
      | none => exact ⟨p.2.v, rfl, Int.le_refl _⟩
      | some u => exact ⟨max u p.2.v, rfl, by omega⟩
    obtain ⟨v, hv1, hv2⟩ := hv
    refine ⟨v, ?_, hv2⟩
    unfold rangeN
    rw [if_neg (by rw [hchk]; simp)]
    exact filter_one a3 hv1
  · obtain ⟨k, hf, a1, a2, _⟩ := hone y hy
    have hne : txL p.1 ≠ k := fun e2 => e (txL_inj a2 hc (a1.symm.trans e2.symm))
    rw [e0] at hf
    unfold addN at hf
    rw [find_put, if_neg hne] at hf
    exact mem_all hf
  · refine ⟨_, mem_all hk, ?_⟩
    obtain ⟨a1, a2, _⟩ := h'.ent _ (find_mem hk)
    exact (txL_inj hc a2 a1).symm
end Go.Proofs.YtdnlnkbnfiamiaaGreatDoor
namespace Go.Proofs.YtdnlnkbnfiamiaaGreatDoor
open Go.RowKit

def ptsOf (l : List PutE) : List Pt := l.map fun e => (e.t.l, e.x)
theorem ptsOf_in {w : World} {l : List PutE} (h : ∀ e ∈ l, e.good w) : ∀ p ∈ ptsOf l, SmpIn p.2 := fun p hp => by
  obtain ⟨e, he, rfl⟩ := List.mem_map.1 hp
  exact (h e he).2
theorem PutE.good.next {w w' : World} {e : PutE} (h : e.good w) (hb : Below w.heap.size w w') : e.good w' := ⟨h.1.next hb, h.2⟩
theorem ptsOf_take {l : List PutE} {j : Nat} (h : j < l.length) : (ptsOf l).take (j + 1) = (ptsOf l).take j ++ [((at_ l j).t.l, (at_ l j).x)] := by
  unfold ptsOf
  rw [List.take_add_one, List.getElem?_map, List.getElem?_eq_getElem h, at_eq h]
  rfl
def StoredP (ps : List Pt) (w : World) (v : Value) (w' : World) : Prop := ∃ g, v = .pointer (some ⟨g, 0, none⟩) ∧ StM w' w.heap.size g (runN ([], []) ps).2 0 (runN ([], []) ps).1 ∧ Below w.heap.size w w'
set_option maxRecDepth 1000000 in
set_option maxHeartbeats 4000000 in
theorem stored_any (A : Option Addr) (n c : Nat) (l : List PutE) (hn : l.length = n) (hn21 : n ≤ 21) (w : World) (hgood : ∀ e ∈ l, e.good w) (h : Has w w.heap.size A (putCs l)) (tS : SgAt w) :
    Calls Tryz.prog 11 #[.slice A n c] w (RV (StoredP (ptsOf l) w)) := by
  have Hn := Lib.hid hn
  have Hgood := Lib.hid hgood
  have Hh := Lib.hid h
  have HS := Lib.hid tS
  have Hin := Lib.hid (ptsOf_in hgood)
  clear hn hgood h tS
  go_enter Tryz.func11, Tryz.ntmps11
  go_wp2_with fail
  refine (snew_any w).mono ?_
  rintro e w1 ⟨v, rfl, g, rfl, hM1, hb1⟩
  have hM1 := Lib.hid hM1
  have hb1 := Lib.hid hb1
  go_wp2_with fail
  go_loopw [9] (fun i wr => ∃ j : Nat, j ≤ n ∧ i = .int .i64 (j : Nat) ∧ Hid (StM wr w.heap.size g (runN ([], []) ((ptsOf l).take j)).2 0 (runN ([], []) ((ptsOf l).take j)).1) ∧ Hid (Below w.heap.size w wr)) (fun i _ => n + 5 - (intOf i).toNat)
  case atStart => exact ⟨0, by omega, rfl, Lib.hid (by rw [List.take_zero]; exact hM1.out), hb1⟩
  case round =>
    obtain ⟨j, hj, rfl, hM, hbr⟩ := hrel
    by_cases hlt : (j : Int) < (n : Int)
    · have hjl : j < l.length := by rw [Hn.out]; omega
      have hHr := Hh.out.next hbr.out
      obtain ⟨ad, rfl, _, c0⟩ := hHr.at (putCs_0 hjl)
      obtain ⟨ad', e', _, c1⟩ := hHr.at (putCs_1 hjl)
      injection e' with e'
      subst e'
      obtain ⟨ad', e', _, c2⟩ := hHr.at (putCs_2 hjl)
      injection e' with e'
      subst e'
      have c1 := cell_off c1 (by decide)
      have c2 := cell_off c2 (by decide)
      obtain ⟨⟨gl1, gl2, gl3, gl4, gl5⟩, gx⟩ := (Hgood.out _ (at_mem hjl)).next hbr.out
      have htk := Lib.hid (ptsOf_take hjl)
      obtain ⟨⟨⟨LA, lc, L⟩, x⟩, hp⟩ : ∃ p, at_ l j = p := ⟨_, rfl⟩
      rw [hp] at c0 c1 c2 gl1 gl2 gl3 gl4 gl5 gx htk
      simp only [] at c0 c1 c2 gl1 gl2 gl3 gl4 gl5 gx htk
      obtain ⟨ln, hln⟩ : ∃ ln, L.length = ln := ⟨_, rfl⟩
      rw [hln] at c0 gl2
      have Hln := Lib.hid hln
      have q1 : (0 : Int) ≤ (j : Int) := by omega
      have gl5 := Lib.hid gl5
      have gl1 := Lib.hid gl1
      clear hp hln hjl hHr
      go_upto_region 5 with fail
      obtain ⟨W6, hW6⟩ : ∃ W6, wr.alloc (.cells #[.slice LA ln lc, .int .i64 x.t, .int .i64 x.v] 29) = W6 := ⟨_, rfl⟩
      obtain ⟨q6, hq6⟩ : ∃ q6, wr.heap.size = q6 := ⟨_, rfl⟩
      have hb6 : Below wr.heap.size wr W6 := by rw [← hW6]; exact one_allocB _ _
      have k6 : Blk W6 q6 29 #[.slice LA ln lc, .int .i64 x.t, .int .i64 x.v] := by rw [← hW6]; exact Blk.newD _ _ _ _ hq6
      rw [hW6, hq6]
      have x0 : W6.cell? ⟨q6, 0, none⟩ = some (.slice LA ln lc) := k6.cell 0
      have x1 : W6.cell? ⟨q6, 1, none⟩ = some (.int .i64 x.t) := k6.cell 1
      have x2 : W6.cell? ⟨q6, 2, none⟩ = some (.int .i64 x.v) := k6.cell 2
      have hbr6 := bnext hbr.out hb6
      have hin : ∀ p ∈ (ptsOf l).take j, SmpIn p.2 := fun p hp => Hin.out p (List.mem_of_mem_take hp)
      have hI := InvS.run ((ptsOf l).take j) hin InvS.nil
      have hlj : ((ptsOf l).take j).length ≤ j := by rw [List.length_take]; exact Nat.min_le_left _ _
      have hP := Lib.hid (put_store w.heap.size g _ 0 _ (hI.ok (by omega)) (by have := hI.disk; omega) LA ln lc L Hln.out (by omega) (fun e => by have := gl4 e; omega) x gx gl1.out W6 (hM.out.next hb6) hbr6.size (gl5.out.next hb6) (HS.out.next hbr6))
      have hbr6 := Lib.hid hbr6
      clear hW6 hq6 hI hin hlj k6 hb6
      go_wp2_with fail
      refine hP.out.mono ?_
      rintro e w7 ⟨rfl, hM7, hO7⟩
      have e7 : runN ([], []) ((ptsOf l).take (j + 1)) = (putN (runN ([], []) ((ptsOf l).take j)) L x).1 := by rw [htk.out, runN_snoc]
      have hM7 := Lib.hid hM7
      have hO7 := Lib.hid hO7
      go_wp2_with fail
      go_roundw
      case rel => exact ⟨j + 1, by omega, by go_num, Lib.hid (by rw [e7]; exact hM7.out), Lib.hid (hbr6.out.trans hO7.out.below)⟩
      case measure => simp [intOf]; omega
    · obtain rfl : j = n := by omega
      have htk : (ptsOf l).take j = ptsOf l := List.take_of_length_le (by unfold ptsOf; rw [List.length_map, Hn.out]; exact Nat.le_refl _)
      rw [htk] at hM
      clear htk
      go_wp2_with fail
      go_ret
      exact RV.mk ⟨g, rfl, hM.out, hbr.out⟩
end Go.Proofs.YtdnlnkbnfiamiaaGreatDoor
namespace Go.Proofs.YtdnlnkbnfiamiaaGreatDoor
open Go.RowKit

set_option maxRecDepth 1000000 in
set_option maxHeartbeats 8000000 in
theorem storeGrows_any (W : World) (A : Option Addr) (c : Nat) (l : List PutE) (ok : ∀ e ∈ l, e.good W) (_lc : l.length ≤ c) (_cm : c ≤ maxLen) (_nil : A = none → c = 0) (has : Has W W.heap.size A (putCs l)) (_reach : l.length * 40 ≤ 140737488351232) (p : PutE) (gp : p.good W) (tS : SgAt W) :
    Calls Tryz.prog 4 #[.slice A l.length c, .agg #[.slice p.t.A p.t.l.length p.t.c, .int .i64 p.x.t, .int .i64 p.x.v]] W (R1 (.bool true) (Below W.heap.size W)) := by
  obtain ⟨n, hn⟩ : ∃ n, l.length = n := ⟨_, rfl⟩
  rw [hn]
  obtain ⟨⟨gl1, gl2, gl3, gl4, gl5⟩, gx⟩ := gp
  obtain ⟨⟨LA, lcp, L⟩, x⟩ := p
  simp only [] at gl1 gl2 gl3 gl4 gl5 gx ⊢
  obtain ⟨ln, hln⟩ : ∃ ln, L.length = ln := ⟨_, rfl⟩
  rw [hln] at gl2 ⊢
  obtain ⟨W0, hW0⟩ : ∃ W0, W.alloc (.cells #[.slice LA ln lcp, .int .i64 x.t, .int .i64 x.v] 29) = W0 := ⟨_, rfl⟩
  obtain ⟨q, hq⟩ : ∃ q, W.heap.size = q := ⟨_, rfl⟩
  have hb0 : Below W.heap.size W W0 := by rw [← hW0]; exact one_allocB _ _
  have kp : Blk W0 q 29 #[.slice LA ln lcp, .int .i64 x.t, .int .i64 x.v] := by rw [← hW0]; exact Blk.newD _ _ _ _ hq
  have HSt := Lib.hid (stores_true W0 (tS.next hb0))
  have HW0 := Lib.hid hW0
  have Hq := Lib.hid hq
  by_cases h20 : (20 : Int) < (n : Int)
  · clear hW0 hq
    go_enter Tryz.func4, Tryz.ntmps4
    go_upto_region 1 with fail
    rw [HW0.out, Hq.out]
    go_wp2_with fail
    refine HSt.out.mono ?_
    rintro e w1 ⟨rfl, hb1⟩
    go_wp2_with fail
    go_ret
    exact R1.mk rfl (bnext hb0 hb1)
  have h20' : n ≤ 20 := by omega
  have hin := ptsOf_in ok
  have hI := InvS.run (ptsOf l) hin InvS.nil
  have hpl : (ptsOf l).length = n := by unfold ptsOf; rw [List.length_map, hn]
  rw [Nat.zero_add, hpl] at hI
  have HSd := fun (w' : World) (hb : Below W.heap.size W w') => stored_any A n c l hn (by omega) w' (fun e he => (ok e he).next hb) (has.next hb) (tS.next hb)
  unfold StoredP at HSd
  obtain ⟨s1, hs1⟩ : ∃ s, runN ([], []) (ptsOf l) = s := ⟨_, rfl⟩
  rw [hs1] at hI
  simp only [hs1] at HSd
  have HSd := Lib.hid HSd
  have hI2 : InvS (putN s1 L x).1 (n + 1) := hI.put (p := (L, x)) gx
  have ok1 := Lib.hid (hI.ok (by omega))
  have ky1 := Lib.hid hI.keyOk
  have ok2 := Lib.hid (hI2.ok (by omega))
  have ky2 := Lib.hid hI2.keyOk
  have hdk : s1.2.length ≤ 28000 := by have := hI.disk; omega
  have HPt := Lib.hid (fun (base g : Nat) (w' : World) (hb : Below W.heap.size W w') (hbase : base ≤ w'.heap.size) (hM : StM w' base g s1.2 0 s1.1) => put_store base g s1.2 0 s1.1 ok1.out hdk LA ln lcp L hln (by omega) (fun e => by have := gl4 e; omega) x gx gl1 w' hM hbase (gl5.next hb) (tS.next hb))
  have HG := Lib.hid (fun (hok : okP (L, x)) => grow_all hI (by omega) (p := (L, x)) hok gx)
  have HLb := Lib.hid (fun (w' : World) (hb : Below W.heap.size W w') => gl5.next hb)
  have Hln := Lib.hid hln
  have hlm : ln ≤ maxLen := by omega
  have hin64 : Hid (-9223372036854775808 ≤ x.v ∧ x.v ≤ 9223372036854775807) := Lib.hid gx.2
  have Hput := Lib.hid (fun (h : (putN s1 L x).2 ≠ 0) => show (putN s1 L x).1 = s1 by
    by_cases hh : okP (L, x)
    · have := putN_ok (s := s1) hh; rw [show putN s1 L x = _ from this] at h; exact absurd rfl h
    · have := putN_no (s := s1) hh; rw [show putN s1 L x = _ from this])
  have Hpok := Lib.hid (fun (h : (putN s1 L x).2 = 0) => show okP (L, x) by
    by_cases hh : okP (L, x)
    · exact hh
    · have := putN_no (s := s1) hh
      rw [show putN s1 L x = _ from this] at h
      exact h)
  clear hn hin hI hpl hs1 hI2 hdk hln gl1 gl4 gl5 gx ok has tS hW0 hq
  go_enter Tryz.func4, Tryz.ntmps4
  go_upto_region 1 with fail
  rw [HW0.out, Hq.out]
  go_wp2_with fail
  refine HSt.out.mono ?_
  rintro e w1 ⟨rfl, hb1⟩
  have hb01 := bnext hb0 hb1
  go_wp2_with fail
  refine (HSd.out _ hb01).mono ?_
  rintro e w2 ⟨v, rfl, g, rfl, hM2, hb2⟩
  have hb02 := bnext hb01 hb2
  go_wp2_with fail
  refine (all_any _ g _ 0 _ ok1.out ky1.out _ hM2).mono ?_
  rintro e w3 ⟨v, rfl, A3, n3, c3, es3, rfl, hn3, ho3, hr3, hb3⟩
  have hb03 := bnext hb02 hb3
  have hM3 := hM2.next hb3
  have kp3 := kp.next (bnext hb1 (bnext hb2 hb3))
  have x0 : w3.cell? ⟨q, 0, none⟩ = some (.slice LA ln lcp) := kp3.cell 0
  have x1 : w3.cell? ⟨q, 1, none⟩ = some (.int .i64 x.t) := kp3.cell 1
  have x2 : w3.cell? ⟨q, 2, none⟩ = some (.int .i64 x.v) := kp3.cell 2
  have hP3 := Lib.hid (HPt.out _ g w3 hb03 (Nat.le_trans hb2.size hb3.size) hM3)
  have hlt3 := own_len ho3
  have ho3 := Lib.hid ho3
  have hr3 := Lib.hid hr3
  have Hb1 := Lib.hid (Nat.le_trans hb0.size (Nat.le_refl _))
  have hb03 := Lib.hid hb03
  have Hn3 := Lib.hid hn3
  have hbase : Hid (W.heap.size ≤ w1.heap.size) := Lib.hid hb01.size
  clear hM2 hM3 hn3 hb0 hb1 hb2 hb3 hb01 hb02 kp
  go_wp2_with fail
  refine hP3.out.mono ?_
  rintro e w4 ⟨rfl, hM4, hO4⟩
  have hb04 := Lib.hid (hb03.out.trans (hO4.below.mono hbase.out))
  have ho4 := Lib.hid (hO4.own ho3.out (by unfold StKind; decide))
  have hr4 := Lib.hid (hr3.out.keep fun v y h => h.out hO4)
  have kp4 := hO4.blk kp3 (by unfold StKind; decide)
  obtain ⟨er, her⟩ : ∃ er, (putN s1 L x).2 = er := ⟨_, rfl⟩
  rw [her] at Hput Hpok ⊢
  clear her x0 x1 x2 kp3 ho3 hr3 hP3 hO4
  by_cases he : er = 0
  · subst he
    have Hokp := Lib.hid (Hpok.out rfl)
    have HGr := Lib.hid (HG.out Hokp.out)
    obtain ⟨s2, hs2⟩ : ∃ s2, (putN s1 L x).1 = s2 := ⟨_, rfl⟩
    have hGe : (putN s1 (L, x).1 (L, x).2).1 = s2 := hs2
    rw [hGe] at HGr
    rw [hs2] at hM4 ok2 ky2
    have hAl := Lib.hid (all_any _ g _ 0 _ ok2.out ky2.out w4 hM4)
    clear hs2 hGe hM4
    go_wp2_with fail
    refine hAl.out.mono ?_
    rintro e w5 ⟨v, rfl, A5, n5, c5, es5, rfl, hn5, ho5, hr5, hb5⟩
    have Hn5 := Lib.hid hn5
    have hlt5 := own_len ho5
    have hb05 := Lib.hid (bnext hb04.out hb5)
    have ho45 := Lib.hid (own_next ho4.out hb5)
    have hr45 := Lib.hid (hr4.out.next hb5)
    have kp5 := Lib.hid (kp4.next hb5)
    have hH5 := Lib.hid (Has.of_own ho5)
    have hr5 := Lib.hid hr5
    clear hn5 ho5 hb5 kp4
    have hn5m : n5 < 200 := by rw [← Hn5.out, allN_len]; exact ok2.out.1
    have hn3m : n3 ≤ maxLen := by omega
    clear hlt5 hlt3
    go_wp2_with fail
    go_loopw [35, 7] (fun i t wr => ∃ (j : Nat) (b : Bool), j ≤ n5 ∧ i = .int .i64 (j : Nat) ∧ t = .bool b ∧ Hid ((∃ k, k < j ∧ (at_ (allN s2.1) k).1 = L) → b = true) ∧ Hid (Below w5.heap.size w5 wr)) (fun i _ _ => n5 + 5 - (intOf i).toNat)
    case atStart => exact ⟨0, false, by omega, rfl, rfl, Lib.hid (fun ⟨k, hk, _⟩ => by omega), Lib.hid (Below.refl _ _)⟩
    case round =>
      obtain ⟨j, b, hj, rfl, rfl, hth, hbr⟩ := hrel
      by_cases hlt : (j : Int) < (n5 : Int)
      · have hjl : j < (allN s2.1).length := by rw [Hn5.out]; omega
        obtain ⟨u0, u1, hu0, hu1, hs⟩ := hr5.out.get hjl
        have hmem : at_ (allN s2.1) j ∈ allN s2.1 := at_mem hjl
        obtain ⟨ad, rfl, hbk, k0⟩ := (hH5.out.next hbr.out).at hu0
        obtain ⟨ad', e', _, k1⟩ := (hH5.out.next hbr.out).at hu1
        injection e' with e'
        subst e'
        have k1 := cell_off k1 (by decide)
        obtain ⟨z, hz⟩ : ∃ z, at_ (allN s2.1) j = z := ⟨_, rfl⟩
        rw [hz] at hs hmem
        have hs := hs.next hbr.out
        obtain ⟨B1, m1, r1, B2, m2, r2, e5, e6, e7, hoa, hob⟩ := id hs
        simp at e5
        obtain ⟨rfl, rfl⟩ := e5
        have HZ := Lib.hid hz
        have hs := Lib.hid hs
        have q1 : (0 : Int) ≤ (j : Int) := by omega
        clear hz hu0 hu1 hjl
        go_upto_region 13 with fail
        obtain ⟨W9, hW9⟩ : ∃ W9, wr.alloc (.cells #[.slice B1 m1 r1, .slice B2 m2 r2] 42) = W9 := ⟨_, rfl⟩
        obtain ⟨q9, hq9⟩ : ∃ q9, wr.heap.size = q9 := ⟨_, rfl⟩
        have hb9 : Below wr.heap.size wr W9 := by rw [← hW9]; exact one_allocB _ _
        have k9 : Blk W9 q9 42 #[.slice B1 m1 r1, .slice B2 m2 r2] := by rw [← hW9]; exact Blk.newD _ _ _ _ hq9
        rw [hW9, hq9]
        have hb59 := Lib.hid (bnext hbr.out hb9)
        have kp9 := kp5.out.next hb59.out
        have x0 : W9.cell? ⟨q, 0, none⟩ = some (.slice LA ln lcp) := kp9.cell 0
        have x1 : W9.cell? ⟨q, 1, none⟩ = some (.int .i64 x.t) := kp9.cell 1
        have y0 : W9.cell? ⟨q9, 0, none⟩ = some (.slice B1 m1 r1) := k9.cell 0
        have y1 : W9.cell? ⟨q9, 1, none⟩ = some (.slice B2 m2 r2) := k9.cell 1
        obtain ⟨la1, la2⟩ := own_len hoa
        obtain ⟨lb1, lb2⟩ := own_len hob
        have hSL := Lib.hid (sameLabN_any B1 LA m1 ln r1 lcp z.1 L e6 Hln.out (by omega) hlm W9 ((Has.of_own hoa).next hb9) (HLb.out _ (bnext hb05.out hb59.out)))
        have hs9 := Lib.hid (hs.out.next hb9)
        by_cases hzL : z.1 = L
        · obtain ⟨hchk, v, hrng, hvx⟩ := HGr.out.here z hmem hzL
          obtain ⟨_, _, ht1, ht2⟩ := enc_ok (L := L) (x := x) Hokp.out
          have et : IntKind.i64.wrap (x.t + 1) = x.t + 1 := IntWalk.i64_in _ (by omega)
          have hRg : ∀ w' : World, Below W9.heap.size W9 w' → Calls Tryz.prog 16 #[.slice B2 m2 r2, .int .i64 x.t, .int .i64 (x.t + 1)] w' (RV (RangeP z.2 x.t (x.t + 1) w')) := fun w' hb => e7 ▸ range_any B2 r2 z.2 (by omega) lb2 x.t (x.t + 1) w' (((Has.of_own hob).next hb9).next hb)
          have hrng : Hid (rangeN z.2 x.t (x.t + 1) = [⟨x.t, v⟩]) := Lib.hid hrng
          have hchk := Lib.hid hchk
          have hRg := Lib.hid hRg
          have fv : decide (x.v ≤ v) = true := by rw [decide_eq_true_iff]; exact hvx
          rw [decide_eq_true hzL] at hSL
          have hzL := Lib.hid hzL
          clear hW9 hq9 hvx e6 e7 la1 la2 lb1 lb2 hoa hob k0 k1 hmem ht1 ht2
          go_wp2_with fail
          refine hSL.out.mono ?_
          rintro e w10 ⟨rfl, nd, rfl⟩
          go_wp2_with fail
          refine (hRg.out _ (below_drewN (Below.refl _ _) _)).mono ?_
          rintro e w11 ⟨vv, rfl, A7, c7, hvv, ho7, hb11⟩
          rw [hrng.out] at hvv ho7
          rw [hchk.out] at hvv
          subst hvv
          obtain ⟨g7, cap7, ev7, hg7, _⟩ := ho7.form (by simp)
          injection ev7 with e71 e72 e73
          subst e71 e73
          have v1 : w11.cell? ⟨g7, 1, none⟩ = some (.int .i64 v) := (ho7.cellAt 1 (by simp)).trans rfl
          have hb511 := Lib.hid (bnext (below_drewN hb59.out _) hb11)
          have kp11 := kp5.out.next hb511.out
          have z2 : w11.cell? ⟨q, 2, none⟩ = some (.int .i64 x.v) := kp11.cell 2
          rw [show ([(⟨x.t, v⟩ : Smp)]).length = 1 from rfl]
          have hzt : Hid (Below w5.heap.size w5 w11) := hb511
          clear kp11 ho7 hb11
          go_wp2_with fail
          go_quiet (fail)
          go_wp2_with fail
          go_roundw
          case rel => exact ⟨j + 1, true, by omega, by go_num, rfl, Lib.hid (fun _ => rfl), Lib.hid (below_drewN hb511.out _)⟩
          case measure => simp [intOf]; omega
        · rw [decide_eq_false hzL] at hSL
          have hinw := HGr.out.other z hmem hzL
          have hCF := Lib.hid (fun (k : Nat) => growIn_any A3 n3 c3 (allN s1.1) es3 _ _ q9 B1 m1 r1 B2 m2 r2 z Hn3.out hn3m (W9.drewN k) ((Has.of_own ho45.out).next (below_drewN hb59.out k)) (hr45.out.next (below_drewN hb59.out k)) (k9.drewN k) (hs9.out.next (below_drewN (Below.refl _ _) k)) hinw)
          have hzL := Lib.hid hzL
          clear hW9 hq9 e6 e7 la1 la2 lb1 lb2 hoa hob k0 k1 hmem hinw
          go_wp2_with fail
          refine hSL.out.mono ?_
          rintro e w10 ⟨rfl, nd, rfl⟩
          go_wp2_with fail
          refine (hCF.out _).mono ?_
          rintro e w11 ⟨rfl, hb11⟩
          have hb511 := Lib.hid (bnext (below_drewN hb59.out _) hb11)
          go_wp2_with fail
          go_roundw
          case rel => exact ⟨j + 1, b, by omega, by go_num, rfl, Lib.hid (fun ⟨k, hk, e⟩ => hth.out ⟨k, by rcases Nat.lt_or_ge k j with h1 | h1; exact h1; exact absurd (by rw [← HZ.out, show j = k by omega]; exact e) hzL.out, e⟩), hb511⟩
          case measure => simp [intOf]; omega
      · obtain rfl : j = n5 := by omega
        have hb : b = true := by
          obtain ⟨y, hy, e⟩ := HGr.out.there
          obtain ⟨k, hk, ek⟩ := List.getElem_of_mem hy
          exact hth.out ⟨k, by rw [Hn5.out] at hk; exact hk, by rw [at_eq hk, ek]; exact e⟩
        subst hb
        go_wp2_with fail
        go_ret
        exact R1.mk rfl (bnext hb05.out hbr.out)
  · have hst := Hput.out he
    rw [hst] at hM4
    have hAl := Lib.hid (all_any _ g _ 0 _ ok1.out ky1.out w4 hM4)
    clear hM4
    go_wp2_with fail
    refine hAl.out.mono ?_
    rintro e w5 ⟨v, rfl, A5, n5, c5, es5, rfl, hn5, ho5, hr5, hb5⟩
    have hb05 := Lib.hid (bnext hb04.out hb5)
    have hlt5 := own_len ho5
    have hEq := Lib.hid (sameSer_any A5 A3 n5 n3 c5 c3 (allN s1.1) (allN s1.1) es5 es3 _ _ hn5 Hn3.out (by omega) (by omega) w5 (Has.of_own ho5) hr5 ((Has.of_own ho4.out).next hb5) (hr4.out.next hb5))
    rw [decide_eq_true rfl] at hEq
    clear hn5 ho5 hr5 hb5
    go_wp2_with fail
    refine hEq.out.mono ?_
    rintro e w6 ⟨rfl, hb6⟩
    go_wp2_with fail
    go_ret
    exact R1.mk rfl (bnext hb05.out hb6)
end Go.Proofs.YtdnlnkbnfiamiaaGreatDoor
