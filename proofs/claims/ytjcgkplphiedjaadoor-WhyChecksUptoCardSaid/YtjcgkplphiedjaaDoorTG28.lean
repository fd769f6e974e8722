/- A map as a set of keys. | The set of some facts' keys; is a fact in it? -/
import Derived.Test.YtjcgkplphiedjaaDoorTG27
import Derived.Maps.OwnSet
import Derived.StringKeys
namespace Go.Proofs.YtjcgkplphiedjaaDoorT
open Go.RowKit Go.Sort Go.WideMaps
open Go.Maps (Keyed IsMap string_keyed)

theorem stringK : Keyed Tryd.prog 9 := string_keyed Tryd.underlying9
theorem zeroU (w : World) : (zeroValue 121).run Tryd.prog w = .ok (.agg #[]) w := by kernel_rfl

/-- A map in which the texts of S are keys, nothing else. -/
def Sm (w : World) (b k : Nat) (S : List (List UInt8)) : Prop :=
  ∃ D : DataW Unit, w.ownsMap Tryd.prog 9 unitElem b k D ∧ IsMap D ∧ ∀ s : ByteArray, Go.Maps.has D (.string s.data.toList) = S.any (fun t => decide (t = s.toList))
theorem Sm.of_block {w w' : World} {b k : Nat} {S : List (List UInt8)} (h : Sm w b k S) (e : w'.heap[b]? = w.heap[b]?) : Sm w' b k S := by
  obtain ⟨D, ⟨es, clock, h1, h2⟩, h3⟩ := h
  exact ⟨D, ⟨es, clock, e.trans h1, h2⟩, h3⟩
theorem Sm.lt {w : World} {b k : Nat} {S : List (List UInt8)} (h : Sm w b k S) : b < w.heap.size := by
  obtain ⟨D, h1, _⟩ := h
  exact h1.lt
theorem Sm.below {w w' : World} {b k B : Nat} {S : List (List UInt8)} (h : Sm w b k S) (hb : Below B w w') (hB : b < B) : Sm w' b k S := h.of_block (hb.block b hB)
theorem Sm.up {w w' : World} {b k : Nat} {S : List (List UInt8)} (h : Sm w b k S) (hb : Below w.heap.size w w') : Sm w' b k S := h.below hb h.lt
theorem Sm.made (w : World) : Sm (w.alloc (.map #[] 0)) w.heap.size 0 [] :=
  ⟨_, World.ownsMap_made w Tryd.prog 9 _, Go.Maps.isMap_empty, fun _ => rfl⟩

theorem wpList_lookup_sm {w : World} {ops : Array Oper} {rest : List Oper} {o : Oper} {a : Act} {Q : Exit → Act → World → Prop} (hg : o.guard = none) (m x : Operand) (hop : o.op = Op.lookup 88 m x true)
    (b n : Nat) (S : List (List UInt8)) (hm : a.eval m = .map (some b)) (h : Sm w b n S) (s : ByteArray) (hx : a.eval x = .string s) (hs : s.size ≤ maxLen)
    (hK : wpList Tryd.prog ops Q rest (a.put o.dst (.tuple #[.agg #[], .bool (S.any (fun t => decide (t = s.toList)))])) w) : wpList Tryd.prog ops Q (o :: rest) a w := by
  obtain ⟨D, h1, h2, h3⟩ := h
  refine wpList_lookup_own_unit w hg m x 88 hop 9 121 stringK Tryd.underlying88 (zeroU _) b n D hm h1 _ _ hx (keyOf_string_mk Tryd.underlying9 hs) ?_
  rw [h3 s]
  exact hK

theorem wpList_update_sm {w : World} {ops : Array Oper} {rest : List Oper} {o : Oper} {a : Act} {Q : Exit → Act → World → Prop} (hg : o.guard = none) (m x v : Operand) (hop : o.op = Op.mapUpdate 88 m x v)
    (b n : Nat) (S : List (List UInt8)) (hm : a.eval m = .map (some b)) (h : Sm w b n S) (hn : n < maxLen) (s : ByteArray) (hx : a.eval x = .string s) (hs : s.size ≤ maxLen) (hv : a.eval v = .agg #[])
    (hK : ∀ w', Sm w' b (n + 1) (s.toList :: S) → w.grownBy w' (some b) → wpList Tryd.prog ops Q rest (a.put o.dst undef) w') : wpList Tryd.prog ops Q (o :: rest) a w := by
  obtain ⟨D, h1, h2, h3⟩ := h
  refine wpList_mapUpdate_own w hg m x v 88 hop 9 121 stringK Tryd.underlying88 _ b n D hm h1 hn _ _ _ hx hv (keyOf_string_mk Tryd.underlying9 hs) _ [] unitElem_mk ?_
  intro w' h4 h5
  refine hK w' ⟨_, h4, h2.put _ _, fun s' => ?_⟩ h5
  by_cases e : s' = s
  · subst e
    rw [Go.Maps.has_put_same h2 (stringK.key (keyOf_string_mk Tryd.underlying9 hs))]
    simp
  · have hne : Lit.string s'.data.toList ≠ Lit.string s.data.toList := by
      intro he
      injection he with he
      exact e (toList_inj (by rw [ByteArray.toList_eq, ByteArray.toList_eq]; exact he))
    rw [Go.Maps.has_put_other hne, h3 s', List.any_cons]
    have : decide (s.toList = s'.toList) = false := decide_eq_false (fun h => e (toList_inj h.symm))
    rw [this, Bool.false_or]
end Go.Proofs.YtjcgkplphiedjaaDoorT

namespace Go.Proofs.YtjcgkplphiedjaaDoorT
open Go.RowKit Go.Sort
open YtjcgkplphiedjaaDoor (Pow)

/-- The keys of facts. -/
def keysM (T : Lib.PrintTabs) (ms : List Fa) : List (List UInt8) := ms.map fun y => keyB T y.s y.xs
def inS (S : List (List UInt8)) (t : List UInt8) : Bool := S.any fun u => decide (u = t)
theorem keysM_has (T : Lib.PrintTabs) (ms : List Fa) (p : ByteArray) (xs : List Cn) : inS (keysM T ms).reverse (keyB T p xs) = memB ms p xs := by
  unfold inS keysM memB
  rw [List.any_reverse, List.any_map]
  congr 1
  funext y
  show decide (keyB T y.s y.xs = keyB T p xs) = decide (y.s = p ∧ y.xs = xs)
  exact decide_eq_decide.2 ⟨fun h => keyB_inj h, fun h => by rw [h.1, h.2]⟩
theorem keyB_length (T : Lib.PrintTabs) (p : ByteArray) (l : List Cn) (hz : ∀ z ∈ l, keyK z) : (keyB T p l).length ≤ 10 * p.size + 2 + l.length * 10485830 := by
  have h1 := args_length T l hz
  have h2 := quote_size T p
  have h3 : (qB T p).length = (strOfNums (Lib.quoteZ T p)).size := by unfold qB; rw [← toList_size]
  unfold keyB
  rw [List.length_append]
  omega
/-- What is small in a fact. -/
def Fa.small (y : Fa) : Prop := y.n ≤ 1048576 ∧ y.s.size ≤ 1048576 ∧ ∀ z ∈ y.xs, keyK z

set_option maxRecDepth 20000 in
set_option maxHeartbeats 4000000 in
theorem setOf_any (T : Lib.PrintTabs) (M : Option Addr) (m mc : Nat) (ms : List Fa) (w : World) (hm : Rd w w.heap.size 2 M m (facells ms)) (hms : ∀ y ∈ ms, y.ok w) (hmk : ∀ y ∈ ms, y.small) (ht : Tabs T w) (hp : Pow w) :
    Calls Tryd.prog 41 #[.slice M m mc] w fun e w' => ∃ b, e = .returned (.map (some b)) ∧ Sm w' b m (keysM T ms).reverse ∧ Below w.heap.size w w' := by
  have hl : ms.length = m := by have := hm.1; rw [facells_length] at this; omega
  have hmb := hm.2.1
  have HL := Lib.hid hl
  have HMS := Lib.hid hms
  have HMK := Lib.hid hmk
  have HLB := Lib.hid (LB.of ht hp rfl)
  have HM := Lib.hid hm
  clear hm hms hmk hl ht hp
  have hmm := @run_makeMap Tryd.prog
  go_enter Tryd.func41, Tryd.ntmps41
  go_upto_region 3 with (fail)
  clear hmm
  have hb1 := (Below.refl w.heap.size w).alloc (Nat.le_refl _) (.map #[] 0)
  have hm1 := Sm.made w
  generalize World.alloc _ _ = w1 at *
  generalize hR : w.heap.size = R at *
  have HRR := Lib.hid hR
  clear hR
  have HB1 := Lib.hid hb1
  have HS1 := Lib.hid hm1
  clear hb1 hm1
  go_loopg [9] m (fun gk u9 wr => ∃ i : Nat, u9 = .int .i64 i ∧ i ≤ m ∧ Hid (gk = m - i) ∧ Hid (Below R w wr) ∧ Hid (Sm wr R i (keysM T (ms.take i)).reverse))
  case atStart => exact ⟨0, rfl, Nat.zero_le _, Lib.hid (by omega), HB1, HS1⟩
  case round =>
    clear HB1 HS1
    obtain ⟨i, rfl, hi, HG, HB, HS⟩ := hrel
    have hlm := HS.out.lt
    by_cases hlt : i < m
    · obtain ⟨b1, o1, hk1, rfl, hlb, hc⟩ := (HM.out.below HB.out).at Fa.cells 2 (fun _ => rfl) (by omega) i hlt
      have c0 := hc 0 _ (by omega) rfl
      have c1 := hc 1 _ (by omega) rfl
      rw [Nat.add_zero] at c0
      clear hc
      have hy := (HMS.out ms[i] (List.getElem_mem hk1)).up (HRR.out ▸ HB.out)
      have hyk := HMK.out ms[i] (List.getElem_mem hk1)
      have HTK : Hid ((keysM T (ms.take (i + 1))).reverse = keyB T ms[i].s ms[i].xs :: (keysM T (ms.take i)).reverse) := Lib.hid (by
        unfold keysM
        rw [take_snoc ms i hk1, List.map_append, List.reverse_append]
        rfl)
      generalize ms[i] = y at *
      obtain ⟨yp, yA, yn, yc, yxs⟩ := y
      obtain ⟨k1, k2, k3⟩ := hyk
      have HY := Lib.hid hy
      have HKK := Lib.hid k3
      clear hy k3
      dsimp only at c0 c1 HTK k1 k2
      have hyl : yxs.length = yn := by have h : (kcells yxs).length = yn * 3 := HY.out.1; rw [kcells_length] at h; omega
      have hkl := keyB_length T yp yxs HKK.out
      go_upto_region 5 with (fail)
      have hba := (Below.refl wr.heap.size wr).alloc (Nat.le_refl _) (.cells #[.string yp, .slice yA yn yc] 45)
      have HX := Lib.hid (Blk.new wr 45 [.string yp, .slice yA yn yc])
      have HY2 := Lib.hid (Fa.ok.up HY.out hba)
      have HS2 := Lib.hid (HS.out.up hba)
      have HB2 := Lib.hid (HB.out.trans (hba.mono (by omega)))
      have hs2 := hba.size
      clear hba HY HS HB c0 c1
      generalize World.alloc _ _ = w2 at *
      have f0 := (HX.out.cell 0).trans rfl
      have f1 := (HX.out.cell 1).trans rfl
      go_wp2_with fail
      refine (key_any T yp yA yn yc yxs w2 HY2.out HKK.out k2 k1 (HLB.out w2 (HRR.out ▸ HB2.out)).1 (HLB.out w2 (HRR.out ▸ HB2.out)).2).mono ?_
      rintro e w3 ⟨rfl, hb3⟩
      have HS3 := Lib.hid (HS2.out.up hb3)
      have HB3 := Lib.hid (HB2.out.trans (hb3.mono (by omega)))
      have hs3 := hb3.size
      clear HS2 HB2 hb3 f0 f1 HX HY2
      obtain ⟨K, hK⟩ : ∃ K : ByteArray, K = ⟨(keyB T yp yxs).toArray⟩ := ⟨_, rfl⟩
      have hKt : K.toList = keyB T yp yxs := by rw [hK]; exact mk_list _
      have hKs : K.size ≤ 9223372036854775807 := by rw [toList_size, hKt]; omega
      rw [← hK]
      have HKT := Lib.hid hKt
      clear hK hKt hkl
      go_wp2_with (at_mapUpdate; go_must (refine wpList_update_sm rfl _ _ _ rfl R i _ rfl HS3.out (by unfold maxLen; omega) K rfl (by unfold maxLen; omega) rfl ?_))
      intro w7 hm7 hg7
      have HB7 := Lib.hid (HB3.out.grown hg7 (by omega) (fun q hq => by cases hq; omega))
      have HS7 : Hid (Sm w7 R (i + 1) (keysM T (ms.take (i + 1))).reverse) := Lib.hid (by rw [HTK.out, ← HKT.out]; exact hm7)
      clear hm7 hg7 HB3 HS3
      go_wp2
      go_roundg (m - (i + 1))
      case measure => have := HG.out; omega
      case rel => exact ⟨i + 1, by go_num, by omega, Lib.hid rfl, HB7, HS7⟩
    · obtain rfl : i = m := by omega
      have hall : ms.take i = ms := List.take_of_length_le (by have := HL.out; omega)
      rw [hall] at HS
      go_wp2
      go_ret
      exact ⟨R, rfl, HS.out, by rw [HRR.out]; exact HB.out⟩

set_option maxRecDepth 20000 in
set_option maxHeartbeats 4000000 in
theorem has_any (T : Lib.PrintTabs) (b k : Nat) (S : List (List UInt8)) (p : ByteArray) (A : Option Addr) (n c : Nat) (xs : List Cn) (w : World) (hs : Sm w b k S) (hr : Rd w w.heap.size 3 A n (kcells xs)) (hz : ∀ z ∈ xs, keyK z) (hps : p.size ≤ 1048576) (hn : n ≤ 1048576) (ht : Tabs T w) (hp : Pow w) :
    Calls Tryd.prog 43 #[.map (some b), .agg #[.string p, .slice A n c]] w fun e w' => e = .returned (.bool (inS S (keyB T p xs))) ∧ Below w.heap.size w w' := by
  have hl : xs.length = n := by have := hr.1; rw [kcells_length] at this; omega
  have hkl := keyB_length T p xs hz
  have HLB := Lib.hid (LB.of ht hp rfl)
  have HZ := Lib.hid hz
  obtain ⟨V, hV⟩ : ∃ V, V = inS S (keyB T p xs) := ⟨_, rfl⟩
  rw [← hV]
  have HV := Lib.hid hV
  clear ht hp hz hV
  go_enter Tryd.func43, Tryd.ntmps43
  go_upto_region 1 with (fail)
  have hba := (Below.refl w.heap.size w).alloc (Nat.le_refl _) (.cells #[.string p, .slice A n c] 45)
  have HX := Lib.hid (Blk.new w 45 [.string p, .slice A n c])
  have HS1 := Lib.hid (hs.up hba)
  have HR1 := Lib.hid (hr.up hba hba.size)
  have HB1 := Lib.hid hba
  clear hs hr hba
  generalize World.alloc _ _ = w1 at *
  generalize hR : w.heap.size = R at *
  have HRR := Lib.hid hR
  clear hR
  have hs1 := HB1.out.size
  have f0 := (HX.out.cell 0).trans rfl
  have f1 := (HX.out.cell 1).trans rfl
  go_wp2_with fail
  refine (key_any T p A n c xs w1 HR1.out HZ.out hps hn (HLB.out w1 (HRR.out ▸ HB1.out)).1 (HLB.out w1 (HRR.out ▸ HB1.out)).2).mono ?_
  rintro e w2 ⟨rfl, hb2⟩
  have HS2 := Lib.hid (HS1.out.up hb2)
  have HB2 := Lib.hid (HB1.out.trans (hb2.mono (HRR.out ▸ hs1)))
  have hs2 := hb2.size
  clear HS1 HB1 hb2 f0 f1 HX HR1
  obtain ⟨K, hK⟩ : ∃ K : ByteArray, K = ⟨(keyB T p xs).toArray⟩ := ⟨_, rfl⟩
  have hKt : K.toList = keyB T p xs := by rw [hK]; exact mk_list _
  have hKs : K.size ≤ 9223372036854775807 := by rw [toList_size, hKt]; omega
  rw [← hK]
  have HVK : Hid (S.any (fun t => decide (t = K.toList)) = V) := Lib.hid (by rw [HV.out, hKt]; rfl)
  clear hK hKt hkl
  go_wp2_with (at_lookup; go_must (refine wpList_lookup_sm rfl _ _ rfl b k _ rfl HS2.out K rfl (by unfold maxLen; omega) ?_); rw [HVK.out])
  have hba := (Below.refl w2.heap.size w2).alloc (Nat.le_refl _) (.cells #[] 121)
  have HB3 := Lib.hid (HB2.out.trans (hba.mono (by have := HRR.out; omega)))
  go_ret
  exact ⟨by rfl, by rw [HRR.out]; exact HB3.out⟩
end Go.Proofs.YtjcgkplphiedjaaDoorT
