/- The base of the walks: slices that read, blocks, the document's decimals as library numerals; places in a text. -/
import Derived.Test.YtjcgkplphiedjaaDoorA2
import Derived.Test.YtjcgkplphiedjaaDoorA3

namespace Go.Proofs.YtjcgkplphiedjaaDoor
open Go.RowKit

/-- A slice value that reads as the cells xs (size cells each element), its memory below block B. -/
def Rd (w : World) (B size : Nat) (A : Option Addr) (n : Nat) (xs : List Value) : Prop :=
  xs.length = n * size ∧ n ≤ 9223372036854775807 ∧ (0 < n → ∃ b o, A = some ⟨b, o, none⟩ ∧ b < B ∧ ∀ j u, xs[j]? = some u → w.cell? ⟨b, o + j, none⟩ = some u)

theorem Rd.below {w w' : World} {B size : Nat} {A : Option Addr} {n : Nat} {xs : List Value} (h : Rd w B size A n xs) (hb : Below B w w') : Rd w' B size A n xs := by
  refine ⟨h.1, h.2.1, fun hn => ?_⟩
  obtain ⟨b, o, hA, hlt, hc⟩ := h.2.2 hn
  exact ⟨b, o, hA, hlt, fun j u hu => (hb.cell (p := ⟨b, o + j, none⟩) hlt).trans (hc j u hu)⟩

/-- A block that is known whole. -/
def Blk (w : World) (g : Nat) (t : TypeId) (cs : List Value) : Prop := w.heap[g]? = some (.cells cs.toArray t (0, 0))

section
variable {w w' : World} {g : Nat} {t : TypeId} {cs : List Value}
theorem Blk.lt (h : Blk w g t cs) : g < w.heap.size := by
  rcases Nat.lt_or_ge g w.heap.size with hlt | hge
  · exact hlt
  · unfold Blk at h; rw [Array.getElem?_eq_none hge] at h; cases h
theorem Blk.cell (h : Blk w g t cs) (i : Nat) : w.cell? ⟨g, i, none⟩ = cs[i]? := by
  rw [cell_of_row w g i cs.toArray t (0, 0) h]; simp
theorem Blk.frozen (h : Blk w g t cs) (i : Nat) : w.frozen? ⟨g, i, none⟩ = false := by
  unfold Blk at h
  simp [World.frozen?, h]
theorem Blk.new (w : World) (t : TypeId) (cs : List Value) : Blk (w.alloc (.cells cs.toArray t)) w.heap.size t cs := heap_alloc_new w _
theorem Blk.drewN (h : Blk w g t cs) (n : Nat) : Blk (w.drewN n) g t cs := h
theorem Blk.drew (h : Blk w g t cs) : Blk w.drew g t cs := h
theorem Blk.alloc (h : Blk w g t cs) (o : Obj) : Blk (w.alloc o) g t cs := (Below.heap_alloc w o g h.lt).trans h
theorem Blk.set_ (h : Blk w g t cs) (i : Nat) (u : Value) : Blk (w.setCell ⟨g, i, none⟩ u) g t (cs.set i u) := by
  unfold Blk at h ⊢
  simp [World.setCell, Array.getElem?_modify, h]
theorem Blk.far (h : Blk w g t cs) {p : Addr} (hp : g ≠ p.block) (u : Value) : Blk (w.setCell p u) g t cs := (Below.heap_setCell w p u g hp).trans h
theorem Blk.below {B : Nat} (h : Blk w g t cs) (hb : Below B w w') (hg : g < B) : Blk w' g t cs := (hb.block g hg).trans h
theorem Blk.grown {row : Option Nat} (h : Blk w g t cs) (hb : w.grownBy w' row) (hg : some g ≠ row) : Blk w' g t cs := (hb.block g h.lt hg).trans h
end


theorem Rd.up {w w' : World} {B B' size n : Nat} {A : Option Addr} {xs : List Value} (h : Rd w B size A n xs) (hb : Below B w w') (hB : B ≤ B') : Rd w' B' size A n xs := by
  have h := h.below hb
  exact ⟨h.1, h.2.1, fun hn => by obtain ⟨b, o, h1, h2, h3⟩ := h.2.2 hn; exact ⟨b, o, h1, by omega, h3⟩⟩

theorem itoa_size (n : Int) (h0 : -9223372036854775808 ≤ n) (h1 : n ≤ 9223372036854775807) : (⟨(Lib.itoa n).toArray⟩ : ByteArray).size ≤ 21 := by
  have := Lib.itoa_length_le n h0 h1
  rw [toList_size, list_mk]; exact this

theorem decimal01_any (n : Int) (h0 : -9223372036854775808 ≤ n) (h1 : n ≤ 9223372036854775807) (w : World) :
    Calls Tryd.prog 53 #[.int .i64 n] w fun e w' => e = .returned (.string ⟨(Lib.itoa n).toArray⟩) ∧ Below w.heap.size w w' := by
  rcases Int.lt_or_le n 0 with h | h
  · obtain ⟨u, rfl⟩ : ∃ u : Nat, n = -(u : Int) := ⟨n.natAbs, by omega⟩
    rw [Lib.itoa_neg u (by omega)]
    exact decimal01_neg u (by omega) (by omega) w
  · obtain ⟨u, rfl⟩ : ∃ u : Nat, n = u := ⟨n.toNat, by omega⟩
    rw [Lib.itoa_nonneg]
    exact decimal01_pos u (by omega) w

set_option maxHeartbeats 1000000 in
theorem valid01_int (n : Int) (w : World) :
    Calls Tryd.prog 52 #[.agg #[.int .i64 1, .int .i64 n, .string ⟨#[]⟩]] w fun e w' => e = .returned (.bool true) ∧ Below w.heap.size w w' := by
  go_enter Tryd.func52, Tryd.ntmps52
  go_upto_region 1 with (fail)
  have hb1 := (Below.refl w.heap.size w).alloc (Nat.le_refl _) (.cells #[.int .i64 1, .int .i64 n, .string ⟨#[]⟩] 68)
  have h1 := Blk.new w 68 [.int .i64 1, .int .i64 n, .string ⟨#[]⟩]
  generalize World.alloc _ _ = w1 at *
  have f0 := h1.cell 0
  have f1 := h1.cell 1
  have f2 := h1.cell 2
  simp only [List.getElem?_cons_zero, List.getElem?_cons_succ] at f0 f1 f2
  generalize hR : w.heap.size = R at *
  go_wp2
  go_ret
  exact ⟨by rfl, by rw [hR]; exact hb1⟩

set_option maxHeartbeats 1000000 in
theorem text01_int (n : Int) (h0 : -9223372036854775808 ≤ n) (h1 : n ≤ 9223372036854775807) (w : World) :
    Calls Tryd.prog 32 #[.agg #[.int .i64 1, .int .i64 n, .string ⟨#[]⟩]] w fun e w' => e = .returned (.string ⟨(Lib.itoa n).toArray⟩) ∧ Below w.heap.size w w' := by
  have HN := Lib.hid (And.intro h0 h1)
  clear h0 h1
  go_enter Tryd.func32, Tryd.ntmps32
  go_upto_region 1 with (fail)
  have hb1 := (Below.refl w.heap.size w).alloc (Nat.le_refl _) (.cells #[.int .i64 1, .int .i64 n, .string ⟨#[]⟩] 68)
  have h1 := Blk.new w 68 [.int .i64 1, .int .i64 n, .string ⟨#[]⟩]
  generalize World.alloc _ _ = w1 at *
  generalize hR : w.heap.size = R at *
  have f0 := h1.cell 0
  have f1 := h1.cell 1
  have f2 := h1.cell 2
  simp only [List.getElem?_cons_zero, List.getElem?_cons_succ] at f0 f1 f2
  have H1 := Lib.hid h1
  have HB1 := Lib.hid hb1
  clear h1 hb1
  go_wp2_with fail
  refine (valid01_int n w1).mono ?_
  rintro e w2 ⟨rfl, hb2⟩
  have h2 := H1.out.below hb2 H1.out.lt
  have hs1 := HB1.out.size
  have hs := H1.out.lt
  have HB2 := Lib.hid (HB1.out.trans (hb2.mono (by omega)))
  clear hb2 H1 HB1 f0 f1 f2
  have f0 := h2.cell 0
  have f1 := h2.cell 1
  have f2 := h2.cell 2
  simp only [List.getElem?_cons_zero, List.getElem?_cons_succ] at f0 f1 f2
  have hs2 := h2.lt
  clear h2
  go_wp2_with fail
  refine (decimal01_any n HN.out.1 HN.out.2 w2).mono ?_
  rintro e w3 ⟨rfl, hb3⟩
  have HB3 := Lib.hid (HB2.out.trans (hb3.mono (by omega)))
  clear hb3 f0 f1 f2
  go_wp2
  go_ret
  exact ⟨by rfl, by rw [hR]; exact HB3.out⟩

theorem dec18_any (n : Int) (h0 : -9223372036854775808 ≤ n) (h1 : n ≤ 9223372036854775807) (w : World) :
    Calls Tryd.prog 25 #[.int .i64 n] w fun e w' => e = .returned (.string ⟨(Lib.itoa n).toArray⟩) ∧ Below w.heap.size w w' := by
  have HN := Lib.hid (And.intro h0 h1)
  clear h0 h1
  go_enter Tryd.func25, Tryd.ntmps25
  go_wp2_with fail
  refine (text01_int n HN.out.1 HN.out.2 w).mono ?_
  rintro e w3 ⟨rfl, hb3⟩
  go_wp2
  go_ret
  exact ⟨by rfl, hb3⟩

/-- Line and column of a place in a text. -/
def lineOf (src : ByteArray) : Nat → Nat
  | 0 => 1
  | k + 1 => if src.data[k]! = 10 then lineOf src k + 1 else lineOf src k
def placeL (src : ByteArray) (off : Int) : Int × Int :=
  if (65536 < src.size ∨ off < 0) ∨ (src.size : Int) < off then (0, 0) else ((lineOf src off.toNat : Nat), off - Lib.lastIdx src 10 off.toNat)

theorem lineOf_le (src : ByteArray) : ∀ k, lineOf src k ≤ k + 1
  | 0 => Nat.le_refl _
  | k + 1 => by have := lineOf_le src k; unfold lineOf; split <;> omega
theorem lastIdx_le (s : ByteArray) (c : Int) : ∀ k : Nat, -1 ≤ Lib.lastIdx s c k ∧ Lib.lastIdx s c k < k
  | 0 => by simp [Lib.lastIdx]
  | k + 1 => by have := lastIdx_le s c k; unfold Lib.lastIdx; split <;> omega
theorem placeL_le (src : ByteArray) (off : Int) : (0 ≤ (placeL src off).1 ∧ (placeL src off).1 ≤ 65537) ∧ 0 ≤ (placeL src off).2 ∧ (placeL src off).2 ≤ 65537 := by
  unfold placeL
  split
  · simp
  · rename_i h
    have h1 := lineOf_le src off.toNat
    have h2 := lastIdx_le src 10 off.toNat
    dsimp only
    omega
theorem byte_ten (x : UInt8) : (((x.toNat : Int)) = 10) ↔ x = 10 := by
  constructor
  · intro h; apply UInt8.toNat_inj.1; have : x.toNat = 10 := by omega
    simpa using this
  · rintro rfl; rfl

set_option maxHeartbeats 2000000 in
theorem place_ref (src : ByteArray) (off : Int) (h0 : -9223372036854775808 ≤ off) (h1 : off ≤ 9223372036854775807) (hs : src.size ≤ 9223372036854775807) (w : World) :
    Calls Tryd.prog 24 #[.string src, .int .i64 off] w fun e w' => e = .returned (.tuple #[.int .i64 (placeL src off).1, .int .i64 (placeL src off).2]) ∧ w' = w := by
  go_enter Tryd.func24, Tryd.ntmps24
  by_cases hbad : (65536 < src.size ∨ off < 0) ∨ (src.size : Int) < off
  · have hp : placeL src off = (0, 0) := if_pos hbad
    rw [hp]
    clear hp
    by_cases c1 : 65536 < src.size
    · go_wp2
      go_ret2
      exact ⟨rfl, rfl⟩
    · by_cases c2 : off < 0
      · go_wp2
        go_ret2
        exact ⟨rfl, rfl⟩
      · have c3 : (src.size : Int) < off := by omega
        go_wp2
        go_ret2
        exact ⟨rfl, rfl⟩
  · obtain ⟨n, rfl⟩ : ∃ n : Nat, off = n := ⟨off.toNat, by omega⟩
    have hp : placeL src n = (((lineOf src n : Nat) : Int), (n : Int) - Lib.lastIdx src 10 n) := by unfold placeL; rw [if_neg hbad]; simp
    rw [hp]
    have HP := Lib.hid hp
    clear hp
    have c1 : ¬ 65536 < src.size := by omega
    have c3 : ¬ ((src.size : Int) < n) := by omega
    clear hbad
    go_upto_region 6 with (fail)
    go_loopg [6, 7, 8] n (fun gk u6 u7 u8 wr => ∃ k : Nat, u8 = .int .i64 k ∧ u6 = .int .i64 (lineOf src k : Nat) ∧ u7 = .int .i64 ((k : Int) - Lib.lastIdx src 10 k) ∧ k ≤ n ∧ Hid (gk = n - k) ∧ wr = w)
    case atStart => exact ⟨0, rfl, rfl, by simp [Lib.lastIdx], Nat.zero_le _, Lib.hid (by omega), rfl⟩
    case round =>
      obtain ⟨k, rfl, rfl, rfl, hk, HG, rfl⟩ := hrel
      have hl := lineOf_le src k
      have hi := lastIdx_le src 10 k
      have HLS : Hid (lineOf src (k + 1) = if src.data[k]! = 10 then lineOf src k + 1 else lineOf src k) := Lib.hid rfl
      have HIS : Hid (Lib.lastIdx src 10 (k + 1) = if ((src.data[k]!).toNat : Int) = 10 then (k : Int) else Lib.lastIdx src 10 k) := Lib.hid rfl
      generalize hL : lineOf src k = L at *
      generalize hI : Lib.lastIdx src 10 k = I at *
      have HL := Lib.hid hL
      have HI := Lib.hid hI
      clear hL hI
      by_cases hlt : k < n
      · have hks : k < src.size := by omega
        have hb : src.data[k]! = src[k] := by rw [getElem!_pos src.data k hks]; rfl
        by_cases hten : src[k] = 10
        · have t1 : (((src[k]).toNat : Int) == 10) = true := by rw [hten]; rfl
          go_wp2
          go_roundg (n - (k + 1))
          case measure => have := HG.out; omega
          case rel =>
            refine ⟨k + 1, by go_num, ?_, ?_, by omega, Lib.hid rfl, rfl⟩
            · rw [HLS.out, hb, if_pos hten]; go_num
            · rw [HIS.out, hb, if_pos (by rw [hten]; rfl)]; go_num
        · have t1 : (((src[k]).toNat : Int) == 10) = false := by simpa using fun h => hten ((byte_ten _).1 (by exact_mod_cast h))
          go_wp2
          go_roundg (n - (k + 1))
          case measure => have := HG.out; omega
          case rel =>
            refine ⟨k + 1, by go_num, ?_, ?_, by omega, Lib.hid rfl, rfl⟩
            · rw [HLS.out, hb, if_neg hten]
            · rw [HIS.out, hb, if_neg (fun h => hten ((byte_ten _).1 h))]; go_num
      · obtain rfl : k = n := by omega
        go_wp2
        go_ret2
        exact ⟨by rw [HL.out, HI.out]; rfl, rfl⟩

theorem ext_take (src : ByteArray) (k : Nat) : (src.extract 0 k).data.toList = src.data.toList.take k := by
  simp only [ByteArray.data_extract, Array.toList_extract, List.extract_eq_take_drop, List.drop_zero, Nat.sub_zero]
theorem take_count' (src : ByteArray) : ∀ k : Nat, k ≤ src.size → lineOf src k = 1 + (src.data.toList.take k).count 10
  | 0, _ => by simp [lineOf]
  | k + 1, h => by
    have ih := take_count' src k (by omega)
    have hk : k < src.data.toList.length := by rw [Array.length_toList]; exact h
    have hb : src.data[k]! = src.data.toList[k] := by rw [getElem!_pos src.data k (by exact h)]; rfl
    have e : src.data.toList.take (k + 1) = src.data.toList.take k ++ [src.data[k]!] := by
      rw [List.take_add_one, List.getElem?_eq_getElem hk, hb]; rfl
    rw [lineOf, e, List.count_append]
    by_cases hten : src.data[k]! = 10
    · rw [if_pos hten, hten, ih]; simp; omega
    · rw [if_neg hten, List.count_eq_zero_of_not_mem (a := 10) (l := [src.data[k]!]) (by simpa using fun h => hten h.symm)]; omega
theorem take_count (src : ByteArray) (k : Nat) (h : k ≤ src.size) : (lineOf src k : Int) = 1 + (Lib.countByte (src.extract 0 k).data.toList 10 : Nat) := by
  rw [take_count' src k h, Lib.countByte, ext_take]; simp
theorem lastIdx_extract (src : ByteArray) (c : Int) (n : Nat) (hn : n ≤ src.size) : ∀ k : Nat, k ≤ n → Lib.lastIdx (src.extract 0 n) c k = Lib.lastIdx src c k
  | 0, _ => rfl
  | k + 1, h => by
    have ih := lastIdx_extract src c n hn k (by omega)
    have hs : src.data.size = src.size := rfl
    have e : (src.extract 0 n).data[k]! = src.data[k]! := by
      rw [getElem!_pos src.data k (by omega), getElem!_pos _ k (by simp; omega)]
      simp
    rw [Lib.lastIdx, Lib.lastIdx, e, ih]

set_option maxHeartbeats 2000000 in
theorem place_lex (src : ByteArray) (off : Int) (h0 : -9223372036854775808 ≤ off) (h1 : off ≤ 9223372036854775807) (hs : src.size ≤ 9223372036854775807) (w : World) :
    Calls Tryd.prog 27 #[.string src, .int .i64 off] w fun e w' => e = .returned (.tuple #[.int .i64 (placeL src off).1, .int .i64 (placeL src off).2]) ∧ w' = w := by
  go_enter Tryd.func27, Tryd.ntmps27
  by_cases hbad : (65536 < src.size ∨ off < 0) ∨ (src.size : Int) < off
  · have hp : placeL src off = (0, 0) := if_pos hbad
    rw [hp]
    clear hp
    by_cases c1 : 65536 < src.size
    · go_wp2
      go_ret2
      exact ⟨rfl, rfl⟩
    · by_cases c2 : off < 0
      · go_wp2
        go_ret2
        exact ⟨rfl, rfl⟩
      · have c3 : (src.size : Int) < off := by omega
        go_wp2
        go_ret2
        exact ⟨rfl, rfl⟩
  · obtain ⟨n, rfl⟩ : ∃ n : Nat, off = n := ⟨off.toNat, by omega⟩
    have hp : placeL src n = (((lineOf src n : Nat) : Int), (n : Int) - Lib.lastIdx src 10 n) := by unfold placeL; rw [if_neg hbad]; simp
    rw [hp]
    clear hp
    have c1 : ¬ 65536 < src.size := by omega
    have c3 : ¬ ((src.size : Int) < n) := by omega
    clear hbad
    have hx : (src.extract 0 n).size = n := by simp; omega
    have HC := Lib.hid (take_count src n (by omega))
    have HI : Hid (Lib.lastIndexByte (src.extract 0 n) 10 = Lib.lastIdx src 10 n) := Lib.hid (by unfold Lib.lastIndexByte; rw [hx]; exact lastIdx_extract src 10 n (by omega) n (Nat.le_refl _))
    have hlr := lastIdx_le src 10 n
    have hlo := lineOf_le src n
    have kc := Tryd.strings_Count_one (src.extract 0 n) 10 w
    have hc := HC.out
    generalize Lib.countByte _ _ = K at *
    have HK := Lib.hid hc
    go_upto_region 4 with (fail)
    go_wp2_with fail
    refine kc.mono ?_
    rintro e w1 ⟨rfl, rfl⟩
    go_wp2_with fail
    refine (Tryd.strings_LastIndexByte _ 10 (by omega) w1).mono ?_
    rintro e w2 ⟨rfl, rfl⟩
    rw [HI.out]
    clear kc
    go_wp2
    go_ret2
    exact ⟨by rfl, rfl⟩
end Go.Proofs.YtjcgkplphiedjaaDoor
