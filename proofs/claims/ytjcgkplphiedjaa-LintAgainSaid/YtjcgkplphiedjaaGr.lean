/- cmp.Compare at int, int64 and string. | The document's order of bytes. | The document's Compare of constants. | cmp.Or over a row of numbers. | The program's Compare of constants. -/
import Derived.Test.YtjcgkplphiedjaaGq
namespace Go.Proofs.Ytjcgkplphiedjaa
open Go.RowKit Go.Sort

def cmpI (x y : Int) : Int := if x < y then -1 else if y < x then 1 else 0
def cmpS (s t : ByteArray) : Int := if Go.Op.bytesLess s.toList t.toList then -1 else if s.toList == t.toList then 0 else 1
def cmpC (k i : Int) (s : ByteArray) (l j : Int) (t : ByteArray) : Int := if k ≠ l then cmpI k l else if i ≠ j then cmpI i j else cmpS s t

theorem nanI (x : Int) (w : World) : Calls Try.prog 119 #[.int .i64 x] w fun e w' => e = .returned (.bool false) ∧ w' = w := by
  go_enter Try.func119, Try.ntmps119
  go_wp2
  go_ret
  exact ⟨by simp, rfl⟩
theorem nanL (x : Int) (w : World) : Calls Try.prog 120 #[.int .i64 x] w fun e w' => e = .returned (.bool false) ∧ w' = w := by
  go_enter Try.func120, Try.ntmps120
  go_wp2
  go_ret
  exact ⟨by simp, rfl⟩
theorem nanS (x : ByteArray) (w : World) : Calls Try.prog 121 #[.string x] w fun e w' => e = .returned (.bool false) ∧ w' = w := by
  have t : (x.toList == x.toList) = true := by simp
  have t' : (x.toList != x.toList) = false := by simp
  go_enter Try.func121, Try.ntmps121
  go_wp2
  go_ret
  exact ⟨by simp, rfl⟩

set_option maxHeartbeats 4000000 in
theorem cmpI_any (x y : Int) (w : World) : Calls Try.prog 106 #[.int .i64 x, .int .i64 y] w fun e w' => e = .returned (.int .i64 (cmpI x y)) ∧ w' = w := by
  have k := fun z W => nanI z W
  go_enter Try.func106, Try.ntmps106
  go_wp2_with fail
  refine (k _ _).mono ?_
  rintro e w1 ⟨rfl, rfl⟩
  go_wp2_with fail
  refine (k _ _).mono ?_
  rintro e w2 ⟨rfl, rfl⟩
  go_wp2
  all_goals (go_ret; refine ⟨?_, rfl⟩; unfold cmpI; (repeat' split) <;> first | rfl | (exfalso; omega))

set_option maxHeartbeats 4000000 in
theorem cmpL_any (x y : Int) (w : World) : Calls Try.prog 107 #[.int .i64 x, .int .i64 y] w fun e w' => e = .returned (.int .i64 (cmpI x y)) ∧ w' = w := by
  have k := fun z W => nanL z W
  go_enter Try.func107, Try.ntmps107
  go_wp2_with fail
  refine (k _ _).mono ?_
  rintro e w1 ⟨rfl, rfl⟩
  go_wp2_with fail
  refine (k _ _).mono ?_
  rintro e w2 ⟨rfl, rfl⟩
  go_wp2
  all_goals (go_ret; refine ⟨?_, rfl⟩; unfold cmpI; (repeat' split) <;> first | rfl | (exfalso; omega))

set_option maxHeartbeats 4000000 in
theorem cmpS_any (x y : ByteArray) (w : World) : Calls Try.prog 108 #[.string x, .string y] w fun e w' => e = .returned (.int .i64 (cmpS x y)) ∧ w' = w := by
  have k := fun z W => nanS z W
  have HV : Hid (cmpS x y = if Go.Op.bytesLess x.toList y.toList then -1 else if x.toList == y.toList then 0 else 1) := Lib.hid rfl
  generalize cmpS x y = v at *
  go_enter Try.func108, Try.ntmps108
  generalize hl : Go.Op.bytesLess x.toList y.toList = l at *
  generalize he : (x.toList == y.toList) = q at *
  cases l
  · cases q
    · have hv : v = 1 := HV.out
      subst hv
      clear HV
      go_wp2_with fail
      refine (k _ _).mono ?_
      rintro e w1 ⟨rfl, rfl⟩
      go_wp2_with fail
      refine (k _ _).mono ?_
      rintro e w2 ⟨rfl, rfl⟩
      go_wp2
      go_ret
      exact ⟨rfl, rfl⟩
    · have hv : v = 0 := HV.out
      subst hv
      clear HV
      go_wp2_with fail
      refine (k _ _).mono ?_
      rintro e w1 ⟨rfl, rfl⟩
      go_wp2_with fail
      refine (k _ _).mono ?_
      rintro e w2 ⟨rfl, rfl⟩
      go_wp2
      go_ret
      exact ⟨rfl, rfl⟩
  · have hv : v = -1 := HV.out
    subst hv
    clear HV
    go_wp2_with fail
    refine (k _ _).mono ?_
    rintro e w1 ⟨rfl, rfl⟩
    go_wp2_with fail
    refine (k _ _).mono ?_
    rintro e w2 ⟨rfl, rfl⟩
    go_wp2
    go_ret
    exact ⟨rfl, rfl⟩
end Go.Proofs.Ytjcgkplphiedjaa

namespace Go.Proofs.Ytjcgkplphiedjaa
open Go.RowKit Go.Sort

def cmpLs (x y : List UInt8) : Int := if Go.Op.bytesLess x y then -1 else if x == y then 0 else 1
theorem cmpLs_nil : cmpLs [] [] = 0 := rfl
theorem cmpLs_short (b : UInt8) (y : List UInt8) : cmpLs [] (b :: y) = -1 := rfl
theorem cmpLs_long (a : UInt8) (x : List UInt8) : cmpLs (a :: x) [] = 1 := rfl
theorem cmpLs_cons (a b : UInt8) (x y : List UInt8) : cmpLs (a :: x) (b :: y) = if a.toNat < b.toNat then -1 else if b.toNat < a.toNat then 1 else cmpLs x y := by
  unfold cmpLs
  rw [show Go.Op.bytesLess (a :: x) (b :: y) = (decide (a < b) || (a == b && Go.Op.bytesLess x y)) from rfl]
  by_cases h1 : a < b
  · have h : a.toNat < b.toNat := UInt8.lt_iff_toNat_lt.mp h1
    rw [decide_eq_true h1, if_pos h]
    rfl
  · have n1 : ¬ a.toNat < b.toNat := fun h => h1 (UInt8.lt_iff_toNat_lt.mpr h)
    rw [decide_eq_false h1, if_neg n1]
    by_cases h2 : b < a
    · have h : b.toNat < a.toNat := UInt8.lt_iff_toNat_lt.mp h2
      have hne : a ≠ b := fun e => by subst e; omega
      have q1 : (a == b) = false := by simpa using hne
      have q2 : (a :: x == b :: y) = false := by simp [hne]
      rw [if_pos h, q1, q2]
      rfl
    · have n2 : ¬ b.toNat < a.toNat := fun h => h2 (UInt8.lt_iff_toNat_lt.mpr h)
      have he : a = b := UInt8.toNat_inj.mp (by omega)
      subst he
      have q2 : (a :: x == a :: y) = (x == y) := by simp
      rw [if_neg n2, q2]
      simp
theorem cmpS_ls (s t : ByteArray) : cmpS s t = cmpLs (s.toList.drop 0) (t.toList.drop 0) := rfl
theorem byteL_at (s : ByteArray) (k : Nat) (h : k < s.size) : s.toList.drop k = s[k] :: s.toList.drop (k + 1) := by
  have hk : k < s.toList.length := by rw [← toList_size]; exact h
  have e : s.toList[k] = s[k] := by
    have : s.toList = s.data.toList := ByteArray.toList_eq s
    simp only [this]; rfl
  rw [List.drop_eq_getElem_cons hk, e]
theorem byteL_end (s : ByteArray) (k : Nat) (h : s.size ≤ k) : s.toList.drop k = [] := List.drop_eq_nil_of_le (by rw [← toList_size]; exact h)

end Go.Proofs.Ytjcgkplphiedjaa

namespace Go.Proofs.Ytjcgkplphiedjaa
open Go.RowKit Go.Sort

end Go.Proofs.Ytjcgkplphiedjaa

namespace Go.Proofs.Ytjcgkplphiedjaa
open Go.RowKit Go.Sort

def orL : List Int → Int
  | [] => 0
  | a :: r => if a = 0 then orL r else a

set_option maxRecDepth 20000 in
set_option maxHeartbeats 8000000 in
theorem or_any (b n : Nat) (L : List Int) (hL : L.length = n) (hn : n ≤ 100) (w : World) (hc : ∀ (k : Nat) (h : k < L.length), w.cell? ⟨b, k, none⟩ = some (.int .i64 L[k])) :
    Calls Try.prog 105 #[.slice (some ⟨b, 0, none⟩) n n] w fun e w' => e = .returned (.int .i64 (orL L)) ∧ Below w.heap.size w w' := by
  have HV : Hid (orL L = orL (L.drop 0)) := Lib.hid rfl
  have HC := Lib.hid hc
  clear hc
  generalize orL L = v at *
  have HN := Lib.hid hL
  clear hL
  go_enter Try.func105, Try.ntmps105
  go_upto_region 3 with (fail)
  go_loopg [8] n (fun gk u8 wr => ∃ k : Nat, u8 = .int .i64 k ∧ k ≤ n ∧ Hid (gk = n - k) ∧ wr = w ∧ Hid (v = orL (L.drop k)))
  case atStart => exact ⟨0, rfl, Nat.zero_le _, Lib.hid rfl, rfl, HV⟩
  case round =>
    obtain ⟨k, rfl, hk, HG, rfl, HT⟩ := hrel
    clear HV
    by_cases h1 : k < n
    · have hkl : k < L.length := by rw [HN.out]; exact h1
      have c0 := HC.out k hkl
      have HS : Hid (v = if L[k] = 0 then orL (L.drop (k + 1)) else L[k]) := Lib.hid (by rw [HT.out, List.drop_eq_getElem_cons hkl]; rfl)
      clear HT
      generalize L[k] = x at *
      by_cases hx : x = 0
      · have HNx := Lib.hid (HS.out.trans (if_pos hx))
        subst hx
        clear HS
        go_wp2
        go_roundg (n - (k + 1))
        case measure => have := HG.out; omega
        case rel => exact ⟨k + 1, by go_num, by omega, Lib.hid rfl, rfl, HNx⟩
      · have hv : v = x := HS.out.trans (if_neg hx)
        have t1 : (x == 0) = false := by simpa using hx
        have t2 : (x != 0) = true := by simpa using hx
        subst hv
        clear HS hx
        go_wp2
        go_ret
        exact ⟨by rfl, Below.refl _ _⟩
    · have hv : v = 0 := by rw [HT.out, List.drop_eq_nil_of_le (by rw [HN.out]; omega)]; rfl
      subst hv
      clear HT
      go_wp2
      go_ret
      exact ⟨by rfl, Below.refl _ _⟩
end Go.Proofs.Ytjcgkplphiedjaa

namespace Go.Proofs.Ytjcgkplphiedjaa
open Go.RowKit Go.Sort

theorem cmpI_zero (x y : Int) : cmpI x y = 0 ↔ x = y := by
  unfold cmpI
  constructor
  · intro h
    split at h
    · exact absurd h (by decide)
    · split at h
      · exact absurd h (by decide)
      · omega
  · intro h
    subst h
    rw [if_neg (by omega), if_neg (by omega)]
theorem cmpC_or (k i : Int) (s : ByteArray) (l j : Int) (t : ByteArray) : orL [cmpI k l, cmpI i j, cmpS s t] = cmpC k i s l j t := by
  show (if cmpI k l = 0 then (if cmpI i j = 0 then (if cmpS s t = 0 then 0 else cmpS s t) else cmpI i j) else cmpI k l) = if k ≠ l then cmpI k l else if i ≠ j then cmpI i j else cmpS s t
  by_cases h1 : k = l
  · rw [if_pos ((cmpI_zero k l).2 h1), if_neg (show ¬ (k ≠ l) from fun h => h h1)]
    by_cases h2 : i = j
    · rw [if_pos ((cmpI_zero i j).2 h2), if_neg (show ¬ (i ≠ j) from fun h => h h2)]
      split
      · rename_i h; exact h.symm
      · rfl
    · rw [if_neg (fun h => h2 ((cmpI_zero i j).1 h)), if_pos h2]
  · rw [if_neg (fun h => h1 ((cmpI_zero k l).1 h)), if_pos h1]

set_option maxRecDepth 200000 in
set_option maxHeartbeats 8000000 in
theorem compare_any (k i : Int) (s : ByteArray) (l j : Int) (t : ByteArray) (w : World) :
    Calls Try.prog 93 #[.agg #[.int .i64 k, .int .i64 i, .string s], .agg #[.int .i64 l, .int .i64 j, .string t]] w fun e w' => e = .returned (.int .i64 (cmpC k i s l j t)) ∧ Below w.heap.size w w' := by
  have HV := Lib.hid (cmpC_or k i s l j t)
  have ka := fun W => cmpI_any k l W
  have kb := fun W => cmpL_any i j W
  have kc := fun W => cmpS_any s t W
  generalize cmpC k i s l j t = v at *
  generalize cmpI k l = x at *
  generalize cmpI i j = y at *
  generalize cmpS s t = z at *
  go_enter Try.func93, Try.ntmps93
  go_upto_region 1 with (fail)
  obtain ⟨hb3, h1, h2, hs3⟩ := two_alloc w 110 110 [.int .i64 k, .int .i64 i, .string s] [.int .i64 l, .int .i64 j, .string t]
  generalize World.alloc (World.alloc _ _) _ = w1 at *
  generalize hR : w.heap.size = R at *
  have HRR := Lib.hid hR
  clear hR
  generalize R + 1 = P at *
  obtain ⟨C, hCi⟩ : ∃ C : World → Prop, ∀ w', C w' ↔ (Blk w' R 110 [.int .i64 k, .int .i64 i, .string s] ∧ Blk w' P 110 [.int .i64 l, .int .i64 j, .string t]) := ⟨_, fun _ => Iff.rfl⟩
  have hbd : Below w1.heap.size w1 w1.drew := ⟨rfl, rfl, rfl, Nat.le_refl _, fun _ _ => rfl⟩
  have hC : C w1.drew := (hCi _).2 ⟨h1.below hbd h1.lt, h2.below hbd h2.lt⟩
  have k0 : ∀ p : WC C, p.w.cell? ⟨R, 0, none⟩ = _ := fun p => (((hCi _).1 p.h).1.cell 0).trans rfl
  have k1 : ∀ p : WC C, p.w.cell? ⟨R, 1, none⟩ = _ := fun p => (((hCi _).1 p.h).1.cell 1).trans rfl
  have k2 : ∀ p : WC C, p.w.cell? ⟨R, 2, none⟩ = _ := fun p => (((hCi _).1 p.h).1.cell 2).trans rfl
  have q0 : ∀ p : WC C, p.w.cell? ⟨P, 0, none⟩ = _ := fun p => (((hCi _).1 p.h).2.cell 0).trans rfl
  have q1 : ∀ p : WC C, p.w.cell? ⟨P, 1, none⟩ = _ := fun p => (((hCi _).1 p.h).2.cell 1).trans rfl
  have q2 : ∀ p : WC C, p.w.cell? ⟨P, 2, none⟩ = _ := fun p => (((hCi _).1 p.h).2.cell 2).trans rfl
  have kn : Nonempty (WC C) := ⟨⟨_, hC⟩⟩
  have HB := Lib.hid (hb3.trans (hbd.mono (by have := h1.lt; omega)))
  have HC := Lib.hid hC
  have HCi := Lib.hid hCi
  have K1 := Lib.hid (h1.below hbd h1.lt)
  have K2 := Lib.hid (h2.below hbd h2.lt)
  refine wp_region_frontN C [0, 1, 2, 3, 5, 6, 7, 8, 10, 11, 12, 13] 6 (fun j => decide (j < 18)) (by kernel_rfl) (fun _ _ d _ _ h => by cases d <;> exact h) (by kernel_rfl) hC ?_
  simp only [List.map_cons, List.map_nil, List.getD_cons_zero, List.getD_cons_succ]
  repeat (go_big_quiet_step (fail))
  refine wpQuiet_nil ?_
  have hRz : R < w1.drew.heap.size := (h1.below hbd h1.lt).lt
  clear k0 k1 k2 q0 q1 q2 kn hC hCi hbd h1 h2 hb3 hs3
  generalize w1.drew = wd at *
  refine wpN_one (i := 4) (by kernel_rfl) rfl ?_
  go_wp2_with fail
  refine (ka _).mono ?_
  rintro e w2 ⟨rfl, rfl⟩
  go_wp2
  refine tailN_normal HC.out ?_
  refine wpN_one (i := 9) (by kernel_rfl) rfl ?_
  go_wp2_with fail
  refine (kb _).mono ?_
  rintro e w3 ⟨rfl, rfl⟩
  go_wp2
  refine tailN_normal HC.out ?_
  refine wpN_one (i := 14) (by kernel_rfl) rfl ?_
  go_wp2_with fail
  refine (kc _).mono ?_
  rintro e w4 ⟨rfl, rfl⟩
  go_wp2
  refine tailN_normal HC.out ?_
  refine wpN_one (i := 15) (by kernel_rfl) rfl ?_
  go_wp2
  have hk := (HCi.out _).1 HC.out
  have M := Lib.hid (Blk.new w4 3 [.int .i64 x, .int .i64 y, .int .i64 z])
  have HB5 := Lib.hid (HB.out.alloc (Nat.le_of_lt hRz) (.cells #[.int .i64 x, .int .i64 y, .int .i64 z] 3))
  have h1 := Lib.hid (hk.1.alloc (.cells #[.int .i64 x, .int .i64 y, .int .i64 z] 3))
  have h2 := Lib.hid (hk.2.alloc (.cells #[.int .i64 x, .int .i64 y, .int .i64 z] 3))
  clear hk HC HB hRz
  dsimp only [List.toArray] at M
  generalize World.alloc _ _ = w5 at *
  generalize w4.heap.size = P4 at *
  have ko := or_any P4 3 [x, y, z] rfl (by decide) w5 (fun k h => by
    rw [M.out.cell k]
    match k, h with
    | 0, _ => rfl
    | 1, _ => rfl
    | 2, _ => rfl)
  rw [HV.out] at ko
  refine tailN_normal ((HCi.out _).2 ⟨h1.out, h2.out⟩) ?_
  refine wpN_one (i := 16) (by kernel_rfl) rfl ?_
  go_wp2_with fail
  refine ko.mono ?_
  rintro e w6 ⟨rfl, hb6⟩
  have n1 := Lib.hid (h1.out.below hb6 h1.out.lt)
  have n2 := Lib.hid (h2.out.below hb6 h2.out.lt)
  have HB6 := Lib.hid (HB5.out.trans (hb6.mono (Nat.le_of_lt h1.out.lt)))
  clear ko hb6 h1 h2 HB5 M
  go_wp2
  refine tailN_normal ((HCi.out _).2 ⟨n1.out, n2.out⟩) ?_
  refine wpN_frontW C [17] 0 _ (fun _ _ d _ _ h => by cases d <;> exact h) (by kernel_rfl) ((HCi.out _).2 ⟨n1.out, n2.out⟩) ?_
  simp only [List.map_cons, List.map_nil, List.getD_cons_zero, List.getD_cons_succ]
  repeat (go_big_quiet_step (fail))
  refine wpQuiet_nil ?_
  refine wpN_none (by kernel_rfl) ?_
  go_wp2
  go_ret
  exact ⟨by rfl, by rw [HRR.out]; exact HB6.out⟩
end Go.Proofs.Ytjcgkplphiedjaa
