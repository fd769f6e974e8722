/- cmp.Compare at int, int64 and string. | The document's order of bytes. | The document's Compare of constants. | cmp.Or over a row of numbers. | The program's Compare of constants. | Comparisons of constants: the document's and the program's. -/
import Derived.Test.YtjcgkplphiedjaaDoorTG25
namespace Go.Proofs.YtjcgkplphiedjaaDoorT
open Go.RowKit Go.Sort

def cmpI (x y : Int) : Int := if x < y then -1 else if y < x then 1 else 0
def cmpS (s t : ByteArray) : Int := if Go.Op.bytesLess s.toList t.toList then -1 else if s.toList == t.toList then 0 else 1
def cmpC (k i : Int) (s : ByteArray) (l j : Int) (t : ByteArray) : Int := if k ≠ l then cmpI k l else if i ≠ j then cmpI i j else cmpS s t

theorem nanI (x : Int) (w : World) : Calls Tryd.prog 130 #[.int .i64 x] w fun e w' => e = .returned (.bool false) ∧ w' = w := by
  go_enter Tryd.func130, Tryd.ntmps130
  go_wp2
  go_ret
  exact ⟨by simp, rfl⟩
theorem nanL (x : Int) (w : World) : Calls Tryd.prog 131 #[.int .i64 x] w fun e w' => e = .returned (.bool false) ∧ w' = w := by
  go_enter Tryd.func131, Tryd.ntmps131
  go_wp2
  go_ret
  exact ⟨by simp, rfl⟩
theorem nanS (x : ByteArray) (w : World) : Calls Tryd.prog 132 #[.string x] w fun e w' => e = .returned (.bool false) ∧ w' = w := by
  have t : (x.toList == x.toList) = true := by simp
  have t' : (x.toList != x.toList) = false := by simp
  go_enter Tryd.func132, Tryd.ntmps132
  go_wp2
  go_ret
  exact ⟨by simp, rfl⟩

set_option maxHeartbeats 4000000 in
theorem cmpI_any (x y : Int) (w : World) : Calls Tryd.prog 121 #[.int .i64 x, .int .i64 y] w fun e w' => e = .returned (.int .i64 (cmpI x y)) ∧ w' = w := by
  have k := fun z W => nanI z W
  go_enter Tryd.func121, Tryd.ntmps121
  go_wp2_with fail
  refine (k _ _).mono ?_
  rintro e w1 ⟨rfl, rfl⟩
  go_wp2_with fail
  refine (k _ _).mono ?_
  rintro e w2 ⟨rfl, rfl⟩
  go_wp2
  all_goals (go_ret; refine ⟨?_, rfl⟩; unfold cmpI; (repeat' split) <;> first | rfl | (exfalso; omega))

set_option maxHeartbeats 4000000 in
theorem cmpL_any (x y : Int) (w : World) : Calls Tryd.prog 122 #[.int .i64 x, .int .i64 y] w fun e w' => e = .returned (.int .i64 (cmpI x y)) ∧ w' = w := by
  have k := fun z W => nanL z W
  go_enter Tryd.func122, Tryd.ntmps122
  go_wp2_with fail
  refine (k _ _).mono ?_
  rintro e w1 ⟨rfl, rfl⟩
  go_wp2_with fail
  refine (k _ _).mono ?_
  rintro e w2 ⟨rfl, rfl⟩
  go_wp2
  all_goals (go_ret; refine ⟨?_, rfl⟩; unfold cmpI; (repeat' split) <;> first | rfl | (exfalso; omega))

set_option maxHeartbeats 4000000 in
theorem cmpS_any (x y : ByteArray) (w : World) : Calls Tryd.prog 123 #[.string x, .string y] w fun e w' => e = .returned (.int .i64 (cmpS x y)) ∧ w' = w := by
  have k := fun z W => nanS z W
  have HV : Hid (cmpS x y = if Go.Op.bytesLess x.toList y.toList then -1 else if x.toList == y.toList then 0 else 1) := Lib.hid rfl
  generalize cmpS x y = v at *
  go_enter Tryd.func123, Tryd.ntmps123
  generalize hl : Go.Op.bytesLess x.toList y.toList = l at *
  generalize he : (x.toList == y.toList) = q at *
  cases l
  · cases q
    · have hv : v = 1 := HV.out
      subst hv
      clear HV
      go_wp2_with fail
      refine (k _ _).mono ?_
      rintro e w1 ⟨rfl, rfl⟩
      go_wp2_with fail
      refine (k _ _).mono ?_
      rintro e w2 ⟨rfl, rfl⟩
      go_wp2
      go_ret
      exact ⟨rfl, rfl⟩
    · have hv : v = 0 := HV.out
      subst hv
      clear HV
      go_wp2_with fail
      refine (k _ _).mono ?_
      rintro e w1 ⟨rfl, rfl⟩
      go_wp2_with fail
      refine (k _ _).mono ?_
      rintro e w2 ⟨rfl, rfl⟩
      go_wp2
      go_ret
      exact ⟨rfl, rfl⟩
  · have hv : v = -1 := HV.out
    subst hv
    clear HV
    go_wp2_with fail
    refine (k _ _).mono ?_
    rintro e w1 ⟨rfl, rfl⟩
    go_wp2_with fail
    refine (k _ _).mono ?_
    rintro e w2 ⟨rfl, rfl⟩
    go_wp2
    go_ret
    exact ⟨rfl, rfl⟩
end Go.Proofs.YtjcgkplphiedjaaDoorT

namespace Go.Proofs.YtjcgkplphiedjaaDoorT
open Go.RowKit Go.Sort

def cmpLs (x y : List UInt8) : Int := if Go.Op.bytesLess x y then -1 else if x == y then 0 else 1
theorem cmpLs_nil : cmpLs [] [] = 0 := rfl
theorem cmpLs_short (b : UInt8) (y : List UInt8) : cmpLs [] (b :: y) = -1 := rfl
theorem cmpLs_long (a : UInt8) (x : List UInt8) : cmpLs (a :: x) [] = 1 := rfl
theorem cmpLs_cons (a b : UInt8) (x y : List UInt8) : cmpLs (a :: x) (b :: y) = if a.toNat < b.toNat then -1 else if b.toNat < a.toNat then 1 else cmpLs x y := by
  unfold cmpLs
  rw [show Go.Op.bytesLess (a :: x) (b :: y) = (decide (a < b) || (a == b && Go.Op.bytesLess x y)) from rfl]
  by_cases h1 : a < b
  · have h : a.toNat < b.toNat := UInt8.lt_iff_toNat_lt.mp h1
    rw [decide_eq_true h1, if_pos h]
    rfl
  · have n1 : ¬ a.toNat < b.toNat := fun h => h1 (UInt8.lt_iff_toNat_lt.mpr h)
    rw [decide_eq_false h1, if_neg n1]
    by_cases h2 : b < a
    · have h : b.toNat < a.toNat := UInt8.lt_iff_toNat_lt.mp h2
      have hne : a ≠ b := fun e => by subst e; omega
      have q1 : (a == b) = false := by simpa using hne
      have q2 : (a :: x == b :: y) = false := by simp [hne]
      rw [if_pos h, q1, q2]
      rfl
    · have n2 : ¬ b.toNat < a.toNat := fun h => h2 (UInt8.lt_iff_toNat_lt.mpr h)
      have he : a = b := UInt8.toNat_inj.mp (by omega)
      subst he
      have q2 : (a :: x == a :: y) = (x == y) := by simp
      rw [if_neg n2, q2]
      simp
theorem cmpS_ls (s t : ByteArray) : cmpS s t = cmpLs (s.toList.drop 0) (t.toList.drop 0) := rfl
theorem byteL_at (s : ByteArray) (k : Nat) (h : k < s.size) : s.toList.drop k = s[k] :: s.toList.drop (k + 1) := by
  have hk : k < s.toList.length := by rw [← toList_size]; exact h
  have e : s.toList[k] = s[k] := by
    have : s.toList = s.data.toList := ByteArray.toList_eq s
    simp only [this]; rfl
  rw [List.drop_eq_getElem_cons hk, e]
theorem byteL_end (s : ByteArray) (k : Nat) (h : s.size ≤ k) : s.toList.drop k = [] := List.drop_eq_nil_of_le (by rw [← toList_size]; exact h)

set_option maxHeartbeats 4000000 in
theorem bytes_ref (s t : ByteArray) (hs : s.size ≤ 9223372036854775807) (_ht : t.size ≤ 9223372036854775807) (w : World) :
    Calls Tryd.prog 118 #[.string s, .string t] w fun e w' => e = .returned (.int .i64 (cmpS s t)) ∧ Below w.heap.size w w' := by
  have HV := Lib.hid (cmpS_ls s t)
  generalize cmpS s t = v at *
  go_enter Tryd.func118, Tryd.ntmps118
  go_upto_region 2 with (fail)
  have HB0 := Lib.hid (Below.refl w.heap.size w)
  go_loopg [5] (s.size) (fun gk u5 wr => ∃ k : Nat, u5 = .int .i64 k ∧ k ≤ s.size ∧ k ≤ t.size ∧ Hid (gk = s.size - k) ∧ Hid (Below w.heap.size w wr) ∧ Hid (v = cmpLs (s.toList.drop k) (t.toList.drop k)))
  case atStart => exact ⟨0, rfl, Nat.zero_le _, Nat.zero_le _, Lib.hid rfl, HB0, HV⟩
  case round =>
    obtain ⟨k, rfl, hk1, hk2, HG, HB, HT⟩ := hrel
    clear HV HB0
    by_cases h1 : k < s.size
    rotate_left
    · have hk : k = s.size := by omega
      subst hk
      by_cases h2 : s.size < t.size
      · have hv : v = -1 := by rw [HT.out, byteL_end s _ (Nat.le_refl _), byteL_at t _ h2, cmpLs_short]
        subst hv
        clear HT
        go_wp2
        go_ret
        exact ⟨by rfl, HB.out⟩
      · have hv : v = 0 := by rw [HT.out, byteL_end s _ (Nat.le_refl _), byteL_end t _ (by omega), cmpLs_nil]
        subst hv
        clear HT
        go_wp2
        go_ret
        exact ⟨by rfl, HB.out⟩
    by_cases h2 : k < t.size
    rotate_left
    · have hk : k = t.size := by omega
      subst hk
      have hv : v = 1 := by rw [HT.out, byteL_end t _ (Nat.le_refl _), byteL_at s _ h1, cmpLs_long]
      have n1 : decide ((s.size : Int) < (t.size : Int)) = false := decide_eq_false (by omega)
      subst hv
      clear HT
      go_wp2
      go_ret
      exact ⟨by rfl, HB.out⟩
    have HS : Hid (v = if (s[k]).toNat < (t[k]).toNat then -1 else if (t[k]).toNat < (s[k]).toNat then 1 else cmpLs (s.toList.drop (k + 1)) (t.toList.drop (k + 1))) := Lib.hid (by rw [HT.out, byteL_at s _ h1, byteL_at t _ h2, cmpLs_cons])
    clear HT
    by_cases hl : (s[k]).toNat < (t[k]).toNat
    · have hv : v = -1 := HS.out.trans (if_pos hl)
      have t1 := decide_eq_true hl
      subst hv
      clear HS hl
      go_upto_region 4 with (fail)
      go_quiet (fail)
      go_wp2
      go_ret
      exact ⟨by rfl, HB.out.trans ⟨rfl, rfl, rfl, Nat.le_refl _, fun _ _ => rfl⟩⟩
    have t1 := decide_eq_false hl
    by_cases hg : (t[k]).toNat < (s[k]).toNat
    · have hv : v = 1 := HS.out.trans ((if_neg hl).trans (if_pos hg))
      have t2 := decide_eq_true hg
      subst hv
      clear HS hl hg
      go_upto_region 4 with (fail)
      go_quiet (fail)
      go_upto_region 6 with (fail)
      go_quiet (fail)
      go_wp2
      go_ret
      exact ⟨by rfl, HB.out.trans ⟨rfl, rfl, rfl, Nat.le_refl _, fun _ _ => rfl⟩⟩
    have t2 := decide_eq_false hg
    have HN := Lib.hid (HS.out.trans ((if_neg hl).trans (if_neg hg)))
    clear HS hl hg
    go_upto_region 4 with (fail)
    go_quiet (fail)
    go_upto_region 6 with (fail)
    go_quiet (fail)
    go_wp2
    go_roundg (s.size - (k + 1))
    case measure => have := HG.out; omega
    case rel => exact ⟨k + 1, by go_num, by omega, by omega, Lib.hid rfl, Lib.hid (HB.out.trans ⟨rfl, rfl, rfl, Nat.le_refl _, fun _ _ => rfl⟩), HN⟩
end Go.Proofs.YtjcgkplphiedjaaDoorT

namespace Go.Proofs.YtjcgkplphiedjaaDoorT
open Go.RowKit Go.Sort

set_option maxRecDepth 20000 in
set_option maxHeartbeats 8000000 in
theorem compare_ref (k i : Int) (s : ByteArray) (l j : Int) (t : ByteArray) (hs : s.size ≤ 9223372036854775807) (ht : t.size ≤ 9223372036854775807) (w : World) :
    Calls Tryd.prog 103 #[.agg #[.int .i64 k, .int .i64 i, .string s], .agg #[.int .i64 l, .int .i64 j, .string t]] w fun e w' => e = .returned (.int .i64 (cmpC k i s l j t)) ∧ Below w.heap.size w w' := by
  have HV : Hid (cmpC k i s l j t = if k ≠ l then (if k < l then -1 else if l < k then 1 else 0) else if i ≠ j then (if i < j then -1 else if j < i then 1 else 0) else cmpS s t) := Lib.hid rfl
  have kb := fun W => bytes_ref s t hs ht W
  generalize cmpC k i s l j t = v at *
  generalize cmpS s t = u at *
  go_enter Tryd.func103, Tryd.ntmps103
  go_upto_region 1 with (fail)
  obtain ⟨hb3, h1, h2, hs3⟩ := two_alloc w 68 68 [.int .i64 k, .int .i64 i, .string s] [.int .i64 l, .int .i64 j, .string t]
  generalize World.alloc (World.alloc _ _) _ = w1 at *
  generalize hR : w.heap.size = R at *
  have HRR := Lib.hid hR
  clear hR
  have HB1 := Lib.hid hb3
  have f0 := (h1.cell 0).trans rfl
  have f1 := (h1.cell 1).trans rfl
  have f2 := (h1.cell 2).trans rfl
  have g0 := (h2.cell 0).trans rfl
  have g1 := (h2.cell 1).trans rfl
  have g2 := (h2.cell 2).trans rfl
  clear h1 h2 hb3 hs3
  by_cases ek : k = l
  rotate_left
  · have n1 : (k != l) = true := by simpa using ek
    have n2 : (k == l) = false := by simpa using ek
    by_cases c : k < l
    · have hv : v = -1 := HV.out.trans ((if_pos ek).trans (if_pos c))
      have t1 := decide_eq_true c
      subst hv
      clear HV ek c
      go_wp2
      go_ret
      exact ⟨by rfl, by rw [HRR.out]; exact HB1.out⟩
    · have hv : v = 1 := HV.out.trans ((if_pos ek).trans ((if_neg c).trans (if_pos (by omega))))
      have t1 := decide_eq_false c
      subst hv
      clear HV ek c
      go_wp2
      go_ret
      exact ⟨by rfl, by rw [HRR.out]; exact HB1.out⟩
  replace HV := Lib.hid (HV.out.trans (if_neg (fun h => h ek)))
  subst ek
  by_cases ei : i = j
  rotate_left
  · have n1 : (i != j) = true := by simpa using ei
    have n2 : (i == j) = false := by simpa using ei
    by_cases c : i < j
    · have hv : v = -1 := HV.out.trans ((if_pos ei).trans (if_pos c))
      have t1 := decide_eq_true c
      subst hv
      clear HV ei c
      go_wp2
      go_ret
      exact ⟨by rfl, by rw [HRR.out]; exact HB1.out⟩
    · have hv : v = 1 := HV.out.trans ((if_pos ei).trans ((if_neg c).trans (if_pos (by omega))))
      have t1 := decide_eq_false c
      subst hv
      clear HV ei c
      go_wp2
      go_ret
      exact ⟨by rfl, by rw [HRR.out]; exact HB1.out⟩
  replace HV := Lib.hid (HV.out.trans (if_neg (fun h => h ei)))
  subst ei
  have hv : v = u := HV.out
  subst hv
  clear HV
  go_wp2_with fail
  refine (kb _).mono ?_
  rintro e w2 ⟨rfl, hb2⟩
  go_wp2
  go_ret
  exact ⟨by rfl, by rw [HRR.out]; exact HB1.out.trans (hb2.mono (by have := HB1.out.size; have := HRR.out; omega))⟩
end Go.Proofs.YtjcgkplphiedjaaDoorT

namespace Go.Proofs.YtjcgkplphiedjaaDoorT
open Go.RowKit Go.Sort

def orL : List Int → Int
  | [] => 0
  | a :: r => if a = 0 then orL r else a

set_option maxRecDepth 20000 in
set_option maxHeartbeats 8000000 in
theorem or_any (b n : Nat) (L : List Int) (hL : L.length = n) (hn : n ≤ 100) (w : World) (hc : ∀ (k : Nat) (h : k < L.length), w.cell? ⟨b, k, none⟩ = some (.int .i64 L[k])) :
    Calls Tryd.prog 120 #[.slice (some ⟨b, 0, none⟩) n n] w fun e w' => e = .returned (.int .i64 (orL L)) ∧ Below w.heap.size w w' := by
  have HV : Hid (orL L = orL (L.drop 0)) := Lib.hid rfl
  have HC := Lib.hid hc
  clear hc
  generalize orL L = v at *
  have HN := Lib.hid hL
  clear hL
  go_enter Tryd.func120, Tryd.ntmps120
  go_upto_region 3 with (fail)
  go_loopg [8] n (fun gk u8 wr => ∃ k : Nat, u8 = .int .i64 k ∧ k ≤ n ∧ Hid (gk = n - k) ∧ wr = w ∧ Hid (v = orL (L.drop k)))
  case atStart => exact ⟨0, rfl, Nat.zero_le _, Lib.hid rfl, rfl, HV⟩
  case round =>
    obtain ⟨k, rfl, hk, HG, rfl, HT⟩ := hrel
    clear HV
    by_cases h1 : k < n
    · have hkl : k < L.length := by rw [HN.out]; exact h1
      have c0 := HC.out k hkl
      have HS : Hid (v = if L[k] = 0 then orL (L.drop (k + 1)) else L[k]) := Lib.hid (by rw [HT.out, List.drop_eq_getElem_cons hkl]; rfl)
      clear HT
      generalize L[k] = x at *
      by_cases hx : x = 0
      · have HNx := Lib.hid (HS.out.trans (if_pos hx))
        subst hx
        clear HS
        go_wp2
        go_roundg (n - (k + 1))
        case measure => have := HG.out; omega
        case rel => exact ⟨k + 1, by go_num, by omega, Lib.hid rfl, rfl, HNx⟩
      · have hv : v = x := HS.out.trans (if_neg hx)
        have t1 : (x == 0) = false := by simpa using hx
        have t2 : (x != 0) = true := by simpa using hx
        subst hv
        clear HS hx
        go_wp2
        go_ret
        exact ⟨by rfl, Below.refl _ _⟩
    · have hv : v = 0 := by rw [HT.out, List.drop_eq_nil_of_le (by rw [HN.out]; omega)]; rfl
      subst hv
      clear HT
      go_wp2
      go_ret
      exact ⟨by rfl, Below.refl _ _⟩
end Go.Proofs.YtjcgkplphiedjaaDoorT

namespace Go.Proofs.YtjcgkplphiedjaaDoorT
open Go.RowKit Go.Sort

theorem cmpI_zero (x y : Int) : cmpI x y = 0 ↔ x = y := by
  unfold cmpI
  constructor
  · intro h
    split at h
    · exact absurd h (by decide)
    · split at h
      · exact absurd h (by decide)
      · omega
  · intro h
    subst h
    rw [if_neg (by omega), if_neg (by omega)]
theorem cmpC_or (k i : Int) (s : ByteArray) (l j : Int) (t : ByteArray) : orL [cmpI k l, cmpI i j, cmpS s t] = cmpC k i s l j t := by
  show (if cmpI k l = 0 then (if cmpI i j = 0 then (if cmpS s t = 0 then 0 else cmpS s t) else cmpI i j) else cmpI k l) = if k ≠ l then cmpI k l else if i ≠ j then cmpI i j else cmpS s t
  by_cases h1 : k = l
  · rw [if_pos ((cmpI_zero k l).2 h1), if_neg (show ¬ (k ≠ l) from fun h => h h1)]
    by_cases h2 : i = j
    · rw [if_pos ((cmpI_zero i j).2 h2), if_neg (show ¬ (i ≠ j) from fun h => h h2)]
      split
      · rename_i h; exact h.symm
      · rfl
    · rw [if_neg (fun h => h2 ((cmpI_zero i j).1 h)), if_pos h2]
  · rw [if_neg (fun h => h1 ((cmpI_zero k l).1 h)), if_pos h1]

set_option maxRecDepth 200000 in
set_option maxHeartbeats 8000000 in
theorem compare_any (k i : Int) (s : ByteArray) (l j : Int) (t : ByteArray) (w : World) :
    Calls Tryd.prog 105 #[.agg #[.int .i64 k, .int .i64 i, .string s], .agg #[.int .i64 l, .int .i64 j, .string t]] w fun e w' => e = .returned (.int .i64 (cmpC k i s l j t)) ∧ Below w.heap.size w w' := by
  have HV := Lib.hid (cmpC_or k i s l j t)
  have ka := fun W => cmpI_any k l W
  have kb := fun W => cmpL_any i j W
  have kc := fun W => cmpS_any s t W
  generalize cmpC k i s l j t = v at *
  generalize cmpI k l = x at *
  generalize cmpI i j = y at *
  generalize cmpS s t = z at *
  go_enter Tryd.func105, Tryd.ntmps105
  go_upto_region 1 with (fail)
  obtain ⟨hb3, h1, h2, hs3⟩ := two_alloc w 68 68 [.int .i64 k, .int .i64 i, .string s] [.int .i64 l, .int .i64 j, .string t]
  generalize World.alloc (World.alloc _ _) _ = w1 at *
  generalize hR : w.heap.size = R at *
  have HRR := Lib.hid hR
  clear hR
  generalize R + 1 = P at *
  obtain ⟨C, hCi⟩ : ∃ C : World → Prop, ∀ w', C w' ↔ (Blk w' R 68 [.int .i64 k, .int .i64 i, .string s] ∧ Blk w' P 68 [.int .i64 l, .int .i64 j, .string t]) := ⟨_, fun _ => Iff.rfl⟩
  have hbd : Below w1.heap.size w1 w1.drew := ⟨rfl, rfl, rfl, Nat.le_refl _, fun _ _ => rfl⟩
  have hC : C w1.drew := (hCi _).2 ⟨h1.below hbd h1.lt, h2.below hbd h2.lt⟩
  have k0 : ∀ p : WC C, p.w.cell? ⟨R, 0, none⟩ = _ := fun p => (((hCi _).1 p.h).1.cell 0).trans rfl
  have k1 : ∀ p : WC C, p.w.cell? ⟨R, 1, none⟩ = _ := fun p => (((hCi _).1 p.h).1.cell 1).trans rfl
  have k2 : ∀ p : WC C, p.w.cell? ⟨R, 2, none⟩ = _ := fun p => (((hCi _).1 p.h).1.cell 2).trans rfl
  have q0 : ∀ p : WC C, p.w.cell? ⟨P, 0, none⟩ = _ := fun p => (((hCi _).1 p.h).2.cell 0).trans rfl
  have q1 : ∀ p : WC C, p.w.cell? ⟨P, 1, none⟩ = _ := fun p => (((hCi _).1 p.h).2.cell 1).trans rfl
  have q2 : ∀ p : WC C, p.w.cell? ⟨P, 2, none⟩ = _ := fun p => (((hCi _).1 p.h).2.cell 2).trans rfl
  have kn : Nonempty (WC C) := ⟨⟨_, hC⟩⟩
  have HB := Lib.hid (hb3.trans (hbd.mono (by have := h1.lt; omega)))
  have HC := Lib.hid hC
  have HCi := Lib.hid hCi
  have K1 := Lib.hid (h1.below hbd h1.lt)
  have K2 := Lib.hid (h2.below hbd h2.lt)
  refine wp_region_frontN C [0, 1, 2, 3, 5, 6, 7, 8, 10, 11, 12, 13] 6 (fun j => decide (j < 18)) (by kernel_rfl) (fun _ _ d _ _ h => by cases d <;> exact h) (by kernel_rfl) hC ?_
  simp only [List.map_cons, List.map_nil, List.getD_cons_zero, List.getD_cons_succ]
  repeat (go_big_quiet_step (fail))
  refine wpQuiet_nil ?_
  have hRz : R < w1.drew.heap.size := (h1.below hbd h1.lt).lt
  clear k0 k1 k2 q0 q1 q2 kn hC hCi hbd h1 h2 hb3 hs3
  generalize w1.drew = wd at *
  refine wpN_one (i := 4) (by kernel_rfl) rfl ?_
  go_wp2_with fail
  refine (ka _).mono ?_
  rintro e w2 ⟨rfl, rfl⟩
  go_wp2
  refine tailN_normal HC.out ?_
  refine wpN_one (i := 9) (by kernel_rfl) rfl ?_
  go_wp2_with fail
  refine (kb _).mono ?_
  rintro e w3 ⟨rfl, rfl⟩
  go_wp2
  refine tailN_normal HC.out ?_
  refine wpN_one (i := 14) (by kernel_rfl) rfl ?_
  go_wp2_with fail
  refine (kc _).mono ?_
  rintro e w4 ⟨rfl, rfl⟩
  go_wp2
  refine tailN_normal HC.out ?_
  refine wpN_one (i := 15) (by kernel_rfl) rfl ?_
  go_wp2
  have hk := (HCi.out _).1 HC.out
  have M := Lib.hid (Blk.new w4 3 [.int .i64 x, .int .i64 y, .int .i64 z])
  have HB5 := Lib.hid (HB.out.alloc (Nat.le_of_lt hRz) (.cells #[.int .i64 x, .int .i64 y, .int .i64 z] 3))
  have h1 := Lib.hid (hk.1.alloc (.cells #[.int .i64 x, .int .i64 y, .int .i64 z] 3))
  have h2 := Lib.hid (hk.2.alloc (.cells #[.int .i64 x, .int .i64 y, .int .i64 z] 3))
  clear hk HC HB hRz
  dsimp only [List.toArray] at M
  generalize World.alloc _ _ = w5 at *
  generalize w4.heap.size = P4 at *
  have ko := or_any P4 3 [x, y, z] rfl (by decide) w5 (fun k h => by
    rw [M.out.cell k]
    match k, h with
    | 0, _ => rfl
    | 1, _ => rfl
    | 2, _ => rfl)
  rw [HV.out] at ko
  refine tailN_normal ((HCi.out _).2 ⟨h1.out, h2.out⟩) ?_
  refine wpN_one (i := 16) (by kernel_rfl) rfl ?_
  go_wp2_with fail
  refine ko.mono ?_
  rintro e w6 ⟨rfl, hb6⟩
  have n1 := Lib.hid (h1.out.below hb6 h1.out.lt)
  have n2 := Lib.hid (h2.out.below hb6 h2.out.lt)
  have HB6 := Lib.hid (HB5.out.trans (hb6.mono (Nat.le_of_lt h1.out.lt)))
  clear ko hb6 h1 h2 HB5 M
  go_wp2
  refine tailN_normal ((HCi.out _).2 ⟨n1.out, n2.out⟩) ?_
  refine wpN_frontW C [17] 0 _ (fun _ _ d _ _ h => by cases d <;> exact h) (by kernel_rfl) ((HCi.out _).2 ⟨n1.out, n2.out⟩) ?_
  simp only [List.map_cons, List.map_nil, List.getD_cons_zero, List.getD_cons_succ]
  repeat (go_big_quiet_step (fail))
  refine wpQuiet_nil ?_
  refine wpN_none (by kernel_rfl) ?_
  go_wp2
  go_ret
  exact ⟨by rfl, by rw [HRR.out]; exact HB6.out⟩
end Go.Proofs.YtjcgkplphiedjaaDoorT

namespace Go.Proofs.YtjcgkplphiedjaaDoorT
open Go.RowKit Go.Sort

/-- A comparison of constants. -/
def holdsB (op c : Int) : Bool := if op = 1 then c == 0 else if op = 2 then c != 0 else if op = 3 then decide (c < 0) else if op = 4 then decide (c ≤ 0) else if op = 5 then decide (0 < c) else decide (0 ≤ c)
def cmpR (op k i : Int) (s : ByteArray) (l j : Int) (t : ByteArray) : Bool :=
  if op < 1 ∨ 6 < op then false else if validC k i s = true then (if validC l j t = true then holdsB op (cmpC k i s l j t) else false) else false

def cmpErr (op k i : Int) (s : ByteArray) (l j : Int) (t : ByteArray) : Int :=
  if op < 1 ∨ 6 < op then 2 else if validC k i s = true then (if validC l j t = true then 0 else 5) else 5


set_option maxRecDepth 20000 in
set_option maxHeartbeats 8000000 in
theorem cmp_ref (op k i : Int) (s : ByteArray) (l j : Int) (t : ByteArray) (hs : s.size ≤ 9223372036854775807) (ht : t.size ≤ 9223372036854775807) (w : World) :
    Calls Tryd.prog 89 #[.int .i64 op, .agg #[.int .i64 k, .int .i64 i, .string s], .agg #[.int .i64 l, .int .i64 j, .string t]] w fun e w' => e = .returned (.tuple #[.bool (cmpR op k i s l j t), .int .i64 (cmpErr op k i s l j t)]) ∧ Below w.heap.size w w' := by
  have HV : Hid (cmpR op k i s l j t = if op < 1 ∨ 6 < op then false else if validC k i s = true then (if validC l j t = true then holdsB op (cmpC k i s l j t) else false) else false) := Lib.hid rfl
  have HE : Hid (cmpErr op k i s l j t = if op < 1 ∨ 6 < op then 2 else if validC k i s = true then (if validC l j t = true then 0 else 5) else 5) := Lib.hid rfl
  have HKA := Lib.hid (fun W => valid_ref k i s hs W)
  have HKB := Lib.hid (fun W => valid_ref l j t ht W)
  have HKC := Lib.hid (fun W => compare_ref k i s l j t hs ht W)
  generalize cmpR op k i s l j t = v at *
  generalize cmpErr op k i s l j t = er at *
  generalize validC k i s = va at *
  generalize validC l j t = vb at *
  generalize cmpC k i s l j t = c at *
  go_enter Tryd.func89, Tryd.ntmps89
  go_upto_region 1 with (fail)
  obtain ⟨hb3, h1, h2, hs3⟩ := two_alloc w 68 68 [.int .i64 k, .int .i64 i, .string s] [.int .i64 l, .int .i64 j, .string t]
  generalize World.alloc (World.alloc _ _) _ = w1 at *
  generalize hR : w.heap.size = R at *
  have HRR := Lib.hid hR
  clear hR
  have HB1 := Lib.hid hb3
  have H1 := Lib.hid h1
  have H2 := Lib.hid h2
  have f0 := (h1.cell 0).trans rfl
  have f1 := (h1.cell 1).trans rfl
  have f2 := (h1.cell 2).trans rfl
  clear h1 h2 hb3 hs3
  by_cases ho : op < 1
  · have hv : v = false := by rw [HV.out, if_pos (.inl ho)]
    have he : er = 2 := by rw [HE.out, if_pos (.inl ho)]
    have t1 := decide_eq_true ho
    subst hv
    subst he
    clear HV HE ho
    go_wp2
    go_ret2
    exact ⟨by rfl, by rw [HRR.out]; exact HB1.out⟩
  by_cases ho2 : 6 < op
  · have hv : v = false := by rw [HV.out, if_pos (.inr ho2)]
    have he : er = 2 := by rw [HE.out, if_pos (.inr ho2)]
    have t1 := decide_eq_false ho
    have t2 := decide_eq_true ho2
    subst hv
    subst he
    clear HV HE ho ho2
    go_wp2
    go_ret2
    exact ⟨by rfl, by rw [HRR.out]; exact HB1.out⟩
  have t1 := decide_eq_false ho
  have t2 := decide_eq_false ho2
  replace HV := Lib.hid (HV.out.trans (if_neg (by omega)))
  replace HE := Lib.hid (HE.out.trans (if_neg (by omega)))
  go_upto_region 3 with (fail)
  go_wp2_with fail
  refine (HKA.out _).mono ?_
  rintro e w2 ⟨rfl, hb2⟩
  have HB2 := Lib.hid (HB1.out.trans (hb2.mono (by have := H1.out.lt; omega)))
  have K1 := Lib.hid (H1.out.below hb2 H1.out.lt)
  have K2 := Lib.hid (H2.out.below hb2 H2.out.lt)
  have g0 := (K2.out.cell 0).trans rfl
  have g1 := (K2.out.cell 1).trans rfl
  have g2 := (K2.out.cell 2).trans rfl
  clear hb2 f0 f1 f2 H1 H2 HB1
  cases va with
  | false =>
    have hv : v = false := by rw [HV.out]; simp
    have he : er = 5 := by rw [HE.out]; simp
    subst hv
    subst he
    clear HV HE
    go_wp2
    go_ret2
    exact ⟨by rfl, by rw [HRR.out]; exact HB2.out⟩
  | true =>
  replace HV := Lib.hid (HV.out.trans (if_pos rfl))
  replace HE := Lib.hid (HE.out.trans (if_pos rfl))
  go_wp2_with fail
  refine (HKB.out _).mono ?_
  rintro e w3 ⟨rfl, hb3⟩
  have HB3 := Lib.hid (HB2.out.trans (hb3.mono (by have := K1.out.lt; omega)))
  have L1 := Lib.hid (K1.out.below hb3 K1.out.lt)
  have L2 := Lib.hid (K2.out.below hb3 K2.out.lt)
  have f0 := (L1.out.cell 0).trans rfl
  have f1 := (L1.out.cell 1).trans rfl
  have f2 := (L1.out.cell 2).trans rfl
  clear hb3 g0 g1 g2 K1 K2 HB2
  have g0 := (L2.out.cell 0).trans rfl
  have g1 := (L2.out.cell 1).trans rfl
  have g2 := (L2.out.cell 2).trans rfl
  cases vb with
  | false =>
    have hv : v = false := by rw [HV.out]; simp
    have he : er = 5 := by rw [HE.out]; simp
    subst hv
    subst he
    clear HV HE
    go_wp2
    go_ret2
    exact ⟨by rfl, by rw [HRR.out]; exact HB3.out⟩
  | true =>
  replace HV := Lib.hid (HV.out.trans (if_pos rfl))
  have he : er = 0 := HE.out.trans (if_pos rfl)
  subst he
  clear HE
  go_wp2_with fail
  refine (HKC.out _).mono ?_
  rintro e w4 ⟨rfl, hb4⟩
  have HB4 := Lib.hid (HB3.out.trans (hb4.mono (by have := L1.out.lt; omega)))
  clear hb4 L1 L2 f0 f1 f2 g0 g1 g2 HB3
  by_cases e1 : op = 1
  · have hv : v = (c == 0) := by rw [HV.out]; unfold holdsB; subst e1; simp
    subst e1
    subst hv
    clear HV
    go_wp2
    go_ret2
    exact ⟨by rfl, by rw [HRR.out]; exact HB4.out⟩
  have q1 : (op == 1) = false := by simpa using e1
  by_cases e2 : op = 2
  · have hv : v = (c != 0) := by rw [HV.out]; unfold holdsB; subst e2; simp
    subst e2
    subst hv
    clear HV
    go_wp2
    go_ret2
    exact ⟨by rfl, by rw [HRR.out]; exact HB4.out⟩
  have q2 : (op == 2) = false := by simpa using e2
  by_cases e3 : op = 3
  · have hv : v = (decide (c < 0)) := by rw [HV.out]; unfold holdsB; subst e3; simp
    subst e3
    subst hv
    clear HV
    go_wp2
    go_ret2
    exact ⟨by rfl, by rw [HRR.out]; exact HB4.out⟩
  have q3 : (op == 3) = false := by simpa using e3
  by_cases e4 : op = 4
  · have hv : v = (decide (c ≤ 0)) := by rw [HV.out]; unfold holdsB; subst e4; simp
    subst e4
    subst hv
    clear HV
    go_wp2
    go_ret2
    exact ⟨by rfl, by rw [HRR.out]; exact HB4.out⟩
  have q4 : (op == 4) = false := by simpa using e4
  by_cases e5 : op = 5
  · have hv : v = (decide (0 < c)) := by rw [HV.out]; unfold holdsB; subst e5; simp
    subst e5
    subst hv
    clear HV
    go_wp2
    go_ret2
    exact ⟨by rfl, by rw [HRR.out]; exact HB4.out⟩
  have q5 : (op == 5) = false := by simpa using e5
  have hv : v = decide (0 ≤ c) := by rw [HV.out]; unfold holdsB; rw [if_neg e1, if_neg e2, if_neg e3, if_neg e4, if_neg e5]
  subst hv
  clear HV
  go_wp2
  go_ret2
  exact ⟨by rfl, by rw [HRR.out]; exact HB4.out⟩

set_option maxRecDepth 20000 in
set_option maxHeartbeats 8000000 in
theorem cmp_any (op k i : Int) (s : ByteArray) (l j : Int) (t : ByteArray) (hs : s.size ≤ 9223372036854775807) (ht : t.size ≤ 9223372036854775807) (w : World) :
    Calls Tryd.prog 92 #[.int .i64 op, .agg #[.int .i64 k, .int .i64 i, .string s], .agg #[.int .i64 l, .int .i64 j, .string t]] w fun e w' => e = .returned (.tuple #[.bool (cmpR op k i s l j t), .int .i64 (cmpErr op k i s l j t)]) ∧ Below w.heap.size w w' := by
  have HV : Hid (cmpR op k i s l j t = if op < 1 ∨ 6 < op then false else if validC k i s = true then (if validC l j t = true then holdsB op (cmpC k i s l j t) else false) else false) := Lib.hid rfl
  have HE : Hid (cmpErr op k i s l j t = if op < 1 ∨ 6 < op then 2 else if validC k i s = true then (if validC l j t = true then 0 else 5) else 5) := Lib.hid rfl
  have HKA := Lib.hid (fun W => valid_sym k i s hs W)
  have HKB := Lib.hid (fun W => valid_sym l j t ht W)
  have HKC := Lib.hid (fun W => compare_any k i s l j t W)
  generalize cmpR op k i s l j t = v at *
  generalize cmpErr op k i s l j t = er at *
  generalize validC k i s = va at *
  generalize validC l j t = vb at *
  generalize cmpC k i s l j t = c at *
  go_enter Tryd.func92, Tryd.ntmps92
  go_upto_region 1 with (fail)
  obtain ⟨hb3, h1, h2, hs3⟩ := two_alloc w 68 68 [.int .i64 k, .int .i64 i, .string s] [.int .i64 l, .int .i64 j, .string t]
  generalize World.alloc (World.alloc _ _) _ = w1 at *
  generalize hR : w.heap.size = R at *
  have HRR := Lib.hid hR
  clear hR
  have HB1 := Lib.hid hb3
  have H1 := Lib.hid h1
  have H2 := Lib.hid h2
  have f0 := (h1.cell 0).trans rfl
  have f1 := (h1.cell 1).trans rfl
  have f2 := (h1.cell 2).trans rfl
  clear h1 h2 hb3 hs3
  by_cases ho : op < 1
  · have hv : v = false := by rw [HV.out, if_pos (.inl ho)]
    have he : er = 2 := by rw [HE.out, if_pos (.inl ho)]
    have t1 := decide_eq_true ho
    subst hv
    subst he
    clear HV HE ho
    go_wp2
    go_ret2
    exact ⟨by rfl, by rw [HRR.out]; exact HB1.out⟩
  by_cases ho2 : 6 < op
  · have hv : v = false := by rw [HV.out, if_pos (.inr ho2)]
    have he : er = 2 := by rw [HE.out, if_pos (.inr ho2)]
    have t1 := decide_eq_false ho
    have t2 := decide_eq_true ho2
    subst hv
    subst he
    clear HV HE ho ho2
    go_wp2
    go_ret2
    exact ⟨by rfl, by rw [HRR.out]; exact HB1.out⟩
  have t1 := decide_eq_false ho
  have t2 := decide_eq_false ho2
  replace HV := Lib.hid (HV.out.trans (if_neg (by omega)))
  replace HE := Lib.hid (HE.out.trans (if_neg (by omega)))
  go_upto_region 3 with (fail)
  go_wp2_with fail
  refine (HKA.out _).mono ?_
  rintro e w2 ⟨rfl, hb2⟩
  have HB2 := Lib.hid (HB1.out.trans (hb2.mono (by have := H1.out.lt; omega)))
  have K1 := Lib.hid (H1.out.below hb2 H1.out.lt)
  have K2 := Lib.hid (H2.out.below hb2 H2.out.lt)
  have g0 := (K2.out.cell 0).trans rfl
  have g1 := (K2.out.cell 1).trans rfl
  have g2 := (K2.out.cell 2).trans rfl
  clear hb2 f0 f1 f2 H1 H2 HB1
  cases va with
  | false =>
    have hv : v = false := by rw [HV.out]; simp
    have he : er = 5 := by rw [HE.out]; simp
    subst hv
    subst he
    clear HV HE
    go_wp2
    go_ret2
    exact ⟨by rfl, by rw [HRR.out]; exact HB2.out⟩
  | true =>
  replace HV := Lib.hid (HV.out.trans (if_pos rfl))
  replace HE := Lib.hid (HE.out.trans (if_pos rfl))
  go_wp2_with fail
  refine (HKB.out _).mono ?_
  rintro e w3 ⟨rfl, hb3⟩
  have HB3 := Lib.hid (HB2.out.trans (hb3.mono (by have := K1.out.lt; omega)))
  have L1 := Lib.hid (K1.out.below hb3 K1.out.lt)
  have L2 := Lib.hid (K2.out.below hb3 K2.out.lt)
  have f0 := (L1.out.cell 0).trans rfl
  have f1 := (L1.out.cell 1).trans rfl
  have f2 := (L1.out.cell 2).trans rfl
  clear hb3 g0 g1 g2 K1 K2 HB2
  have g0 := (L2.out.cell 0).trans rfl
  have g1 := (L2.out.cell 1).trans rfl
  have g2 := (L2.out.cell 2).trans rfl
  cases vb with
  | false =>
    have hv : v = false := by rw [HV.out]; simp
    have he : er = 5 := by rw [HE.out]; simp
    subst hv
    subst he
    clear HV HE
    go_wp2
    go_ret2
    exact ⟨by rfl, by rw [HRR.out]; exact HB3.out⟩
  | true =>
  replace HV := Lib.hid (HV.out.trans (if_pos rfl))
  have he : er = 0 := HE.out.trans (if_pos rfl)
  subst he
  clear HE
  go_wp2_with fail
  refine (HKC.out _).mono ?_
  rintro e w4 ⟨rfl, hb4⟩
  have HB4 := Lib.hid (HB3.out.trans (hb4.mono (by have := L1.out.lt; omega)))
  clear hb4 L1 L2 f0 f1 f2 g0 g1 g2 HB3
  by_cases e1 : op = 1
  · have hv : v = (c == 0) := by rw [HV.out]; unfold holdsB; subst e1; simp
    subst e1
    subst hv
    clear HV
    go_wp2
    go_ret2
    exact ⟨by rfl, by rw [HRR.out]; exact HB4.out⟩
  have q1 : (op == 1) = false := by simpa using e1
  by_cases e2 : op = 2
  · have hv : v = (c != 0) := by rw [HV.out]; unfold holdsB; subst e2; simp
    subst e2
    subst hv
    clear HV
    go_wp2
    go_ret2
    exact ⟨by rfl, by rw [HRR.out]; exact HB4.out⟩
  have q2 : (op == 2) = false := by simpa using e2
  by_cases e3 : op = 3
  · have hv : v = (decide (c < 0)) := by rw [HV.out]; unfold holdsB; subst e3; simp
    subst e3
    subst hv
    clear HV
    go_wp2
    go_ret2
    exact ⟨by rfl, by rw [HRR.out]; exact HB4.out⟩
  have q3 : (op == 3) = false := by simpa using e3
  by_cases e4 : op = 4
  · have hv : v = (decide (c ≤ 0)) := by rw [HV.out]; unfold holdsB; subst e4; simp
    subst e4
    subst hv
    clear HV
    go_wp2
    go_ret2
    exact ⟨by rfl, by rw [HRR.out]; exact HB4.out⟩
  have q4 : (op == 4) = false := by simpa using e4
  by_cases e5 : op = 5
  · have hv : v = (decide (0 < c)) := by rw [HV.out]; unfold holdsB; subst e5; simp
    subst e5
    subst hv
    clear HV
    go_wp2
    go_ret2
    exact ⟨by rfl, by rw [HRR.out]; exact HB4.out⟩
  have q5 : (op == 5) = false := by simpa using e5
  have hv : v = decide (0 ≤ c) := by rw [HV.out]; unfold holdsB; rw [if_neg e1, if_neg e2, if_neg e3, if_neg e4, if_neg e5]
  subst hv
  clear HV
  go_wp2
  go_ret2
  exact ⟨by rfl, by rw [HRR.out]; exact HB4.out⟩
end Go.Proofs.YtjcgkplphiedjaaDoorT
