/- FormatInt at base 10, laid in plain words; a constant's canonical text, the program's. -/
import Derived.Shelf.LaysM
import Derived.Shelf.Strconv.Itoa4
import Derived.Test.YtjcgkplphiedjaaDoorTH21
namespace Go.Proofs
open Go.Shelf
def Tryd.laysM173_ren : Go.Shelf.Ren := ⟨fun | 173 => 58 | 246 => 73 | 283 => 93 | 284 => 94 | 285 => 95 | 286 => 96 | 129 => 107 | 317 => 106 | 318 => 108 | 319 => 109 | 320 => 110 | 337 => 124 | 338 => 125 | n => n, fun | 3 => 3 | 9 => 9 | 2 => 2 | 4 => 4 | 171 => 142 | 0 => 0 | 53 => 143 | 37 => 57 | 5 => 5 | 173 => 146 | 212 => 155 | 51 => 156 | 20 => 20 | 213 => 157 | 46 => 137 | 232 => 171 | 233 => 172 | n => n, fun | 17 => 1 | 18 => 2 | 19 => 3 | n => n⟩
theorem Tryd.laysM173 : Go.Proofs.LaysM.n173 Tryd.prog Tryd.laysM173_ren := {
  mixed := by kernel_rfl
  f129 := Tryd.func107.trans (congrArg some (by kernel_rfl))
  f173 := Tryd.func58.trans (congrArg some (by kernel_rfl))
  f246 := Tryd.func73.trans (congrArg some (by kernel_rfl))
  f283 := Tryd.func93.trans (congrArg some (by kernel_rfl))
  f284 := Tryd.func94.trans (congrArg some (by kernel_rfl))
  f285 := Tryd.func95.trans (congrArg some (by kernel_rfl))
  f286 := Tryd.func96.trans (congrArg some (by kernel_rfl))
  f317 := Tryd.func106.trans (congrArg some (by kernel_rfl))
  f318 := Tryd.func108.trans (congrArg some (by kernel_rfl))
  f319 := Tryd.func109.trans (congrArg some (by kernel_rfl))
  f320 := Tryd.func110.trans (congrArg some (by kernel_rfl))
  f337 := Tryd.func124.trans (congrArg some (by kernel_rfl))
  f338 := Tryd.func125.trans (congrArg some (by kernel_rfl))
  t0 := Tryd.underlying0
  a0 := Tryd.isAgg0
  z0 := Tryd.sizeOf0
  v0 := Tryd.zeroValue0
  t2 := Tryd.underlying2
  a2 := Tryd.isAgg2
  z2 := Tryd.sizeOf2
  v2 := Tryd.zeroValue2
  t3 := Tryd.underlying3
  a3 := Tryd.isAgg3
  z3 := Tryd.sizeOf3
  v3 := Tryd.zeroValue3
  t4 := Tryd.underlying4
  a4 := Tryd.isAgg4
  z4 := Tryd.sizeOf4
  v4 := Tryd.zeroValue4
  t5 := Tryd.underlying5
  a5 := Tryd.isAgg5
  z5 := Tryd.sizeOf5
  v5 := Tryd.zeroValue5
  t9 := Tryd.underlying9
  a9 := Tryd.isAgg9
  z9 := Tryd.sizeOf9
  v9 := Tryd.zeroValue9
  t20 := Tryd.underlying20
  a20 := Tryd.isAgg20
  z20 := Tryd.sizeOf20
  v20 := Tryd.zeroValue20
  t37 := Tryd.underlying57
  a37 := Tryd.isAgg57
  z37 := Tryd.sizeOf57
  v37 := Tryd.zeroValue57
  t46 := Tryd.underlying137
  a46 := Tryd.isAgg137
  z46 := Tryd.sizeOf137
  v46 := Tryd.zeroValue137
  t51 := Tryd.underlying156
  a51 := Tryd.isAgg156
  z51 := Tryd.sizeOf156
  v51 := Tryd.zeroValue156
  t53 := Tryd.underlying143
  a53 := Tryd.isAgg143
  z53 := Tryd.sizeOf143
  v53 := Tryd.zeroValue143
  t171 := Tryd.underlying142
  a171 := Tryd.isAgg142
  z171 := Tryd.sizeOf142
  v171 := Tryd.zeroValue142
  t173 := Tryd.underlying146
  a173 := Tryd.isAgg146
  z173 := Tryd.sizeOf146
  v173 := Tryd.zeroValue146
  t212 := Tryd.underlying155
  a212 := Tryd.isAgg155
  z212 := Tryd.sizeOf155
  v212 := Tryd.zeroValue155
  t213 := Tryd.underlying157
  a213 := Tryd.isAgg157
  z213 := Tryd.sizeOf157
  t232 := Tryd.underlying171
  a232 := Tryd.isAgg171
  z232 := Tryd.sizeOf171
  v232 := Tryd.zeroValue171
  t233 := Tryd.underlying172
  a233 := Tryd.isAgg172
  z233 := Tryd.sizeOf172
  v233 := Tryd.zeroValue172
  g17 := by kernel_rfl
  g18 := by kernel_rfl
  g19 := by kernel_rfl
  i0 := by kernel_rfl
  i2 := by kernel_rfl
  i3 := by kernel_rfl
  i4 := by kernel_rfl
  i5 := by kernel_rfl
  i9 := by kernel_rfl
  i20 := by kernel_rfl
  i37 := by kernel_rfl
  i46 := by kernel_rfl
  i51 := by kernel_rfl
  i53 := by kernel_rfl
  i171 := by kernel_rfl
  i173 := by kernel_rfl
  i212 := by kernel_rfl
  i232 := by kernel_rfl
  i233 := by kernel_rfl
  m17 := by kernel_rfl
  m18 := by kernel_rfl
  m19 := by kernel_rfl }
open Go.RowKit Go.Sort Go.Lib in
theorem Tryd.strconv_FormatInt10 (n : Int) (h0 : -9223372036854775808 ≤ n) (h1 : n ≤ 9223372036854775807) (w : World) (htab : Lib.TabIs Tryd.prog w "internal/strconv.uint64pow10" .u64 Lib.pow10Tab) :
    Calls Tryd.prog 58 #[.int .i64 n, .int .i64 10] w fun e w' => e = .returned (.string ⟨(Lib.itoa n).toArray⟩) ∧ ∃ k os, w' = grow (w.drewN k) os := Any.strconv_FormatInt_10 Tryd.laysM173 n h0 h1 w htab
end Go.Proofs
namespace Go.Proofs.YtjcgkplphiedjaaDoorT
open Go.RowKit Go.Sort

abbrev Pow (w : World) : Prop := YtjcgkplphiedjaaDoor.Pow w
theorem format_any (n : Int) (h : inI n) (w : World) (hp : Pow w) :
    Calls Tryd.prog 58 #[.int .i64 n, .int .i64 10] w fun e w' => e = .returned (.string (it n)) ∧ Below w.heap.size w w' := by
  refine (Tryd.strconv_FormatInt10 n h.1 h.2 w hp).mono ?_
  rintro e w' ⟨rfl, k, os, rfl⟩
  exact ⟨rfl, below_regrown w (w.drawn + k) os⟩

set_option maxRecDepth 20000 in
set_option maxHeartbeats 4000000 in
theorem text_sym (k i : Int) (t : ByteArray) (hi : inI i) (hb : t.size ≤ 9223372036854775807) (w : World) (hp : Pow w) :
    Calls Tryd.prog 34 #[.agg #[.int .i64 k, .int .i64 i, .string t]] w fun e w' => e = .returned (.string (textS k i t)) ∧ Below w.heap.size w w' := by
  have HV : Hid (textS k i t = if validC k i t = false then ⟨#[]⟩ else if k = 1 then it i else if k = 2 then t else quo ⟨#[34]⟩ t.toList ++ ⟨#[34]⟩) := Lib.hid rfl
  have HKV : Hid (∀ W, Calls Tryd.prog 57 #[.agg #[.int .i64 k, .int .i64 i, .string t]] W fun e w' => e = .returned (.bool (validC k i t)) ∧ Below W.heap.size W w') := Lib.hid (fun W => valid_sym k i t hb W)
  have HKD : Hid (∀ W, Pow W → Calls Tryd.prog 58 #[.int .i64 i, .int .i64 10] W fun e w' => e = .returned (.string (it i)) ∧ Below W.heap.size W w') := Lib.hid (fun W h => format_any i hi W h)
  have HVC : Hid (validC k i t = true → k ≠ 1 → k ≠ 2 → t.size ≤ 255) := Lib.hid (by
    intro hv k1 k2
    unfold validC at hv
    rw [if_neg k1, if_neg k2] at hv
    split at hv
    · rw [Bool.and_eq_true, decide_eq_true_eq, decide_eq_true_eq] at hv
      exact hv.2
    · cases hv)
  have HP := Lib.hid hp
  clear hp
  generalize textS k i t = v at *
  generalize validC k i t = vc at *
  go_enter Tryd.func34, Tryd.ntmps34
  go_upto_region 1 with (fail)
  have hb1 := (Below.refl w.heap.size w).alloc (Nat.le_refl _) (.cells #[.int .i64 k, .int .i64 i, .string t] 68)
  have h1 := Blk.new w 68 [.int .i64 k, .int .i64 i, .string t]
  have HP1 := Lib.hid (HP.out.below hb1)
  generalize World.alloc _ _ = w1 at *
  generalize hR : w.heap.size = R at *
  have HRR := Lib.hid hR
  clear hR HP
  have HB1 := Lib.hid hb1
  have H1 := Lib.hid h1
  have f0 := h1.cell 0
  have f1 := h1.cell 1
  have f2 := h1.cell 2
  simp only [List.getElem?_cons_zero, List.getElem?_cons_succ] at f0 f1 f2
  have hs1 : R ≤ w1.heap.size := by have := h1.lt; omega
  clear h1 hb1
  have ka := HKV.out w1
  go_wp2_with fail
  refine ka.mono ?_
  rintro e w2 ⟨rfl, hb2⟩
  have HB2 := Lib.hid (HB1.out.trans (hb2.mono hs1))
  have H2 := Lib.hid (H1.out.below hb2 H1.out.lt)
  have HP2 := Lib.hid (HP1.out.below hb2)
  have hs2 : R ≤ w2.heap.size := Nat.le_trans hs1 hb2.size
  have g0 := H2.out.cell 0
  have g1 := H2.out.cell 1
  have g2 := H2.out.cell 2
  simp only [List.getElem?_cons_zero, List.getElem?_cons_succ] at g0 g1 g2
  clear ka hb2 HB1 H1 f0 f1 f2 HP1
  cases vc with
  | false =>
    have hz : v = ⟨#[]⟩ := by rw [HV.out, if_pos rfl]
    subst hz
    clear HV
    go_wp2
    go_ret
    exact ⟨by rfl, by rw [HRR.out]; exact HB2.out⟩
  | true =>
    by_cases k1 : k = 1
    · subst k1
      have hz : v = it i := by rw [HV.out, if_neg (by simp), if_pos rfl]
      subst hz
      clear HV HVC
      have kd := HKD.out w2 HP2.out
      go_wp2_with fail
      refine kd.mono ?_
      rintro e w3 ⟨rfl, hb3⟩
      have HB3 := Lib.hid (HB2.out.trans (hb3.mono hs2))
      clear kd hb3
      go_wp2
      go_ret
      exact ⟨by rfl, by rw [HRR.out]; exact HB3.out⟩
    have t1 : (k == 1) = false := by simpa using k1
    by_cases k2 : k = 2
    · subst k2
      have hz : v = t := by rw [HV.out, if_neg (by simp), if_neg (by decide), if_pos rfl]
      subst hz
      clear HV HVC k1
      go_wp2
      go_ret
      exact ⟨by rfl, by rw [HRR.out]; exact HB2.out⟩
    have t2 : (k == 2) = false := by simpa using k2
    have hz : v = quo ⟨#[34]⟩ t.toList ++ ⟨#[34]⟩ := by rw [HV.out, if_neg (by simp), if_neg k1, if_neg k2]
    have kq := quoted_sym t (HVC.out rfl k1 k2) w2
    rw [← hz] at kq
    clear HV HVC k1 k2 hz
    go_wp2_with fail
    refine kq.mono ?_
    rintro e w3 ⟨rfl, hb3⟩
    have HB3 := Lib.hid (HB2.out.trans (hb3.mono hs2))
    clear kq hb3
    go_wp2
    go_ret
    exact ⟨by rfl, by rw [HRR.out]; exact HB3.out⟩
end Go.Proofs.YtjcgkplphiedjaaDoorT
