/- Well formed terms made of any: mod, size, constant. | Well formed terms made of any: term. -/
import Derived.Test.YtjcgkplphiedjaaHi
import Derived.Test.YtjcgkplphiedjaaGa
import Derived.Test.YtjcgkplphiedjaaGk
import Derived.Laws.IdiomStrings
import Derived.Lib.QuietBelow
namespace Go.Proofs.Ytjcgkplphiedjaa
open Go.RowKit Go.Sort

set_option maxRecDepth 20000 in
set_option maxHeartbeats 4000000 in
theorem mod_any (k n : Int) (w : World) (hn : 0 < n) (hn2 : n ≤ 140737488355328) :
    Calls Try.prog 19 #[.int .i64 k, .int .i64 n] w fun e w' => ∃ r, e = .returned (.int .i64 r) ∧ 0 ≤ r ∧ r < n ∧ Below w.heap.size w w' := by
  have h1 : Int.tmod k n < n := Int.tmod_lt_of_pos k hn
  have h2 : -n < Int.tmod k n := by
    have := Int.lt_tmod_of_pos k hn
    omega
  go_enter Try.func19, Try.ntmps19
  by_cases hs : Int.tmod k n < 0
  · go_wp2
    go_ret
    exact ⟨_, rfl, by omega, by omega, Below.refl _ _⟩
  · go_wp2
    go_ret
    exact ⟨_, rfl, by omega, by omega, Below.refl _ _⟩

set_option maxRecDepth 20000 in
set_option maxHeartbeats 4000000 in
theorem size_any (s : ByteArray) (hs : s.size ≤ 9223372036854775807) (w : World) :
    Calls Try.prog 56 #[.string s] w fun e w' => ∃ r, e = .returned (.int .i64 r) ∧ Below w.heap.size w w' := by
  go_enter Try.func56, Try.ntmps56
  go_upto_region 3 with (fail)
  go_loopg [3, 4] s.size (fun gk u3 u4 wr => ∃ (v : Int) (i : Nat), u3 = .int .i64 v ∧ u4 = .int .i64 i ∧ i ≤ s.size ∧ gk = s.size - i ∧ Below w.heap.size w wr)
  case atStart => exact ⟨_, 0, rfl, rfl, Nat.zero_le _, by omega, Below.refl _ _⟩
  case round =>
    obtain ⟨v, i, rfl, rfl, hi, hg, hb⟩ := hrel
    by_cases hlt : i < s.size
    · have h1 : (i : Int) < (s.size : Int) := by omega
      go_wp2
      go_roundg (s.size - (i + 1))
      case measure => omega
      case rel => exact ⟨_, i + 1, rfl, by go_num, by omega, rfl, hb⟩
    · go_wp2
      go_ret
      exact ⟨_, rfl, hb⟩

/-- A term that is well formed, and stays so when it is named anew. -/
def goodT (t : T) : Prop := t.err = 0 ∧ (t.ren 0).err = 0 ∧ t.fine ∧ inI t.i
theorem bytes_list (l : List UInt8) : (⟨l.toArray⟩ : ByteArray).toList = l := by rw [ByteArray.toList_eq]
theorem errT_plain {k i : Int} {t : ByteArray} (hk : k ≠ 4) (hv : validC k i t = true) : termE k i t = 0 := by
  unfold termE
  rw [if_neg hk, if_pos hv]
theorem errT_var {t : ByteArray} (hv : isVarS t = true) : termE 4 0 t = 0 := by
  unfold termE
  rw [if_pos rfl, if_pos ⟨rfl, hv⟩]
theorem goodT_plain {k i o : Int} {t : ByteArray} (hk : k ≠ 4) (hv : validC k i t = true) (hs : t.size ≤ 9223372036854775807) (hi : inI i) : goodT ⟨k, i, t, o⟩ := by
  have e : (T.ren 0 ⟨k, i, t, o⟩) = ⟨k, i, t, 0⟩ := by
    unfold T.ren
    rw [if_neg (fun hh => hk hh.1)]
  refine ⟨errT_plain hk hv, ?_, hs, hi⟩
  rw [e]
  exact errT_plain hk hv
theorem goodT_int {r : Int} (h0 : 0 ≤ r) (h1 : r < 2) : goodT ⟨1, r, ⟨#[]⟩, 0⟩ := by
  have e : (⟨#[]⟩ : ByteArray).toList = [] := bytes_list []
  refine goodT_plain (by omega) ?_ (by decide) ⟨by omega, by omega⟩
  unfold validC
  rw [if_pos rfl, e]; rfl
theorem goodT_sym {k : Int} (hk : k = 2 ∨ k = 3) {b : Nat} (h0 : 97 ≤ b) (h1 : b < 123) : goodT ⟨k, 0, ⟨#[UInt8.ofNat b]⟩, 0⟩ := by
  have e : (⟨#[UInt8.ofNat b]⟩ : ByteArray).toList = [UInt8.ofNat b] := bytes_list [_]
  have hz : (⟨#[UInt8.ofNat b]⟩ : ByteArray).size = 1 := rfl
  have hn : (UInt8.ofNat b).toNat = b := by rw [UInt8.toNat_ofNat']; omega
  refine goodT_plain (by omega) ?_ (by rw [hz]; omega) ⟨by decide, by decide⟩
  unfold validC isNameS tailB lowZ notS
  rw [e, hz]
  rcases hk with rfl | rfl
  · simp only [List.headD_cons, hn]
    simp
    omega
  · simp
theorem goodT_var {b : Nat} (h0 : 65 ≤ b) (h1 : b < 91) (o : Int) : goodT ⟨4, 0, ⟨#[UInt8.ofNat b]⟩, o⟩ := by
  have e : (⟨#[UInt8.ofNat b]⟩ : ByteArray).toList = [UInt8.ofNat b] := bytes_list [_]
  have hz : (⟨#[UInt8.ofNat b]⟩ : ByteArray).size = 1 := rfl
  have hn : (UInt8.ofNat b).toNat = b := by rw [UInt8.toNat_ofNat']; omega
  have hv : isVarS ⟨#[UInt8.ofNat b]⟩ = true := by
    unfold isVarS tailB bigZ uppZ
    rw [e, hz]
    simp only [List.headD_cons, hn]
    simp
    omega
  have e2 : ((⟨#[UInt8.ofNat b]⟩ : ByteArray) ++ zS).toList = [UInt8.ofNat b, 90] := by rw [toList_append, e, zS_list]; rfl
  have hz2 : ((⟨#[UInt8.ofNat b]⟩ : ByteArray) ++ zS).size = 2 := by rw [toList_size, e2]; rfl
  have hv2 : isVarS ((⟨#[UInt8.ofNat b]⟩ : ByteArray) ++ zS) = true := by
    unfold isVarS tailB bigZ wordZ uppZ
    rw [e2, hz2]
    simp only [List.headD_cons, hn]
    simp
    omega
  have hu : (⟨#[UInt8.ofNat b]⟩ : ByteArray) ≠ uS := fun h => by
    have h1 := congrArg ByteArray.toList h
    rw [e, uS_list] at h1
    have h2 : UInt8.ofNat b = 95 := by simpa using h1
    have h3 := congrArg UInt8.toNat h2
    rw [hn] at h3
    have : (95 : UInt8).toNat = 95 := rfl
    omega
  have er : (T.ren 0 ⟨4, 0, ⟨#[UInt8.ofNat b]⟩, o⟩) = ⟨4, 0, (⟨#[UInt8.ofNat b]⟩ : ByteArray) ++ zS, 0⟩ := by
    unfold T.ren
    rw [if_pos ⟨rfl, hu⟩]
  refine ⟨errT_var hv, ?_, ?_, (⟨by decide, by decide⟩ : inI 0)⟩
  · rw [er]; exact errT_var hv2
  · unfold T.fine
    show (⟨#[UInt8.ofNat b]⟩ : ByteArray).size ≤ _
    rw [hz]; omega

theorem byte_text (b : Nat) (hb : b < 256) (W : World) :
    (convert 64 9 (.slice (some ⟨W.heap.size, 0, none⟩) 1 1)).run Try.prog (W.alloc (.cells #[.int .u8 (b : Int)] 5)) = .ok (.string ⟨#[UInt8.ofNat b]⟩) (W.alloc (.cells #[.int .u8 (b : Int)] 5)) := by
  have hn : (UInt8.ofNat b).toNat = b := by rw [UInt8.toNat_ofNat']; omega
  refine run_convert_bytes_back (P := Try.prog) (W.alloc (.cells #[.int .u8 (b : Int)] 5)) 64 9 5 ⟨W.heap.size, 0, none⟩ 1 [UInt8.ofNat b] Try.underlying64 Try.underlying5 Try.underlying9 ?_
  intro j hj
  have hj0 : j = 0 := by simp at hj; omega
  subst hj0
  have := (Blk.new W 5 [.int .u8 (b : Int)]).cell 0
  simp only [List.getElem_cons_zero, hn]
  exact this

set_option maxRecDepth 20000 in
set_option maxHeartbeats 8000000 in
theorem constant_any (k : Int) (w : World) :
    Calls Try.prog 57 #[.int .i64 k] w fun e w' => ∃ t : T, e = .returned (.agg t.cells.toArray) ∧ goodT t ∧ Below w.heap.size w w' := by
  have k3 := fun W => mod_any k 3 W (by omega) (by omega)
  have k2 := fun W => mod_any k 2 W (by omega) (by omega)
  go_enter Try.func57, Try.ntmps57
  go_upto_region 1 with (fail)
  have hb1 := (Below.refl w.heap.size w).alloc (Nat.le_refl _) (.cells #[.int .i64 0, .int .i64 0, .string ⟨#[]⟩, .int .i64 0] 33)
  have h1 := Blk.new w 33 [.int .i64 0, .int .i64 0, .string ⟨#[]⟩, .int .i64 0]
  generalize World.alloc _ _ = w1 at *
  generalize hR : w.heap.size = R at *
  have HRR := Lib.hid hR
  clear hR
  have hs1 : R < w1.heap.size := h1.lt
  have kk := k3 w1
  go_wp2_with fail
  refine kk.mono ?_
  rintro e w2 ⟨r, rfl, hr0, hr3, hb2⟩
  have HB2 := Lib.hid (hb1.trans (hb2.mono (by omega)))
  have H2 := Lib.hid (h1.below hb2 hs1)
  have hs2 : R < w2.heap.size := H2.out.lt
  clear kk hb2 hb1 h1 hs1
  have kj := k2 w2
  clear k2 k3
  by_cases hq0 : r = 0
  · subst hq0
    go_wp2_with fail
    refine kj.mono ?_
    rintro e w3 ⟨q, rfl, hq1, hq2, hb3⟩
    obtain ⟨qn, rfl⟩ : ∃ n : Nat, q = n := ⟨q.toNat, by omega⟩
    have HB3 := Lib.hid (HB2.out.trans (hb3.mono (by omega)))
    have H3 := Lib.hid (H2.out.below hb3 hs2)
    clear kj hb3 HB2 H2
    have c0 := (H3.out.cell 0).trans rfl
    have c1 := (H3.out.cell 1).trans rfl
    have c2 := (H3.out.cell 2).trans rfl
    have c3 := (H3.out.cell 3).trans rfl
    have z0 := H3.out.frozen 0
    have z1 := H3.out.frozen 1
    have z2 := H3.out.frozen 2
    have z3 := H3.out.frozen 3
    have hl3 := H3.out.lt
    have D4 := (((H3.out.set_ 0 (.int .i64 1)).set_ 1 (.int .i64 (qn : Int))).set_ 2 (.string ⟨#[]⟩)).set_ 3 (.int .i64 0)
    have E4 := (((HB3.out.setCell (p := ⟨R, 0, none⟩) (Nat.le_refl _) (.int .i64 1)).setCell (p := ⟨R, 1, none⟩) (Nat.le_refl _) (.int .i64 (qn : Int))).setCell (p := ⟨R, 2, none⟩) (Nat.le_refl _) (.string ⟨#[]⟩)).setCell (p := ⟨R, 3, none⟩) (Nat.le_refl _) (.int .i64 0)
    have p0 := D4.cell 0
    have p1 := D4.cell 1
    have p2 := D4.cell 2
    have p3 := D4.cell 3
    simp at p0 p1 p2 p3
    have HE4 := Lib.hid E4
    clear D4 E4 HB3 H3
    go_wp2
    refine bodyPost_ret (v := .agg #[.int .i64 1, .int .i64 (qn : Int), .string ⟨#[]⟩, .int .i64 0]) ?_ rfl ⟨⟨1, qn, ⟨#[]⟩, 0⟩, rfl, goodT_int (by omega) (by omega), ?_⟩
    · simp [results, Try.results57, go_sem, p0, p1, p2, p3]
    · rw [HRR.out]; exact HE4.out
  · have t0 : (r == 0) = false := by simpa using hq0
    by_cases hq1 : r = 1
    · subst hq1
      go_wp2_with fail
      refine kj.mono ?_
      rintro e w3 ⟨q, rfl, hq1, hq2, hb3⟩
      obtain ⟨qn, rfl⟩ : ∃ n : Nat, q = n := ⟨q.toNat, by omega⟩
      obtain ⟨sb, hsb⟩ : ∃ sb : ByteArray, sb = ⟨#[UInt8.ofNat (97 + qn)]⟩ := ⟨_, rfl⟩
      have hcv : (convert 64 9 (.slice (some ⟨w3.heap.size, 0, none⟩) 1 1)).run Try.prog (w3.alloc (.cells #[.int .u8 (97 + (qn : Int))] 5)) = .ok (.string sb) (w3.alloc (.cells #[.int .u8 (97 + (qn : Int))] 5)) := by
        rw [hsb]; simpa using byte_text (97 + qn) (by omega) w3
      have HSB := Lib.hid hsb
      clear hsb
      have HB3 := Lib.hid ((HB2.out.trans (hb3.mono (by omega))).alloc (by have := hb3.size; omega) (.cells #[.int .u8 (97 + (qn : Int))] 5))
      have H3 := Lib.hid ((H2.out.below hb3 hs2).alloc (.cells #[.int .u8 (97 + (qn : Int))] 5))
      clear kj hb3 HB2 H2
      have c0 := (H3.out.cell 0).trans rfl
      have c1 := (H3.out.cell 1).trans rfl
      have c2 := (H3.out.cell 2).trans rfl
      have c3 := (H3.out.cell 3).trans rfl
      have z0 := H3.out.frozen 0
      have z1 := H3.out.frozen 1
      have z2 := H3.out.frozen 2
      have z3 := H3.out.frozen 3
      have hl3 := H3.out.lt
      have D4 := (((H3.out.set_ 0 (.int .i64 2)).set_ 1 (.int .i64 0)).set_ 2 (.string sb)).set_ 3 (.int .i64 0)
      have E4 := (((HB3.out.setCell (p := ⟨R, 0, none⟩) (Nat.le_refl _) (.int .i64 2)).setCell (p := ⟨R, 1, none⟩) (Nat.le_refl _) (.int .i64 0)).setCell (p := ⟨R, 2, none⟩) (Nat.le_refl _) (.string sb)).setCell (p := ⟨R, 3, none⟩) (Nat.le_refl _) (.int .i64 0)
      have p0 := D4.cell 0
      have p1 := D4.cell 1
      have p2 := D4.cell 2
      have p3 := D4.cell 3
      simp at p0 p1 p2 p3
      have HE4 := Lib.hid E4
      clear D4 E4 HB3 H3
      go_wp2
      refine bodyPost_ret (v := .agg #[.int .i64 2, .int .i64 0, .string sb, .int .i64 0]) ?_ rfl ⟨⟨2, 0, sb, 0⟩, rfl, by rw [HSB.out]; exact goodT_sym (by omega) (by omega) (by omega), ?_⟩
      · simp [results, Try.results57, go_sem, p0, p1, p2, p3]
      · rw [HRR.out]; exact HE4.out
    · have t1 : (r == 1) = false := by simpa using hq1
      go_wp2_with fail
      refine kj.mono ?_
      rintro e w3 ⟨q, rfl, hq1, hq2, hb3⟩
      obtain ⟨qn, rfl⟩ : ∃ n : Nat, q = n := ⟨q.toNat, by omega⟩
      obtain ⟨sb, hsb⟩ : ∃ sb : ByteArray, sb = ⟨#[UInt8.ofNat (97 + qn)]⟩ := ⟨_, rfl⟩
      have hcv : (convert 64 9 (.slice (some ⟨w3.heap.size, 0, none⟩) 1 1)).run Try.prog (w3.alloc (.cells #[.int .u8 (97 + (qn : Int))] 5)) = .ok (.string sb) (w3.alloc (.cells #[.int .u8 (97 + (qn : Int))] 5)) := by
        rw [hsb]; simpa using byte_text (97 + qn) (by omega) w3
      have HSB := Lib.hid hsb
      clear hsb
      have HB3 := Lib.hid ((HB2.out.trans (hb3.mono (by omega))).alloc (by have := hb3.size; omega) (.cells #[.int .u8 (97 + (qn : Int))] 5))
      have H3 := Lib.hid ((H2.out.below hb3 hs2).alloc (.cells #[.int .u8 (97 + (qn : Int))] 5))
      clear kj hb3 HB2 H2
      have c0 := (H3.out.cell 0).trans rfl
      have c1 := (H3.out.cell 1).trans rfl
      have c2 := (H3.out.cell 2).trans rfl
      have c3 := (H3.out.cell 3).trans rfl
      have z0 := H3.out.frozen 0
      have z1 := H3.out.frozen 1
      have z2 := H3.out.frozen 2
      have z3 := H3.out.frozen 3
      have hl3 := H3.out.lt
      have D4 := (((H3.out.set_ 0 (.int .i64 3)).set_ 1 (.int .i64 0)).set_ 2 (.string sb)).set_ 3 (.int .i64 0)
      have E4 := (((HB3.out.setCell (p := ⟨R, 0, none⟩) (Nat.le_refl _) (.int .i64 3)).setCell (p := ⟨R, 1, none⟩) (Nat.le_refl _) (.int .i64 0)).setCell (p := ⟨R, 2, none⟩) (Nat.le_refl _) (.string sb)).setCell (p := ⟨R, 3, none⟩) (Nat.le_refl _) (.int .i64 0)
      have p0 := D4.cell 0
      have p1 := D4.cell 1
      have p2 := D4.cell 2
      have p3 := D4.cell 3
      simp at p0 p1 p2 p3
      have HE4 := Lib.hid E4
      clear D4 E4 HB3 H3
      go_wp2
      refine bodyPost_ret (v := .agg #[.int .i64 3, .int .i64 0, .string sb, .int .i64 0]) ?_ rfl ⟨⟨3, 0, sb, 0⟩, rfl, by rw [HSB.out]; exact goodT_sym (by omega) (by omega) (by omega), ?_⟩
      · simp [results, Try.results57, go_sem, p0, p1, p2, p3]
      · rw [HRR.out]; exact HE4.out
end Go.Proofs.Ytjcgkplphiedjaa

namespace Go.Proofs.Ytjcgkplphiedjaa
open Go.RowKit Go.Sort

def szL : Int → List UInt8 → Int
  | v, [] => v
  | v, b :: l => szL (wrap64 (v + wrap64 (b.toNat : Int))) l
set_option maxRecDepth 20000 in
set_option maxHeartbeats 4000000 in
theorem size_at (s : ByteArray) (hs : s.size ≤ 9223372036854775807) (w : World) :
    Calls Try.prog 56 #[.string s] w fun e w' => e = .returned (.int .i64 (szL s.size s.toList)) ∧ Below w.heap.size w w' := by
  have HV : Hid (szL s.size (s.toList.drop 0) = szL s.size s.toList) := Lib.hid rfl
  have HL : Hid (s.toList.length = s.size) := Lib.hid (toList_size s).symm
  generalize szL s.size s.toList = V at *
  go_enter Try.func56, Try.ntmps56
  go_upto_region 3 with (fail)
  go_loopg [3, 4] s.size (fun gk u3 u4 wr => ∃ (v : Int) (i : Nat), u3 = .int .i64 v ∧ u4 = .int .i64 i ∧ i ≤ s.size ∧ Hid (gk = s.size - i) ∧ Hid (szL v (s.toList.drop i) = V) ∧ Below w.heap.size w wr)
  case atStart => exact ⟨_, 0, rfl, rfl, Nat.zero_le _, Lib.hid (by omega), HV, Below.refl _ _⟩
  case round =>
    clear HV
    obtain ⟨v, i, rfl, rfl, hi, HG, HV, hb⟩ := hrel
    by_cases hlt : i < s.size
    · have h1 : (i : Int) < (s.size : Int) := by omega
      have hil : i < s.toList.length := by have := HL.out; omega
      have HN : Hid (szL (wrap64 (v + wrap64 (s[i].toNat : Int))) (s.toList.drop (i + 1)) = V) := Lib.hid (by
        have h2 := HV.out
        rw [List.drop_eq_getElem_cons hil, szL] at h2
        have e : s.toList[i] = s[i] := by
          have : s.toList = s.data.toList := ByteArray.toList_eq s
          simp only [this]; rfl
        rw [e] at h2
        exact h2)
      clear HV
      go_wp2
      go_roundg (s.size - (i + 1))
      case measure => have := HG.out; omega
      case rel => exact ⟨_, i + 1, rfl, by go_num, by omega, Lib.hid rfl, HN, hb⟩
    · obtain rfl : i = s.size := by omega
      have hz : v = V := by
        have := HV.out
        rw [List.drop_of_length_le (by have := HL.out; omega)] at this
        exact this
      subst hz
      go_wp2
      go_ret
      exact ⟨rfl, hb⟩
set_option maxRecDepth 20000 in
set_option maxHeartbeats 8000000 in
theorem term_any (x : T) (w : World) (hf : x.fine) :
    Calls Try.prog 36 #[.agg x.cells.toArray] w fun e w' => ∃ t : T, e = .returned (.agg t.cells.toArray) ∧ goodT t ∧ Below w.heap.size w w' := by
  obtain ⟨xk, xi, xt, xo⟩ := x
  show Calls Try.prog 36 #[.agg #[.int .i64 xk, .int .i64 xi, .string xt, .int .i64 xo]] w _
  have ks := fun W => size_at xt hf W
  have k3 := fun W => mod_any xk 3 W (by omega) (by omega)
  generalize szL _ _ = V at *
  clear hf
  go_enter Try.func36, Try.ntmps36
  go_upto_region 1 with (fail)
  obtain ⟨hb1, h1, h2, hs1⟩ := two_alloc w 33 33 [.int .i64 xk, .int .i64 xi, .string xt, .int .i64 xo] [.int .i64 0, .int .i64 0, .string ⟨#[]⟩, .int .i64 0]
  generalize World.alloc (World.alloc _ _) _ = w1 at *
  generalize hR : w.heap.size = R at *
  have HRR := Lib.hid hR
  clear hR
  have HB1 := Lib.hid hb1
  have H1 := Lib.hid h1
  have H2 := Lib.hid h2
  have f1 := cell_regrown ((h1.cell 1).trans rfl)
  have f2 := cell_regrown ((h1.cell 2).trans rfl)
  have cA : ∀ d os, Calls Try.prog 56 #[.string xt] (grow (redrawn w1 d) os) fun e w'' => e = .returned (.int .i64 V) ∧ ∃ p : Regrown, w'' = grow (redrawn w1 p.d) p.os :=
    fun d os => Calls.regrown_of (ks _)
  clear ks h1 h2 hb1
  refine wp_region_quiet_below (by kernel_rfl) (by kernel_rfl) ?_
  repeat (go_big_quiet_step (first | exact cA _ _))
  refine wpQuiet_nil ?_
  intro w6 hw6
  obtain ⟨⟨dq, osq⟩, rfl⟩ := hw6
  have HB6 := Lib.hid (HB1.out.trans ((below_regrown w1 dq osq).mono (by omega)))
  have H16 := Lib.hid (H1.out.below (below_regrown w1 dq osq) H1.out.lt)
  have H26 := Lib.hid (H2.out.below (below_regrown w1 dq osq) H2.out.lt)
  clear cA f1 f2 H1 H2 HB1 hs1
  generalize grow _ _ = w2 at *
  have hs2 : R + 1 < w2.heap.size := H26.out.lt
  generalize wrap64 (V + _) = V3 at *
  have f0 := (H16.out.cell 0).trans rfl
  have kk := k3 w2
  go_wp2_with fail
  refine kk.mono ?_
  rintro e w3 ⟨r, rfl, hr0, hr3, hb3⟩
  have HB2 := Lib.hid (HB6.out.trans (hb3.mono (by omega)))
  have H1 := Lib.hid (H16.out.below hb3 H16.out.lt)
  have H2 := Lib.hid (H26.out.below hb3 H26.out.lt)
  have hs3 : R + 1 < w3.heap.size := H2.out.lt
  clear kk hb3 HB6 H16 H26 f0 k3 hs2
  by_cases hq0 : r = 0
  · subst hq0
    have kc := constant_any V3 w3
    go_wp2_with fail
    refine kc.mono ?_
    rintro e w4 ⟨⟨tk, ti, tt, tof⟩, rfl, hgt, hb4⟩
    have HGT := Lib.hid hgt
    have HB3 := Lib.hid (HB2.out.trans (hb4.mono (by omega)))
    have H3 := Lib.hid (H2.out.below hb4 hs3)
    clear kc hb4 hgt HB2 H1 H2
    simp only [T.cells]
    have c0 := (H3.out.cell 0).trans rfl
    have c1 := (H3.out.cell 1).trans rfl
    have c2 := (H3.out.cell 2).trans rfl
    have c3 := (H3.out.cell 3).trans rfl
    have z0 := H3.out.frozen 0
    have z1 := H3.out.frozen 1
    have z2 := H3.out.frozen 2
    have z3 := H3.out.frozen 3
    have hl3 := H3.out.lt
    have D4 := (((H3.out.set_ 0 (.int .i64 tk)).set_ 1 (.int .i64 ti)).set_ 2 (.string tt)).set_ 3 (.int .i64 tof)
    have E4 := (((HB3.out.setCell (p := ⟨R + 1, 0, none⟩) (by simp) (.int .i64 tk)).setCell (p := ⟨R + 1, 1, none⟩) (by simp) (.int .i64 ti)).setCell (p := ⟨R + 1, 2, none⟩) (by simp) (.string tt)).setCell (p := ⟨R + 1, 3, none⟩) (by simp) (.int .i64 tof)
    have p0 := D4.cell 0
    have p1 := D4.cell 1
    have p2 := D4.cell 2
    have p3 := D4.cell 3
    simp at p0 p1 p2 p3
    have HE4 := Lib.hid E4
    clear D4 E4 HB3 H3
    go_wp2
    refine bodyPost_ret (v := .agg #[.int .i64 tk, .int .i64 ti, .string tt, .int .i64 tof]) ?_ rfl ⟨⟨tk, ti, tt, tof⟩, rfl, HGT.out, ?_⟩
    · simp [results, Try.results36, go_sem, p0, p1, p2, p3]
    · rw [HRR.out]; exact HE4.out
  · have t0 : (r == 0) = false := by simpa using hq0
    have km := fun W => mod_any V3 6 W (by omega) (by omega)
    go_upto_region 4 with (fail)
    clear t0
    have HBd : Hid (Below R w w3.drew) := Lib.hid HB2.out.drew
    have H1d := Lib.hid H1.out.drew
    have H2d := Lib.hid H2.out.drew
    have hs4 : R + 1 < w3.drew.heap.size := hs3
    clear HB2 H1 H2 hs3
    generalize hdw : w3.drew = wd at *
    obtain ⟨C, hCi⟩ : ∃ C : World → Prop, ∀ w', C w' ↔ w'.cell? ⟨R, 3, none⟩ = some (.int .i64 xo) := ⟨_, fun _ => Iff.rfl⟩
    have q3 := (H1d.out.cell 3).trans rfl
    have hC : C wd := (hCi _).2 q3
    have HCb : Hid (∀ w', Below wd.heap.size wd w' → C w') := Lib.hid fun w' hb => (hCi _).2 (cell_later hb q3)
    have k0 : ∀ p : WC C, p.w.cell? ⟨R, 3, none⟩ = some (.int .i64 xo) := fun p => (hCi _).1 p.h
    have kn : Nonempty (WC C) := ⟨⟨_, hC⟩⟩
    clear hCi q3
    refine wp_region_front' C [0, 6, 7] [1, 2, 3, 4, 5, 8, 9] (fun j => decide (j < 9)) (by kernel_rfl) (fun _ _ d _ _ h => by cases d <;> exact h) (by kernel_rfl) (hdw ▸ hC) ?_
    simp only [List.map_cons, List.map_nil, List.getD_cons_zero, List.getD_cons_succ]
    repeat (go_big_quiet_step (fail))
    refine wpQuiet_nil ?_
    clear k0 kn hC
    rw [hdw]
    clear hdw
    refine wpTail_cons ?_
    go_wp2_with fail
    refine (km wd).mono ?_
    rintro e w5 ⟨q, rfl, hq1, hq2, hb5⟩
    obtain ⟨qn, rfl⟩ : ∃ n : Nat, q = n := ⟨q.toNat, by omega⟩
    have hC5 := Lib.hid (HCb.out _ hb5)
    have hC6 := Lib.hid (HCb.out _ (hb5.alloc hb5.size (.cells #[.int .u8 (85 + (qn : Int))] 5)))
    obtain ⟨sb, hsb⟩ : ∃ sb : ByteArray, sb = ⟨#[UInt8.ofNat (85 + qn)]⟩ := ⟨_, rfl⟩
    have hcv : (convert 64 9 (.slice (some ⟨w5.heap.size, 0, none⟩) 1 1)).run Try.prog (w5.alloc (.cells #[.int .u8 (85 + (qn : Int))] 5)) = .ok (.string sb) (w5.alloc (.cells #[.int .u8 (85 + (qn : Int))] 5)) := by
      rw [hsb]; simpa using byte_text (85 + qn) (by omega) w5
    have HSB := Lib.hid hsb
    clear hsb
    have HB3 := Lib.hid ((HBd.out.trans (hb5.mono (by omega))).alloc (by have := hb5.size; omega) (.cells #[.int .u8 (85 + (qn : Int))] 5))
    have H3 := Lib.hid ((H2d.out.below hb5 hs4).alloc (.cells #[.int .u8 (85 + (qn : Int))] 5))
    clear km hb5 HBd H1d H2d HCb
    go_wp2
    refine tailQ_normal (fun _ => hC5.out) ?_
    refine wpTail_cons ?_
    go_wp2
    refine tailQ_normal (fun _ => hC5.out) ?_
    refine wpTail_cons ?_
    go_wp2
    refine tailQ_normal (fun _ => hC5.out) ?_
    refine wpTail_cons ?_
    go_wp2
    refine tailQ_normal (fun _ => hC6.out) ?_
    refine wpTail_cons ?_
    go_wp2
    refine tailQ_normal (fun _ => hC6.out) ?_
    refine wpTail_cons ?_
    go_wp2
    refine tailQ_normal (fun _ => hC6.out) ?_
    refine wpTail_cons ?_
    have c0 := (H3.out.cell 0).trans rfl
    have c1 := (H3.out.cell 1).trans rfl
    have c2 := (H3.out.cell 2).trans rfl
    have c3 := (H3.out.cell 3).trans rfl
    have z0 := H3.out.frozen 0
    have z1 := H3.out.frozen 1
    have z2 := H3.out.frozen 2
    have z3 := H3.out.frozen 3
    have hl3 := H3.out.lt
    go_wp2
    refine tailQ_normal (fun h => by cases h) ?_
    refine wpTail_nil ?_
    have D4 := (((H3.out.set_ 0 (.int .i64 4)).set_ 1 (.int .i64 0)).set_ 2 (.string sb)).set_ 3 (.int .i64 xo)
    have E4 := (((HB3.out.setCell (p := ⟨R + 1, 0, none⟩) (by simp) (.int .i64 4)).setCell (p := ⟨R + 1, 1, none⟩) (by simp) (.int .i64 0)).setCell (p := ⟨R + 1, 2, none⟩) (by simp) (.string sb)).setCell (p := ⟨R + 1, 3, none⟩) (by simp) (.int .i64 xo)
    have p0 := D4.cell 0
    have p1 := D4.cell 1
    have p2 := D4.cell 2
    have p3 := D4.cell 3
    simp at p0 p1 p2 p3
    have HE4 := Lib.hid E4
    clear D4 E4 HB3 H3
    go_wp2
    refine bodyPost_ret (v := .agg #[.int .i64 4, .int .i64 0, .string sb, .int .i64 xo]) ?_ rfl ⟨⟨4, 0, sb, xo⟩, rfl, by rw [HSB.out]; exact goodT_var (by omega) (by omega) xo, ?_⟩
    · simp [results, Try.results36, go_sem, p0, p1, p2, p3]
    · rw [HRR.out]; exact HE4.out
end Go.Proofs.Ytjcgkplphiedjaa
