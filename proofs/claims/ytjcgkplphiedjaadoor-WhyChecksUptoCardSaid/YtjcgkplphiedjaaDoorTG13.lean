/- A text's canonical text, the program's. | FormatInt at base 10, laid in plain words; a constant's canonical text, the program's. -/
import Derived.Test.YtjcgkplphiedjaaDoorTG12
import Derived.Shelf.LaysM
import Derived.Shelf.Strconv.Itoa4
namespace Go.Proofs.YtjcgkplphiedjaaDoorT
open Go.RowKit Go.Sort

def quoL (l : List UInt8) : List UInt8 := l.flatMap fun b => (letterS b).toList
theorem quo_list : ∀ (l : List UInt8) (s : ByteArray), (quo s l).toList = s.toList ++ quoL l
  | [], s => by simp [quo, quoL]
  | b :: l, s => by
    have h := quo_list l (s ++ letterS b)
    show (quo (s ++ letterS b) l).toList = _
    rw [h, toList_append]
    simp [quoL]
theorem quoL_step (t : ByteArray) (k : Nat) (h : k < t.size) : quoL (t.toList.drop k) = (letterS t[k]).toList ++ quoL (t.toList.drop (k + 1)) := by
  have hk : k < t.toList.length := by rw [← toList_size]; exact h
  have e : t.toList[k] = t[k] := by
    have : t.toList = t.data.toList := ByteArray.toList_eq t
    simp only [this]; rfl
  rw [List.drop_eq_getElem_cons hk, e]
  simp [quoL]
theorem quoL_end (t : ByteArray) (k : Nat) (h : t.size ≤ k) : quoL (t.toList.drop k) = [] := by
  rw [List.drop_eq_nil_of_le (by rw [← toList_size]; exact h)]; rfl
theorem all_cell (w : World) (s : ByteArray) (cap : Nat) (fr : Nat × Nat) (G : Nat) (j : Nat) (h : j < s.size) (hb : w.heap[G]? = some (.cells (bytesRow s cap) 5 fr)) :
    w.cell? ⟨G, j, none⟩ = some (.int .u8 ((s[j]).toNat : Int)) := by
  rw [Lib.cell_of_heap hb, bytesRow]
  have hl : j < s.data.size := h
  rw [Array.getElem?_append_left (by simpa using hl), Array.getElem?_map, Array.getElem?_eq_getElem hl]
  rfl

theorem hex_get (q : Nat) (h : q < 16) : hexD q = (⟨#[48, 49, 50, 51, 52, 53, 54, 55, 56, 57, 97, 98, 99, 100, 101, 102]⟩ : ByteArray)[q]'(by show q < 16; omega) := by
  have : hexD q = hexL[q]'(by simpa [hexL] using h) := by
    unfold hexD List.getD
    rw [List.getElem?_eq_getElem (by simpa [hexL] using h)]; rfl
  rw [this]
  rfl

set_option maxRecDepth 20000 in
set_option maxHeartbeats 8000000 in
theorem quoted_sym (t : ByteArray) (ht : t.size ≤ 255) (w : World) :
    Calls Tryd.prog 59 #[.string t] w fun e w' => e = .returned (.string (quo ⟨#[34]⟩ t.toList ++ ⟨#[34]⟩)) ∧ Below w.heap.size w w' := by
  have HV : Hid (quo ⟨#[34]⟩ t.toList ++ ⟨#[34]⟩ = ⟨([34] ++ quoL t.toList ++ [34]).toArray⟩) := Lib.hid (bytes_eq (by rw [toList_append, quo_list, mk_list]))
  rw [HV.out]
  clear HV
  obtain ⟨V, hV⟩ : ∃ V : List UInt8, V = [34] ++ quoL t.toList ++ [34] := ⟨_, rfl⟩
  rw [← hV]
  have HV := Lib.hid hV
  clear hV
  go_enter Tryd.func59, Tryd.ntmps59
  go_upto_region 2 with (fail)
  have HI1 := Lib.hid (Lib.fresh_isBuilder 59 5 w)
  have HB1 := Lib.hid ((Below.refl w.heap.size w).alloc (Nat.le_refl _) (.cells #[.pointer none, .slice none 0 0] 59))
  generalize World.alloc _ _ = w1 at *
  generalize hR : w.heap.size = R at *
  have HRR := Lib.hid hR
  clear hR
  go_wp2_with fail
  refine (wByte0 R 34 w1 HI1.out).mono ?_
  rintro e w2 ⟨rfl, h2, hb2, _⟩
  have HU2 := Lib.hid h2
  have HB2 := Lib.hid (HB1.out.trans hb2)
  clear h2 hb2 HI1 HB1
  have hcv := fun w => run_bytes_of_string (P := Tryd.prog) w 9 57 5 t Tryd.underlying9 Tryd.underlying57 Tryd.underlying5
  go_upto_region 4 with (fail)
  have hgx : (w2.alloc (.cells (bytesRow t (grownCap w2 t.size 0 5)) 5 ((bytesRow t (grownCap w2 t.size 0 5)).size, (bytesRow t (grownCap w2 t.size 0 5)).size + 1))).drew.heap[w2.heap.size]? = some (.cells (bytesRow t (grownCap w2 t.size 0 5)) 5 ((bytesRow t (grownCap w2 t.size 0 5)).size, (bytesRow t (grownCap w2 t.size 0 5)).size + 1)) := heap_alloc_new w2 _
  have hba := ((Below.refl w2.heap.size w2).alloc (Nat.le_refl _) (.cells (bytesRow t (grownCap w2 t.size 0 5)) 5 ((bytesRow t (grownCap w2 t.size 0 5)).size, (bytesRow t (grownCap w2 t.size 0 5)).size + 1))).drew
  clear hcv
  generalize grownCap w2 t.size 0 5 = cap at *
  generalize hfr : (((bytesRow t cap).size, (bytesRow t cap).size + 1) : Nat × Nat) = fr at *
  have HF : Hid (Firm 5 fr) := Lib.hid (.inl (by rw [← hfr]; simp))
  clear hfr
  generalize World.drew _ = w3 at *
  have HU3 := Lib.hid (HU2.out.below hba)
  have HB3 := Lib.hid (HB2.out.trans (hba.mono (Nat.le_of_lt HU2.out.lt)))
  have HG3 := Lib.hid hgx
  clear hba hgx HU2 HB2
  generalize w2.heap.size = G at *
  go_loopg [11] t.size (fun gk u11 wr => ∃ (j : Nat) (L : List UInt8), u11 = .int .i64 j ∧ j ≤ t.size ∧ L.length ≤ 1 + 4 * j ∧ Hid (gk = t.size - j) ∧ Hid (BU R L wr) ∧ Hid (Below R w wr) ∧ Hid (wr.heap[G]? = some (.cells (bytesRow t cap) 5 fr)) ∧ Hid (L ++ quoL (t.toList.drop j) ++ [34] = V))
  case atStart => exact ⟨0, [34], rfl, Nat.zero_le _, by simp, Lib.hid (by omega), HU3, HB3, HG3, Lib.hid (by rw [HV.out]; rfl)⟩
  case round =>
    clear HU3 HB3 HG3 HV
    obtain ⟨j, L, rfl, hj, hL, HG, HU, HB, HX, HV⟩ := hrel
    by_cases hlt : j < t.size
    · have c0 := all_cell wr t cap fr G j hlt HX.out
      have HS := Lib.hid (quoL_step t j hlt)
      generalize t[j] = b at *
      have hl4 := letterS_size b
      rw [toList_size] at hl4
      have hbl := b.toNat_lt
      have kl := letter_sym b
      by_cases h0 : letN b = 0
      · have t0 : ((((letN b).toNat : Int)) != 0) = false := by rw [h0]; rfl
        have t0' : ((((letN b).toNat : Int)) == 0) = true := by rw [h0]; rfl
        have HE := Lib.hid (letN_none h0)
        clear h0
        generalize (letN b).toNat = lb at *
        by_cases h6 : 32 ≤ b.toNat ∧ b.toNat ≤ 126
        · have HE2 : Hid ((letterS b).toList = [b]) := Lib.hid (by rw [HE.out, if_pos h6, mk_list])
          have t1 : decide ((32 : Int) ≤ (b.toNat : Int)) = true := decide_eq_true (by omega)
          have t2 : decide ((b.toNat : Int) ≤ 126) = true := decide_eq_true (by omega)
          have HV2 : Hid ((L ++ [b]) ++ quoL (t.toList.drop (j + 1)) ++ [34] = V) := Lib.hid (by rw [← HV.out, HS.out, HE2.out]; simp)
          have kb := fun W h => wByte R L b W h (by omega)
          clear HE HE2 HS HV h6
          generalize hn : b.toNat = n at *
          go_wp2_with fail
          refine (kl wr).mono ?_
          rintro e w4 ⟨rfl, rfl⟩
          go_wp2_with fail
          refine (kb w4 HU.out).mono ?_
          rintro e w5 ⟨rfl, h5, hb5, hf5⟩
          have HU5 := Lib.hid h5
          have HB5 := Lib.hid (HB.out.trans hb5)
          have HX5 := Lib.hid (hf5 G _ _ _ HX.out HF.out)
          clear h5 hb5 hf5 HU HB HX kb kl
          go_wp2
          go_roundg (t.size - (j + 1))
          case measure => have := HG.out; omega
          case rel => exact ⟨j + 1, L ++ [b], by go_num, by omega, by simp; omega, Lib.hid rfl, HU5, HB5, HX5, HV2⟩
        · have HE2 : Hid ((letterS b).toList = [92, 120, hexD (b.toNat / 16), hexD (b.toNat % 16)]) := Lib.hid (by rw [HE.out, if_neg h6, mk_list])
          have HV2 : Hid ((((L ++ [92, 120]) ++ [hexD (b.toNat / 16)]) ++ [hexD (b.toNat % 16)]) ++ quoL (t.toList.drop (j + 1)) ++ [34] = V) := Lib.hid (by rw [← HV.out, HS.out, HE2.out]; simp)
          clear HE HE2 HS HV
          obtain ⟨q, hq⟩ : ∃ q, b.toNat / 16 = q := ⟨_, rfl⟩
          obtain ⟨r, hr⟩ : ∃ r, b.toNat % 16 = r := ⟨_, rfl⟩
          rw [hq, hr] at HV2
          have hq16 : q < 16 := by omega
          have hr16 : r < 16 := by omega
          have gq := hex_get q hq16
          have gr := hex_get r hr16
          rw [gq, gr] at HV2
          have kb1 := fun W h => wStr R L ⟨#[92, 120]⟩ W h (by show L.length + 2 ≤ _; omega)
          have kb2 := fun W (h : BU R _ W) => wByte R (L ++ [92, 120]) ((⟨#[48, 49, 50, 51, 52, 53, 54, 55, 56, 57, 97, 98, 99, 100, 101, 102]⟩ : ByteArray)[q]'(by show q < 16; exact hq16)) W h (by simp only [List.length_append, List.length_cons, List.length_nil]; omega)
          have kb3 := fun W (h : BU R _ W) => wByte R ((L ++ [92, 120]) ++ [(⟨#[48, 49, 50, 51, 52, 53, 54, 55, 56, 57, 97, 98, 99, 100, 101, 102]⟩ : ByteArray)[q]'(by show q < 16; exact hq16)]) ((⟨#[48, 49, 50, 51, 52, 53, 54, 55, 56, 57, 97, 98, 99, 100, 101, 102]⟩ : ByteArray)[r]'(by show r < 16; exact hr16)) W h (by simp only [List.length_append, List.length_cons, List.length_nil]; omega)
          rw [mk_list] at kb1
          clear gq gr
          have hqq : (q : Int) = (b.toNat : Int) / 16 := by omega
          have hrr : (r : Int) = (b.toNat : Int) % 16 := by omega
          have hcase : (decide ((32 : Int) ≤ (b.toNat : Int)) = false) ∨ (decide ((32 : Int) ≤ (b.toNat : Int)) = true ∧ decide ((b.toNat : Int) ≤ 126) = false) := by
            rcases Nat.lt_or_ge b.toNat 32 with h7 | h7
            · exact .inl (decide_eq_false (by omega))
            · exact .inr ⟨decide_eq_true (by omega), decide_eq_false (by omega)⟩
          clear h6
          generalize hn : b.toNat = n at *
          rcases hcase with t1 | ⟨t1, t2⟩
          all_goals
            go_wp2_with fail
            refine (kl wr).mono ?_
            rintro e w4 ⟨rfl, rfl⟩
            go_wp2_with fail
            refine (kb1 w4 HU.out).mono ?_
            rintro e w5 ⟨rfl, h5, hb5, hf5⟩
            have HU5 := Lib.hid h5
            have HB5 := Lib.hid (HB.out.trans hb5)
            have HX5 := Lib.hid (hf5 G _ _ _ HX.out HF.out)
            clear h5 hb5 hf5 HU HB HX kb1 kl c0
            go_wp2_with fail
            refine (kb2 w5 HU5.out).mono ?_
            rintro e w6 ⟨rfl, h6, hb6, hf6⟩
            have HU6 := Lib.hid h6
            have HB6 := Lib.hid (HB5.out.trans hb6)
            have HX6 := Lib.hid (hf6 G _ _ _ HX5.out HF.out)
            clear h6 hb6 hf6 HU5 HB5 HX5 kb2
            go_wp2_with fail
            refine (kb3 w6 HU6.out).mono ?_
            rintro e w7 ⟨rfl, h7, hb7, hf7⟩
            have HU7 := Lib.hid h7
            have HB7 := Lib.hid (HB6.out.trans hb7)
            have HX7 := Lib.hid (hf7 G _ _ _ HX6.out HF.out)
            clear h7 hb7 hf7 HU6 HB6 HX6 kb3
            go_wp2
            go_roundg (t.size - (j + 1))
            case measure => have := HG.out; omega
            case rel => exact ⟨j + 1, _, by go_num, by omega, by simp only [List.length_append, List.length_cons, List.length_nil]; omega, Lib.hid rfl, HU7, HB7, HX7, HV2⟩
      · have t0 : ((((letN b).toNat : Int)) != 0) = true := by
          have : (letN b).toNat ≠ 0 := fun h => h0 (UInt8.toNat_inj.1 (by rw [h]; rfl))
          simp; omega
        have t0' : ((((letN b).toNat : Int)) == 0) = false := by
          have : (letN b).toNat ≠ 0 := fun h => h0 (UInt8.toNat_inj.1 (by rw [h]; rfl))
          simp; omega
        have HE := Lib.hid (letN_some h0)
        have HV2 : Hid ((L ++ [92, letN b]) ++ quoL (t.toList.drop (j + 1)) ++ [34] = V) := Lib.hid (by rw [← HV.out, HS.out, HE.out, mk_list]; simp)
        have hba := (Below.refl wr.heap.size wr).alloc (Nat.le_refl _) (.cells #[.int .u8 92, .int .u8 ((letN b).toNat : Int)] 5)
        have hnb := Blk.new wr 5 [.int .u8 92, .int .u8 ((letN b).toNat : Int)]
        have hfz := Fz.alloc wr (.cells #[.int .u8 92, .int .u8 ((letN b).toNat : Int)] 5)
        have kb := fun W h hr => wBytes R L (some ⟨wr.heap.size, 0, none⟩) 2 2 [92, letN b] W h (by intro h; cases h) hr (by omega)
        have HRd : Hid (Rd (wr.alloc (.cells #[.int .u8 92, .int .u8 ((letN b).toNat : Int)] 5)) (wr.alloc (.cells #[.int .u8 92, .int .u8 ((letN b).toNat : Int)] 5)).heap.size 1 (some ⟨wr.heap.size, 0, none⟩) 2 (Lib.byteCells [92, letN b])) := Lib.hid ⟨rfl, by omega, fun _ => ⟨wr.heap.size, 0, rfl, by simp, fun j u hu => by rw [Nat.zero_add]; exact (hnb.cell j).trans hu⟩⟩
        clear h0 HE HS HV
        go_wp2_with fail
        refine (kl wr).mono ?_
        rintro e w4 ⟨rfl, rfl⟩
        have HUa := Lib.hid (HU.out.below hba)
        have HBa := Lib.hid (HB.out.trans (hba.mono (Nat.le_of_lt HU.out.lt)))
        have HXa := Lib.hid (hfz G _ _ _ HX.out HF.out)
        clear hba hnb hfz HU HB HX c0
        go_wp2_with fail
        refine (kb _ HUa.out HRd.out).mono ?_
        rintro e w5 ⟨rfl, h5, hb5, hf5⟩
        have HU5 := Lib.hid h5
        have HB5 := Lib.hid (HBa.out.trans hb5)
        have HX5 := Lib.hid (hf5 G _ _ _ HXa.out HF.out)
        clear h5 hb5 hf5 HUa HBa HXa kb HRd kl
        go_wp2
        go_roundg (t.size - (j + 1))
        case measure => have := HG.out; omega
        case rel => exact ⟨j + 1, L ++ [92, letN b], by go_num, by omega, by simp only [List.length_append, List.length_cons, List.length_nil]; omega, Lib.hid rfl, HU5, HB5, HX5, HV2⟩
    · obtain rfl : j = t.size := by omega
      have HE : Hid (L ++ [34] = V) := Lib.hid (by rw [← HV.out, quoL_end t _ (Nat.le_refl _), List.append_nil])
      clear HV HX
      go_wp2_with fail
      refine (wByte R L 34 wr HU.out (by omega)).mono ?_
      rintro e w5 ⟨rfl, h5, hb5, _⟩
      rw [HE.out] at h5
      have HU5 := Lib.hid h5
      have HB5 := Lib.hid (HB.out.trans hb5)
      clear h5 hb5 HU HB
      go_wp2_with fail
      refine (readB R V w5 HU5.out.is).mono ?_
      rintro e w6 ⟨rfl, hb6⟩
      have HB6 := Lib.hid (HB5.out.trans hb6)
      clear hb6 HB5
      go_wp2
      go_ret
      exact ⟨by rfl, by rw [HRR.out]; exact HB6.out⟩
end Go.Proofs.YtjcgkplphiedjaaDoorT

namespace Go.Proofs
open Go.Shelf
def Tryd.laysM173_ren : Go.Shelf.Ren := ⟨fun | 173 => 58 | 246 => 73 | 283 => 93 | 284 => 94 | 285 => 95 | 286 => 96 | 129 => 107 | 317 => 106 | 318 => 108 | 319 => 109 | 320 => 110 | 337 => 124 | 338 => 125 | n => n, fun | 3 => 3 | 9 => 9 | 2 => 2 | 4 => 4 | 171 => 142 | 0 => 0 | 53 => 143 | 37 => 57 | 5 => 5 | 173 => 146 | 212 => 155 | 51 => 156 | 20 => 20 | 213 => 157 | 46 => 137 | 232 => 171 | 233 => 172 | n => n, fun | 17 => 1 | 18 => 2 | 19 => 3 | n => n⟩
theorem Tryd.laysM173 : Go.Proofs.LaysM.n173 Tryd.prog Tryd.laysM173_ren := {
  mixed := by kernel_rfl
  f129 := Tryd.func107.trans (congrArg some (by kernel_rfl))
  f173 := Tryd.func58.trans (congrArg some (by kernel_rfl))
  f246 := Tryd.func73.trans (congrArg some (by kernel_rfl))
  f283 := Tryd.func93.trans (congrArg some (by kernel_rfl))
  f284 := Tryd.func94.trans (congrArg some (by kernel_rfl))
  f285 := Tryd.func95.trans (congrArg some (by kernel_rfl))
  f286 := Tryd.func96.trans (congrArg some (by kernel_rfl))
  f317 := Tryd.func106.trans (congrArg some (by kernel_rfl))
  f318 := Tryd.func108.trans (congrArg some (by kernel_rfl))
  f319 := Tryd.func109.trans (congrArg some (by kernel_rfl))
  f320 := Tryd.func110.trans (congrArg some (by kernel_rfl))
  f337 := Tryd.func124.trans (congrArg some (by kernel_rfl))
  f338 := Tryd.func125.trans (congrArg some (by kernel_rfl))
  t0 := Tryd.underlying0
  a0 := Tryd.isAgg0
  z0 := Tryd.sizeOf0
  v0 := Tryd.zeroValue0
  t2 := Tryd.underlying2
  a2 := Tryd.isAgg2
  z2 := Tryd.sizeOf2
  v2 := Tryd.zeroValue2
  t3 := Tryd.underlying3
  a3 := Tryd.isAgg3
  z3 := Tryd.sizeOf3
  v3 := Tryd.zeroValue3
  t4 := Tryd.underlying4
  a4 := Tryd.isAgg4
  z4 := Tryd.sizeOf4
  v4 := Tryd.zeroValue4
  t5 := Tryd.underlying5
  a5 := Tryd.isAgg5
  z5 := Tryd.sizeOf5
  v5 := Tryd.zeroValue5
  t9 := Tryd.underlying9
  a9 := Tryd.isAgg9
  z9 := Tryd.sizeOf9
  v9 := Tryd.zeroValue9
  t20 := Tryd.underlying20
  a20 := Tryd.isAgg20
  z20 := Tryd.sizeOf20
  v20 := Tryd.zeroValue20
  t37 := Tryd.underlying57
  a37 := Tryd.isAgg57
  z37 := Tryd.sizeOf57
  v37 := Tryd.zeroValue57
  t46 := Tryd.underlying137
  a46 := Tryd.isAgg137
  z46 := Tryd.sizeOf137
  v46 := Tryd.zeroValue137
  t51 := Tryd.underlying156
  a51 := Tryd.isAgg156
  z51 := Tryd.sizeOf156
  v51 := Tryd.zeroValue156
  t53 := Tryd.underlying143
  a53 := Tryd.isAgg143
  z53 := Tryd.sizeOf143
  v53 := Tryd.zeroValue143
  t171 := Tryd.underlying142
  a171 := Tryd.isAgg142
  z171 := Tryd.sizeOf142
  v171 := Tryd.zeroValue142
  t173 := Tryd.underlying146
  a173 := Tryd.isAgg146
  z173 := Tryd.sizeOf146
  v173 := Tryd.zeroValue146
  t212 := Tryd.underlying155
  a212 := Tryd.isAgg155
  z212 := Tryd.sizeOf155
  v212 := Tryd.zeroValue155
  t213 := Tryd.underlying157
  a213 := Tryd.isAgg157
  z213 := Tryd.sizeOf157
  t232 := Tryd.underlying171
  a232 := Tryd.isAgg171
  z232 := Tryd.sizeOf171
  v232 := Tryd.zeroValue171
  t233 := Tryd.underlying172
  a233 := Tryd.isAgg172
  z233 := Tryd.sizeOf172
  v233 := Tryd.zeroValue172
  g17 := by kernel_rfl
  g18 := by kernel_rfl
  g19 := by kernel_rfl
  i0 := by kernel_rfl
  i2 := by kernel_rfl
  i3 := by kernel_rfl
  i4 := by kernel_rfl
  i5 := by kernel_rfl
  i9 := by kernel_rfl
  i20 := by kernel_rfl
  i37 := by kernel_rfl
  i46 := by kernel_rfl
  i51 := by kernel_rfl
  i53 := by kernel_rfl
  i171 := by kernel_rfl
  i173 := by kernel_rfl
  i212 := by kernel_rfl
  i232 := by kernel_rfl
  i233 := by kernel_rfl
  m17 := by kernel_rfl
  m18 := by kernel_rfl
  m19 := by kernel_rfl }
open Go.RowKit Go.Sort Go.Lib in
theorem Tryd.strconv_FormatInt10 (n : Int) (h0 : -9223372036854775808 ≤ n) (h1 : n ≤ 9223372036854775807) (w : World) (htab : Lib.TabIs Tryd.prog w "internal/strconv.uint64pow10" .u64 Lib.pow10Tab) :
    Calls Tryd.prog 58 #[.int .i64 n, .int .i64 10] w fun e w' => e = .returned (.string ⟨(Lib.itoa n).toArray⟩) ∧ ∃ k os, w' = grow (w.drewN k) os := Any.strconv_FormatInt_10 Tryd.laysM173 n h0 h1 w htab
end Go.Proofs
namespace Go.Proofs.YtjcgkplphiedjaaDoorT
open Go.RowKit Go.Sort

abbrev Pow (w : World) : Prop := YtjcgkplphiedjaaDoor.Pow w
theorem format_any (n : Int) (h : inI n) (w : World) (hp : Pow w) :
    Calls Tryd.prog 58 #[.int .i64 n, .int .i64 10] w fun e w' => e = .returned (.string (it n)) ∧ Below w.heap.size w w' := by
  refine (Tryd.strconv_FormatInt10 n h.1 h.2 w hp).mono ?_
  rintro e w' ⟨rfl, k, os, rfl⟩
  exact ⟨rfl, below_regrown w (w.drawn + k) os⟩

set_option maxRecDepth 20000 in
set_option maxHeartbeats 4000000 in
theorem text_sym (k i : Int) (t : ByteArray) (hi : inI i) (hb : t.size ≤ 9223372036854775807) (w : World) (hp : Pow w) :
    Calls Tryd.prog 34 #[.agg #[.int .i64 k, .int .i64 i, .string t]] w fun e w' => e = .returned (.string (textS k i t)) ∧ Below w.heap.size w w' := by
  have HV : Hid (textS k i t = if validC k i t = false then ⟨#[]⟩ else if k = 1 then it i else if k = 2 then t else quo ⟨#[34]⟩ t.toList ++ ⟨#[34]⟩) := Lib.hid rfl
  have HKV : Hid (∀ W, Calls Tryd.prog 57 #[.agg #[.int .i64 k, .int .i64 i, .string t]] W fun e w' => e = .returned (.bool (validC k i t)) ∧ Below W.heap.size W w') := Lib.hid (fun W => valid_sym k i t hb W)
  have HKD : Hid (∀ W, Pow W → Calls Tryd.prog 58 #[.int .i64 i, .int .i64 10] W fun e w' => e = .returned (.string (it i)) ∧ Below W.heap.size W w') := Lib.hid (fun W h => format_any i hi W h)
  have HVC : Hid (validC k i t = true → k ≠ 1 → k ≠ 2 → t.size ≤ 255) := Lib.hid (by
    intro hv k1 k2
    unfold validC at hv
    rw [if_neg k1, if_neg k2] at hv
    split at hv
    · rw [Bool.and_eq_true, decide_eq_true_eq, decide_eq_true_eq] at hv
      exact hv.2
    · cases hv)
  have HP := Lib.hid hp
  clear hp
  generalize textS k i t = v at *
  generalize validC k i t = vc at *
  go_enter Tryd.func34, Tryd.ntmps34
  go_upto_region 1 with (fail)
  have hb1 := (Below.refl w.heap.size w).alloc (Nat.le_refl _) (.cells #[.int .i64 k, .int .i64 i, .string t] 68)
  have h1 := Blk.new w 68 [.int .i64 k, .int .i64 i, .string t]
  have HP1 := Lib.hid (HP.out.below hb1)
  generalize World.alloc _ _ = w1 at *
  generalize hR : w.heap.size = R at *
  have HRR := Lib.hid hR
  clear hR HP
  have HB1 := Lib.hid hb1
  have H1 := Lib.hid h1
  have f0 := h1.cell 0
  have f1 := h1.cell 1
  have f2 := h1.cell 2
  simp only [List.getElem?_cons_zero, List.getElem?_cons_succ] at f0 f1 f2
  have hs1 : R ≤ w1.heap.size := by have := h1.lt; omega
  clear h1 hb1
  have ka := HKV.out w1
  go_wp2_with fail
  refine ka.mono ?_
  rintro e w2 ⟨rfl, hb2⟩
  have HB2 := Lib.hid (HB1.out.trans (hb2.mono hs1))
  have H2 := Lib.hid (H1.out.below hb2 H1.out.lt)
  have HP2 := Lib.hid (HP1.out.below hb2)
  have hs2 : R ≤ w2.heap.size := Nat.le_trans hs1 hb2.size
  have g0 := H2.out.cell 0
  have g1 := H2.out.cell 1
  have g2 := H2.out.cell 2
  simp only [List.getElem?_cons_zero, List.getElem?_cons_succ] at g0 g1 g2
  clear ka hb2 HB1 H1 f0 f1 f2 HP1
  cases vc with
  | false =>
    have hz : v = ⟨#[]⟩ := by rw [HV.out, if_pos rfl]
    subst hz
    clear HV
    go_wp2
    go_ret
    exact ⟨by rfl, by rw [HRR.out]; exact HB2.out⟩
  | true =>
    by_cases k1 : k = 1
    · subst k1
      have hz : v = it i := by rw [HV.out, if_neg (by simp), if_pos rfl]
      subst hz
      clear HV HVC
      have kd := HKD.out w2 HP2.out
      go_wp2_with fail
      refine kd.mono ?_
      rintro e w3 ⟨rfl, hb3⟩
      have HB3 := Lib.hid (HB2.out.trans (hb3.mono hs2))
      clear kd hb3
      go_wp2
      go_ret
      exact ⟨by rfl, by rw [HRR.out]; exact HB3.out⟩
    have t1 : (k == 1) = false := by simpa using k1
    by_cases k2 : k = 2
    · subst k2
      have hz : v = t := by rw [HV.out, if_neg (by simp), if_neg (by decide), if_pos rfl]
      subst hz
      clear HV HVC k1
      go_wp2
      go_ret
      exact ⟨by rfl, by rw [HRR.out]; exact HB2.out⟩
    have t2 : (k == 2) = false := by simpa using k2
    have hz : v = quo ⟨#[34]⟩ t.toList ++ ⟨#[34]⟩ := by rw [HV.out, if_neg (by simp), if_neg k1, if_neg k2]
    have kq := quoted_sym t (HVC.out rfl k1 k2) w2
    rw [← hz] at kq
    clear HV HVC k1 k2 hz
    go_wp2_with fail
    refine kq.mono ?_
    rintro e w3 ⟨rfl, hb3⟩
    have HB3 := Lib.hid (HB2.out.trans (hb3.mono hs2))
    clear kq hb3
    go_wp2
    go_ret
    exact ⟨by rfl, by rw [HRR.out]; exact HB3.out⟩
end Go.Proofs.YtjcgkplphiedjaaDoorT
