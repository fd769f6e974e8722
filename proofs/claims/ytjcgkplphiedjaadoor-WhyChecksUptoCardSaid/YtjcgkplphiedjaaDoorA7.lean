/- The program's text of findings. -/
import Derived.Test.YtjcgkplphiedjaaDoorA6
namespace Go.Proofs.YtjcgkplphiedjaaDoor
open Go.RowKit Go.Sort

theorem tab_below {P : Program} {n : String} {g : Nat} {k : IntKind} {zs : List Int} {w w' : World} (hg : P.globalNamed n = some g) (h : Lib.TabIs P w n k zs) (hb : Below w.heap.size w w') : Lib.TabIs P w' n k zs := by
  unfold Lib.TabIs World.var? at h ⊢
  rw [hg] at h ⊢
  simp only [Option.bind_some] at h ⊢
  have hlt : g < w.heap.size := by
    rcases Nat.lt_or_ge g w.heap.size with h' | h'
    · exact h'
    · rw [Array.getElem?_eq_none h'] at h; cases h
  rw [hb.block g hlt]
  exact h
def Pow (w : World) : Prop := Lib.TabIs Tryd.prog w "internal/strconv.uint64pow10" .u64 Lib.pow10Tab
theorem pow_glob : ∃ g, Tryd.prog.globalNamed "internal/strconv.uint64pow10" = some g := Option.isSome_iff_exists.1 (by kernel_rfl)
theorem Pow.below {w w' : World} (h : Pow w) (hb : Below w.heap.size w w') : Pow w' := by
  obtain ⟨g, hg⟩ := pow_glob
  exact tab_below hg h hb

theorem own_below {w w' : World} {R size n : Nat} {e : TypeId} {v : Value} {xs : List Value} (h : w.ownsRow R e size v n xs) (hb : Below w.heap.size w w') : w'.ownsRow R e size v n xs :=
  h.kept (row := none) ⟨hb.os, hb.tape, hb.output, hb.size, fun k hk _ => hb.block k hk⟩ (by
    cases hv : v.ownBlock with
    | none => exact .inl rfl
    | some g => exact .inr (by simp))
theorem bat_below {T e : TypeId} {B b : Nat} {p : Value} {bs : List Value} {w w' : World} (h : Lib.BuilderAt T e B b p bs w) (hb : Below w.heap.size w w') : Lib.BuilderAt T e B b p bs w' := by
  have hlt := h.lt
  obtain ⟨hB, v, hbk, hown, hne⟩ := h
  exact ⟨hB, v, (hb.block b hlt).trans hbk, own_below hown hb, hne⟩
theorem isb_below {T e : TypeId} {B b : Nat} {bs : List Value} {w w' : World} (h : Lib.IsBuilder T e B b bs w) (hb : Below w.heap.size w w') : Lib.IsBuilder T e B b bs w' :=
  h.elim (fun x => .inl (bat_below x hb)) (fun x => .inr (bat_below x hb))
theorem isb_lt {T e : TypeId} {B b : Nat} {bs : List Value} {w : World} (h : Lib.IsBuilder T e B b bs w) : b < w.heap.size := h.elim (fun x => x.lt) (fun x => x.lt)

theorem itoa_any (n : Int) (h : inI n) (w : World) (hp : Pow w) :
    Calls Tryd.prog 26 #[.int .i64 n] w fun e w' => e = .returned (.string (it n)) ∧ Below w.heap.size w w' := by
  refine (Tryd.strconv_Itoa n h.1 h.2 w hp).mono ?_
  rintro e w' ⟨rfl, k, os, rfl⟩
  exact ⟨rfl, below_regrown w (w.drawn + k) os⟩

set_option maxRecDepth 20000 in
set_option maxHeartbeats 4000000 in
theorem text_lint (A : Option Addr) (n c : Nat) (src : ByteArray) (fs : List Fd) (w : World) (hr : Rd w w.heap.size 5 A n (fcells fs)) (hok : ∀ x ∈ fs, x.fine) (hn : n ≤ 1048576) (hsrc : src.size ≤ 1048576) (hpow : Pow w) :
    Calls Tryd.prog 7 #[.string src, .slice A n c] w fun e w' => e = .returned (.string ⟨(textL src fs).toArray⟩) ∧ Below w.heap.size w w' := by
  have hl : fs.length = n := by have := hr.1; rw [fcells, flat_length Fd.cells 5 (fun _ => rfl)] at this; omega
  have HR := Lib.hid hr
  have HK := Lib.hid hok
  have HL := Lib.hid hl
  have HPW := Lib.hid hpow
  clear hr hok hl hpow
  go_enter Tryd.func7, Tryd.ntmps7
  go_upto_region 3 with (fail)
  have HI1 := Lib.hid (Lib.fresh_isBuilder 59 5 w)
  have hba := (Below.refl w.heap.size w).alloc (Nat.le_refl _) (.cells #[.pointer none, .slice none 0 0] 59)
  have HP1 := Lib.hid (HPW.out.below hba)
  have HB1 := Lib.hid hba
  clear hba
  generalize World.alloc _ _ = w1 at *
  generalize hR : w.heap.size = R at *
  have HRR := Lib.hid hR
  clear hR
  go_loopg [15] n (fun gk u15 wr => ∃ (k : Nat), u15 = .int .i64 k ∧ k ≤ n ∧ Hid (gk = n - k) ∧ Hid (Lib.IsBuilder 59 5 R R (Lib.byteCells (textL src (fs.take k))) wr) ∧ Hid (Below R w wr) ∧ Hid (Pow wr))
  case atStart => exact ⟨0, rfl, Nat.zero_le _, Lib.hid (by omega), Lib.hid (by simpa [textL, Lib.byteCells] using HI1.out), HB1, HP1⟩
  case round =>
    clear HB1 HI1 HP1
    obtain ⟨k, rfl, hk, HG, HI, HB, HP⟩ := hrel
    by_cases hlt : k < n
    · obtain ⟨B, off, hk1, rfl, hB, hc⟩ := (HR.out.below HB.out).at Fd.cells 5 (fun _ => rfl) (by omega) k hlt
      have c0 := hc 0 _ (by omega) rfl
      have c1 := hc 1 _ (by omega) rfl
      have c2 := hc 2 _ (by omega) rfl
      have c3 := hc 3 _ (by omega) rfl
      have c4 := hc 4 _ (by omega) rfl
      rw [Nat.add_zero] at c0
      clear hc
      have hx := HK.out fs[k] (List.getElem_mem hk1)
      have HST := Lib.hid (textL_snoc src fs k hk1)
      have hbs : (textL src (fs.take k)).length ≤ 1099664719872 := textL_bound src fs k HK.out (by omega)
      have HBS := Lib.hid hbs
      clear hbs
      generalize fs[k] = x at *
      generalize hT : textL src (fs.take k) = T at *
      clear hT
      have hll : Hid (said x = true → lineL src x = (((((it (placeL src x.f).1) ++ ⟨#[58]⟩) ++ it (placeL src x.f).2) ++ ⟨#[58, 32]⟩) ++ wordsB x ++ ⟨#[10]⟩ : ByteArray).toList) := Lib.hid fun h => if_pos h
      have hlm : Hid (said x = false → lineL src x = []) := Lib.hid fun h => if_neg (by simp [h])
      have hsa : Hid (said x = decide (1 ≤ x.k ∧ x.k ≤ 6)) := Lib.hid rfl
      obtain ⟨q, cc, o, f, s⟩ := x
      have hw := wordsB_size _ hx
      have HX := Lib.hid hx
      have hc21 := it_size cc hx.1.2.1
      have ho21 := it_size o hx.1.2.2.1
      have hs20 := hx.2
      dsimp only at hc21 ho21 hs20 hll hlm hsa c0 c1 c2 c3 c4
      have hp := placeL_le src f
      have hp1 := it_size (placeL src f).1 ⟨by omega, by omega⟩
      have hp2 := it_size (placeL src f).2 ⟨by omega, by omega⟩
      have kp := place_lex src f hx.1.2.2.2.1 hx.1.2.2.2.2 (by omega)
      have k1 := fun W => itoa_any (placeL src f).1 ⟨by omega, by omega⟩ W
      have k2 := fun W => itoa_any (placeL src f).2 ⟨by omega, by omega⟩ W
      have kc := fun W => itoa_any cc hx.1.2.1 W
      have ko := fun W => itoa_any o hx.1.2.2.1 W
      have HW : Hid (wordsB ⟨q, cc, o, f, s⟩ = if q = 1 then (((⟨#[99, 108, 97, 117, 115, 101, 32]⟩ ++ it cc) ++ ⟨#[32, 105, 115, 32, 99, 108, 97, 117, 115, 101, 32]⟩) ++ it o) ++ ⟨#[32, 97, 103, 97, 105, 110]⟩
        else if q = 2 then ((⟨#[99, 108, 97, 117, 115, 101, 32]⟩ ++ it cc) ++ ⟨#[32, 105, 115, 32, 99, 111, 118, 101, 114, 101, 100, 32, 98, 121, 32, 99, 108, 97, 117, 115, 101, 32]⟩) ++ it o
        else if q = 3 then (⟨#[99, 108, 97, 117, 115, 101, 32]⟩ ++ it cc) ++ ⟨#[32, 110, 101, 118, 101, 114, 32, 102, 105, 114, 101, 115]⟩
        else if q = 4 then (⟨#[118, 97, 114, 105, 97, 98, 108, 101, 32]⟩ ++ s) ++ ⟨#[32, 115, 116, 97, 110, 100, 115, 32, 111, 110, 99, 101]⟩
        else if q = 5 then ⟨#[116, 104, 101, 32, 116, 101, 115, 116, 32, 97, 108, 119, 97, 121, 115, 32, 104, 111, 108, 100, 115]⟩
        else if q = 6 then (⟨#[112, 114, 101, 100, 105, 99, 97, 116, 101, 32]⟩ ++ s) ++ ⟨#[32, 105, 115, 32, 117, 115, 101, 100, 32, 110, 111, 119, 104, 101, 114, 101]⟩
        else ⟨#[]⟩) := Lib.hid rfl
      have HPL := Lib.hid hp
      clear hx hp
      generalize wordsB _ = V at *
      generalize lineL _ _ = LL at *
      generalize said _ = sd at *
      generalize it cc = C at *
      generalize it o = O at *
      generalize it (placeL src f).1 = L1 at *
      generalize it (placeL src f).2 = L2 at *
      generalize (placeL src f).1 = p1 at *
      generalize (placeL src f).2 = p2 at *
      go_upto_region 5 with (fail)
      have hba := (Below.refl wr.heap.size wr).alloc (Nat.le_refl _) (.cells #[.int .i64 q, .int .i64 cc, .int .i64 o, .int .i64 f, .string s] 52)
      have hF2 := Blk.new wr 52 [.int .i64 q, .int .i64 cc, .int .i64 o, .int .i64 f, .string s]
      have HI2 := Lib.hid (isb_below HI.out hba)
      have HP2 := Lib.hid (HP.out.below hba)
      have HB2 := Lib.hid (HB.out.trans (hba.mono (HRR.out ▸ HB.out.size)))
      clear HI HP HB hba c0 c1 c2 c3 c4
      generalize World.alloc _ _ = w2 at *
      generalize wr.heap.size = F at *
      have f0 := hF2.cell 0
      have f1 := hF2.cell 1
      have f2 := hF2.cell 2
      have f3 := hF2.cell 3
      have f4 := hF2.cell 4
      simp only [List.getElem?_cons_zero, List.getElem?_cons_succ] at f0 f1 f2 f3 f4
      have kf1 := cell_regrown f1
      have kf2 := cell_regrown f2
      have cC : ∀ d os, Calls Tryd.prog 26 #[.int .i64 cc] (grow (redrawn w2 d) os) fun e w'' => e = .returned (.string C) ∧ ∃ p : Regrown, w'' = grow (redrawn w2 p.d) p.os :=
        fun d os => Calls.regrown_of (kc _ (HP2.out.below (below_regrown w2 d os)))
      have cO : ∀ d os, Calls Tryd.prog 26 #[.int .i64 o] (grow (redrawn w2 d) os) fun e w'' => e = .returned (.string O) ∧ ∃ p : Regrown, w'' = grow (redrawn w2 p.d) p.os :=
        fun d os => Calls.regrown_of (ko _ (HP2.out.below (below_regrown w2 d os)))
      have HF2 := Lib.hid hF2
      clear f0 f1 f2 f3 f4 kc ko hF2
      refine wp_region_quiet_below (by kernel_rfl) (by kernel_rfl) ?_
      repeat (go_big_quiet_step (first | exact cC _ _ | exact cO _ _))
      refine wpQuiet_nil ?_
      intro w3 hw3
      obtain ⟨⟨dq, osq⟩, rfl⟩ := hw3
      clear kf1 kf2 cC cO
      have hbr := below_regrown w2 dq osq
      have hF3 := HF2.out.below hbr HF2.out.lt
      have HI3 := Lib.hid (isb_below HI2.out hbr)
      have HP3 := Lib.hid (HP2.out.below hbr)
      have HB3 := Lib.hid (HB2.out.trans (hbr.mono (HRR.out ▸ HB2.out.size)))
      clear HI2 HP2 HB2 HF2 hbr
      generalize grow _ _ = w3 at *
      have f0 := hF3.cell 0
      have f3 := hF3.cell 3
      have f4 := hF3.cell 4
      simp only [List.getElem?_cons_zero, List.getElem?_cons_succ] at f0 f3 f4
      clear hF3
      rcases (by omega : q = 1 ∨ q = 2 ∨ q = 3 ∨ q = 4 ∨ q = 5 ∨ q = 6 ∨ (q < 1 ∨ 6 < q)) with rfl | rfl | rfl | rfl | rfl | rfl | hq
      case inr.inr.inr.inr.inr.inr =>
        have HSD : Hid (LL = []) := Lib.hid (hlm.out (by rw [hsa.out]; exact decide_eq_false (by omega)))
        clear hll hlm hsa HW
        have b1 : (q == 1) = false := by simp; omega
        have b2 : (q == 2) = false := by simp; omega
        have b3 : (q == 3) = false := by simp; omega
        have b4 : (q == 4) = false := by simp; omega
        have b5 : (q == 5) = false := by simp; omega
        have b6 : (q == 6) = false := by simp; omega
        clear kp k1 k2 hq
        go_wp2
        go_roundg (n - (k + 1))
        case measure => have := HG.out; omega
        case rel => exact ⟨k + 1, by go_num, by omega, Lib.hid rfl, Lib.hid (by rw [HST.out, HSD.out]; simpa using HI3.out), HB3, HP3⟩
      all_goals
        have HV := HW.out
        simp only [Int.reduceEq, if_true, if_false] at HV
        replace HV := Lib.hid HV
        have HLL := Lib.hid (hll.out (by rw [hsa.out]; exact decide_eq_true (by constructor <;> omega)))
        clear hll hlm hsa HW
        go_upto_region 20 with (fail)
        rw [← HV.out]
        clear HV f0 f4 hs20 hc21 ho21
        go_wp2_with fail
        refine (kp w3).mono ?_
        rintro e w4 ⟨rfl, rfl⟩
        clear kp f3
        go_wp2_with fail
        refine (k1 w4 HP3.out).mono ?_
        rintro e w5 ⟨rfl, hb5⟩
        have HI5 := Lib.hid (isb_below HI3.out hb5)
        have HP5 := Lib.hid (HP3.out.below hb5)
        have HB5 := Lib.hid (HB3.out.trans (hb5.mono (HRR.out ▸ HB3.out.size)))
        clear k1 hb5 HI3 HP3 HB3
        go_wp2_with fail
        refine (k2 w5 HP5.out).mono ?_
        rintro e w6 ⟨rfl, hb6⟩
        have HI6 := Lib.hid (isb_below HI5.out hb6)
        have HP6 := Lib.hid (HP5.out.below hb6)
        have HB6 := Lib.hid (HB5.out.trans (hb6.mono (HRR.out ▸ HB5.out.size)))
        clear k2 hb6 HI5 HP5 HB5
        go_wp2_with fail
        refine (write_any R R (Lib.byteCells T) _ w6 HI6.out (by
          rw [Lib.byteCells_length]
          simp only [ByteArray.size_append, size_lit, List.length_cons, List.length_nil]
          have := HBS.out
          omega) (HRR.out ▸ HB6.out.size)).mono ?_
        rintro e w7 ⟨rfl, hI7, hb7⟩
        have HI7 : Hid (Lib.IsBuilder 59 5 R R (Lib.byteCells (textL src (fs.take (k + 1)))) w7) := Lib.hid (.inr (by
          rw [HST.out, HLL.out, Lib.byteCells_append]
          rw [Lib.strCells_eq, ← ByteArray.toList_eq] at hI7
          exact hI7))
        have HB7 := Lib.hid (HB6.out.trans hb7)
        have HP7 := Lib.hid (HPW.out.below (by rw [HRR.out]; exact HB7.out))
        clear hb7 hI7 HI6 HB6 HP6
        go_wp2
        go_roundg (n - (k + 1))
        case measure => have := HG.out; omega
        case rel => exact ⟨k + 1, by go_num, by omega, Lib.hid rfl, HI7, HB7, HP7⟩
    · obtain rfl : k = n := by omega
      have HT : Hid (textL src (fs.take k) = textL src fs) := Lib.hid (by rw [List.take_of_length_le (by have := HL.out; omega)])
      rw [HT.out] at HI
      go_wp2_with fail
      refine (Tryd.Builder_String_any R R (textL src fs) wr HI.out (HRR.out ▸ HB.out.size)).mono ?_
      rintro e w9 ⟨rfl, hb9⟩
      have HB9 := Lib.hid (HB.out.trans hb9)
      clear hb9
      go_wp2
      go_ret
      exact ⟨rfl, by rw [HRR.out]; exact HB9.out⟩
end Go.Proofs.YtjcgkplphiedjaaDoor
