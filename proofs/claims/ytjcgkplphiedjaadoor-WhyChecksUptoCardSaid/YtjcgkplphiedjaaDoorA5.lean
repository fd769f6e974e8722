/- The document's words of a finding. -/
import Derived.Test.YtjcgkplphiedjaaDoorA4
namespace Go.Proofs.YtjcgkplphiedjaaDoor
open Go.RowKit Go.Sort

structure Fd where
  k : Int
  c : Int
  o : Int
  f : Int
  s : ByteArray

def inI (n : Int) : Prop := -9223372036854775808 ≤ n ∧ n ≤ 9223372036854775807
def Fd.cells (x : Fd) : List Value := [.int .i64 x.k, .int .i64 x.c, .int .i64 x.o, .int .i64 x.f, .string x.s]
def Fd.fine (x : Fd) : Prop := (inI x.k ∧ inI x.c ∧ inI x.o ∧ inI x.f) ∧ x.s.size ≤ 1048576
def it (n : Int) : ByteArray := ⟨(Lib.itoa n).toArray⟩
theorem it_size (n : Int) (h : inI n) : (it n).size ≤ 21 := itoa_size n h.1 h.2

def wordsB (x : Fd) : ByteArray :=
  if x.k = 1 then (((⟨#[99, 108, 97, 117, 115, 101, 32]⟩ ++ it x.c) ++ ⟨#[32, 105, 115, 32, 99, 108, 97, 117, 115, 101, 32]⟩) ++ it x.o) ++ ⟨#[32, 97, 103, 97, 105, 110]⟩
  else if x.k = 2 then ((⟨#[99, 108, 97, 117, 115, 101, 32]⟩ ++ it x.c) ++ ⟨#[32, 105, 115, 32, 99, 111, 118, 101, 114, 101, 100, 32, 98, 121, 32, 99, 108, 97, 117, 115, 101, 32]⟩) ++ it x.o
  else if x.k = 3 then (⟨#[99, 108, 97, 117, 115, 101, 32]⟩ ++ it x.c) ++ ⟨#[32, 110, 101, 118, 101, 114, 32, 102, 105, 114, 101, 115]⟩
  else if x.k = 4 then (⟨#[118, 97, 114, 105, 97, 98, 108, 101, 32]⟩ ++ x.s) ++ ⟨#[32, 115, 116, 97, 110, 100, 115, 32, 111, 110, 99, 101]⟩
  else if x.k = 5 then ⟨#[116, 104, 101, 32, 116, 101, 115, 116, 32, 97, 108, 119, 97, 121, 115, 32, 104, 111, 108, 100, 115]⟩
  else if x.k = 6 then (⟨#[112, 114, 101, 100, 105, 99, 97, 116, 101, 32]⟩ ++ x.s) ++ ⟨#[32, 105, 115, 32, 117, 115, 101, 100, 32, 110, 111, 119, 104, 101, 114, 101]⟩
  else ⟨#[]⟩

theorem size_lit (l : List UInt8) : (⟨l.toArray⟩ : ByteArray).size = l.length := rfl
theorem wordsB_size (x : Fd) (h : x.fine) : (wordsB x).size ≤ 1048676 := by
  have h1 := it_size x.c h.1.2.1
  have h2 := it_size x.o h.1.2.2.1
  have h3 := h.2
  unfold wordsB
  repeat' split
  all_goals simp only [ByteArray.size_append, size_lit, List.length_cons, List.length_nil]
  all_goals omega

set_option maxRecDepth 20000 in
set_option maxHeartbeats 4000000 in
theorem words_ref (x : Fd) (h : x.fine) (w : World) :
    Calls Tryd.prog 23 #[.agg x.cells.toArray] w fun e w' => e = .returned (.string (wordsB x)) ∧ Below w.heap.size w w' := by
  obtain ⟨k, c, o, f, s⟩ := x
  have hc := it_size c h.1.2.1
  have ho := it_size o h.1.2.2.1
  have hs := h.2
  have HF := Lib.hid h
  clear h
  dsimp only at hc ho hs
  show Calls Tryd.prog 23 #[.agg #[.int .i64 k, .int .i64 c, .int .i64 o, .int .i64 f, .string s]] w _
  have kc := fun W : World => dec18_any c HF.out.1.2.1.1 HF.out.1.2.1.2 W
  have ko := fun W : World => dec18_any o HF.out.1.2.2.1.1 HF.out.1.2.2.1.2 W
  change ∀ W : World, Calls Tryd.prog 25 #[.int .i64 c] W fun e w' => e = .returned (.string (it c)) ∧ Below W.heap.size W w' at kc
  change ∀ W : World, Calls Tryd.prog 25 #[.int .i64 o] W fun e w' => e = .returned (.string (it o)) ∧ Below W.heap.size W w' at ko
  have HW : Hid (wordsB ⟨k, c, o, f, s⟩ = if k = 1 then (((⟨#[99, 108, 97, 117, 115, 101, 32]⟩ ++ it c) ++ ⟨#[32, 105, 115, 32, 99, 108, 97, 117, 115, 101, 32]⟩) ++ it o) ++ ⟨#[32, 97, 103, 97, 105, 110]⟩
  else if k = 2 then ((⟨#[99, 108, 97, 117, 115, 101, 32]⟩ ++ it c) ++ ⟨#[32, 105, 115, 32, 99, 111, 118, 101, 114, 101, 100, 32, 98, 121, 32, 99, 108, 97, 117, 115, 101, 32]⟩) ++ it o
  else if k = 3 then (⟨#[99, 108, 97, 117, 115, 101, 32]⟩ ++ it c) ++ ⟨#[32, 110, 101, 118, 101, 114, 32, 102, 105, 114, 101, 115]⟩
  else if k = 4 then (⟨#[118, 97, 114, 105, 97, 98, 108, 101, 32]⟩ ++ s) ++ ⟨#[32, 115, 116, 97, 110, 100, 115, 32, 111, 110, 99, 101]⟩
  else if k = 5 then ⟨#[116, 104, 101, 32, 116, 101, 115, 116, 32, 97, 108, 119, 97, 121, 115, 32, 104, 111, 108, 100, 115]⟩
  else if k = 6 then (⟨#[112, 114, 101, 100, 105, 99, 97, 116, 101, 32]⟩ ++ s) ++ ⟨#[32, 105, 115, 32, 117, 115, 101, 100, 32, 110, 111, 119, 104, 101, 114, 101]⟩
  else ⟨#[]⟩) := Lib.hid rfl
  generalize it c = C at *
  generalize it o = O at *
  generalize wordsB _ = V at *
  go_enter Tryd.func23, Tryd.ntmps23
  go_upto_region 1 with (fail)
  have hb1 := (Below.refl w.heap.size w).alloc (Nat.le_refl _) (.cells #[.int .i64 k, .int .i64 c, .int .i64 o, .int .i64 f, .string s] 52)
  have h1 := Blk.new w 52 [.int .i64 k, .int .i64 c, .int .i64 o, .int .i64 f, .string s]
  generalize World.alloc _ _ = w1 at *
  have hs1 := hb1.size
  generalize hR : w.heap.size = R at *
  have HRR := Lib.hid hR
  clear hR
  have HB1 := Lib.hid hb1
  have f0 := h1.cell 0
  have f1 := h1.cell 1
  have f2 := h1.cell 2
  have f4 := h1.cell 4
  simp only [List.getElem?_cons_zero, List.getElem?_cons_succ] at f0 f1 f2 f4
  clear h1 hb1
  have cC : ∀ d os, Calls Tryd.prog 25 #[.int .i64 c] (grow (redrawn w1 d) os) fun e w'' => e = .returned (.string C) ∧ ∃ p : Regrown, w'' = grow (redrawn w1 p.d) p.os :=
    fun d os => Calls.regrown_of (kc _)
  have cO : ∀ d os, Calls Tryd.prog 25 #[.int .i64 o] (grow (redrawn w1 d) os) fun e w'' => e = .returned (.string O) ∧ ∃ p : Regrown, w'' = grow (redrawn w1 p.d) p.os :=
    fun d os => Calls.regrown_of (ko _)
  by_cases k1 : k = 1
  · have HV := Lib.hid (HW.out.trans (if_pos k1))
    clear HW
    subst k1
    go_upto_region 3 with (fail)
    have kf1 := cell_regrown f1
    have kf2 := cell_regrown f2
    clear f0 f1 f2 f4
    refine wp_region_quiet_below (by kernel_rfl) (by kernel_rfl) ?_
    repeat (go_big_quiet_step (first | exact cC _ _ | exact cO _ _))
    refine wpQuiet_nil ?_
    intro w6 hw6
    obtain ⟨⟨dq, osq⟩, rfl⟩ := hw6
    have HB6 := Lib.hid (HB1.out.trans ((below_regrown w1 dq osq).mono hs1))
    clear kf1 kf2 cC cO
    go_wp2
    go_ret
    exact ⟨by rw [HV.out]; rfl, by rw [HRR.out]; exact HB6.out⟩
  replace HW := Lib.hid (HW.out.trans (if_neg k1))
  by_cases k2 : k = 2
  · have HV := Lib.hid (HW.out.trans (if_pos k2))
    clear HW
    subst k2
    go_upto_region 5 with (fail)
    have kf1 := cell_regrown f1
    have kf2 := cell_regrown f2
    clear f0 f1 f2 f4
    refine wp_region_quiet_below (by kernel_rfl) (by kernel_rfl) ?_
    repeat (go_big_quiet_step (first | exact cC _ _ | exact cO _ _))
    refine wpQuiet_nil ?_
    intro w6 hw6
    obtain ⟨⟨dq, osq⟩, rfl⟩ := hw6
    have HB6 := Lib.hid (HB1.out.trans ((below_regrown w1 dq osq).mono hs1))
    clear kf1 kf2 cC cO
    go_wp2
    go_ret
    exact ⟨by rw [HV.out]; rfl, by rw [HRR.out]; exact HB6.out⟩
  clear cC cO
  replace HW := Lib.hid (HW.out.trans (if_neg k2))
  by_cases k3 : k = 3
  · have HV := Lib.hid (HW.out.trans (if_pos k3))
    clear HW
    subst k3
    go_upto_region 7 with (fail)
    go_wp2_with fail
    refine (kc w1).mono ?_
    rintro e w6 ⟨rfl, hb6⟩
    have HB6 := Lib.hid (HB1.out.trans (hb6.mono hs1))
    clear hb6 kc ko f0 f1 f2 f4
    go_wp2
    go_ret
    exact ⟨by rw [HV.out]; rfl, by rw [HRR.out]; exact HB6.out⟩
  clear kc ko
  replace HW := Lib.hid (HW.out.trans (if_neg k3))
  by_cases k4 : k = 4
  · have HV := Lib.hid (HW.out.trans (if_pos k4))
    clear HW
    subst k4
    go_wp2
    go_ret
    exact ⟨by rw [HV.out]; rfl, by rw [HRR.out]; exact HB1.out⟩
  replace HW := Lib.hid (HW.out.trans (if_neg k4))
  by_cases k5 : k = 5
  · have HV := Lib.hid (HW.out.trans (if_pos k5))
    clear HW
    subst k5
    go_wp2
    go_ret
    exact ⟨by rw [HV.out]; rfl, by rw [HRR.out]; exact HB1.out⟩
  replace HW := Lib.hid (HW.out.trans (if_neg k5))
  by_cases k6 : k = 6
  · have HV := Lib.hid (HW.out.trans (if_pos k6))
    clear HW
    subst k6
    go_wp2
    go_ret
    exact ⟨by rw [HV.out]; rfl, by rw [HRR.out]; exact HB1.out⟩
  replace HW := Lib.hid (HW.out.trans (if_neg k6))
  go_wp2
  go_ret
  exact ⟨by rw [HW.out]; rfl, by rw [HRR.out]; exact HB1.out⟩
end Go.Proofs.YtjcgkplphiedjaaDoor
