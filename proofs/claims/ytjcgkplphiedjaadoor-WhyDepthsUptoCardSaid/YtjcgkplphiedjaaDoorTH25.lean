/- A fact's text, the program's. -/
import Derived.Test.YtjcgkplphiedjaaDoorTH24
import Derived.Test.YtjcgkplphiedjaaDoorTR1
namespace Go.Proofs.YtjcgkplphiedjaaDoorT
open Go.RowKit Go.Sort

set_option maxRecDepth 20000 in
set_option maxHeartbeats 4000000 in
theorem fact_write (R : Nat) (p : ByteArray) (A : Option Addr) (n c : Nat) (l : List Cn) (w : World) (h : Lib.IsBuilder 59 5 R R [] w) (hps : p.size ≤ 1000000) (hr : Rd w R 3 A n (kcells l)) (hz : ∀ z ∈ l, inI z.i ∧ fineK z) (hn : n ≤ 8) (hp : PowB R w) :
    Calls Tryd.prog 157 #[.agg #[.string p, .slice A n c], .pointer (some ⟨R, 0, none⟩)] w fun e w' => e = .returned (.tuple #[]) ∧ (BU R (factL p l) w' ∧ Below R w w') := by
  have HI := Lib.hid h
  have HR := Lib.hid hr
  have HZ := Lib.hid hz
  have HP := Lib.hid hp
  have hRl : R < w.heap.size := YtjcgkplphiedjaaDoor.isb_lt h
  clear h hr hz hp
  go_enter Tryd.func157, Tryd.ntmps157
  go_upto_region 1 with (fail)
  have hba := (Below.refl w.heap.size w).alloc (Nat.le_refl _) (.cells #[.string p, .slice A n c] 105)
  have H1 := Lib.hid (Blk.new w 105 [.string p, .slice A n c]).drew
  generalize hw1 : World.alloc _ _ = w1 at *
  have hbd := hba.drew
  have HI1 := Lib.hid (YtjcgkplphiedjaaDoor.isb_below HI.out hbd)
  have HB1 := Lib.hid (hbd.mono (Nat.le_of_lt hRl))
  have hs1 : R < w1.drew.heap.size := Nat.lt_of_lt_of_le hRl hbd.size
  clear hba HI hw1
  generalize w.heap.size = G at *
  obtain ⟨C, hCi⟩ : ∃ C : World → Prop, ∀ w', C w' ↔ Blk w' G 105 [.string p, .slice A n c] := ⟨_, fun _ => Iff.rfl⟩
  have k0 : ∀ q : WC C, q.w.cell? ⟨G, 0, none⟩ = some (.string p) := fun q => ((hCi _).1 q.h).cell 0
  have k1 : ∀ q : WC C, q.w.cell? ⟨G, 1, none⟩ = some (.slice A n c) := fun q => ((hCi _).1 q.h).cell 1
  have kn : Nonempty (WC C) := ⟨⟨_, (hCi _).2 H1.out⟩⟩
  refine wp_region_frontN C [0, 1, 2, 3, 4] 2 (fun j => decide (j < 7)) (by kernel_rfl) (fun _ _ d _ _ h => by cases d <;> exact h) (by kernel_rfl) ((hCi _).2 H1.out) ?_
  simp only [List.map_cons, List.map_nil, List.getD_cons_zero, List.getD_cons_succ]
  repeat (go_big_quiet_step (fail))
  refine wpQuiet_nil ?_
  clear k0 k1 kn
  have HCi := Lib.hid hCi
  clear hCi
  generalize w1.drew = b0 at *
  refine wpN_one (i := 5) (by kernel_rfl) rfl ?_
  go_wp2_with fail
  refine (parts_any A n c l b0 ((HR.out.up HB1.out (Nat.le_of_lt hs1))) hn).mono ?_
  rintro e b1 ⟨v, rfl, hv, hb⟩
  obtain ⟨A5, d5, rfl, hn5⟩ := own_slice hv
  have HA := Lib.hid (own_pa hv)
  have HI2 := Lib.hid (YtjcgkplphiedjaaDoor.isb_below HI1.out hb)
  have HB2 := Lib.hid (HB1.out.trans (hb.mono (Nat.le_of_lt hs1)))
  have H2 := Lib.hid (H1.out.below hb H1.out.lt)
  clear hv hb HI1 HB1 H1
  go_wp2
  refine tailN_normal ((HCi.out _).2 H2.out) ?_
  refine wpN_one (i := 6) (by kernel_rfl) rfl ?_
  go_wp2_with fail
  refine (applied_any R p A5 n d5 l b1 HI2.out hps HA.out HZ.out hn (HP.out.below HB2.out)).mono ?_
  rintro e b2 ⟨rfl, h2, hb, hf⟩
  have HU := Lib.hid h2
  have HB3 := Lib.hid (HB2.out.trans hb)
  have H3 : Hid (Blk b2 G 105 [.string p, .slice A n c]) := Lib.hid (hf G _ _ _ H2.out (.inr ⟨by decide, by decide⟩))
  clear h2 hb hf HI2 HB2 H2
  go_wp2
  refine tailN_normal ((HCi.out _).2 H3.out) ?_
  refine wpN_none (by kernel_rfl) ?_
  go_wp2
  go_end0
  exact ⟨rfl, HU.out, HB3.out⟩

theorem factT_L {p : ByteArray} {l : List Cn} (h : wellF p l = true) : factT p l = ⟨(factL p l).toArray⟩ := bytes_eq (by rw [factT_bytes h]; rfl)

set_option maxRecDepth 20000 in
set_option maxHeartbeats 4000000 in
theorem text_fact (p : ByteArray) (A : Option Addr) (n c : Nat) (l : List Cn) (w : World) (hr : Rd w w.heap.size 3 A n (kcells l)) (hz : ∀ z ∈ l, inI z.i ∧ fineK z) (hp : Pow w) :
    Calls Tryd.prog 55 #[.int .i64 (factE p l), .iface 105 (.agg #[.string p, .slice A n c])] w fun e w' => e = .returned (.string (factT p l)) ∧ Below w.heap.size w w' := by
  have hlen : l.length = n := by have := hr.1; rw [kcells_length] at this; omega
  cases hwf : wellF p l with
  | false =>
    have h1 : factE p l ≠ 0 := fun h => by rw [(factE_zero p l).1 h] at hwf; cases hwf
    rw [factT_no hwf]
    have t1 : (factE p l != 0) = true := by simpa using h1
    have t2 : (factE p l == 0) = false := by simpa using h1
    generalize factE p l = q at *
    clear hr hz hp h1 hwf
    go_enter Tryd.func55, Tryd.ntmps55
    go_wp2
    go_ret
    exact ⟨by rfl, Below.refl _ _⟩
  | true =>
    have h1 : factE p l = 0 := (factE_zero p l).2 hwf
    obtain ⟨hnm, h8, _⟩ := wellF_parts hwf
    have hps := name_size hnm
    rw [h1, factT_L hwf]
    have HR := Lib.hid hr
    have HZ := Lib.hid hz
    have HP := Lib.hid hp
    clear hr hz hp hwf hnm h1
    obtain ⟨V, hV⟩ : ∃ V, V = factL p l := ⟨_, rfl⟩
    rw [← hV]
    have HV := Lib.hid hV
    clear hV
    go_enter Tryd.func55, Tryd.ntmps55
    go_upto_region 4 with (fail)
    have HI := Lib.hid (Lib.fresh_isBuilder 59 5 w)
    have hba := (Below.refl w.heap.size w).alloc (Nat.le_refl _) (.cells #[.pointer none, .slice none 0 0] 59)
    generalize World.alloc _ _ = w1 at *
    have HR1 := Lib.hid (HR.out.below hba)
    have HP1 := Lib.hid (PowB.below (PowB.of HP.out rfl) hba)
    have HB1 := Lib.hid hba
    clear hba HR HP
    generalize hR : w.heap.size = R at *
    have HRR := Lib.hid hR
    clear hR
    go_wp2_with fail
    refine (fact_write R p A n c l w1 HI.out (by omega) HR1.out HZ.out (by omega) HP1.out).mono ?_
    rintro e w2 ⟨rfl, h2, hb2⟩
    rw [← HV.out] at h2
    have HU := Lib.hid h2
    have HB2 := Lib.hid (HB1.out.trans hb2)
    clear h2 hb2 HI HB1 HP1 HR1
    go_wp2_with fail
    refine (readB R V w2 HU.out.is).mono ?_
    rintro e w3 ⟨rfl, hb3⟩
    have HB3 := Lib.hid (HB2.out.trans hb3)
    clear hb3 HB2
    go_wp2
    go_ret
    exact ⟨by rfl, by rw [HRR.out]; exact HB3.out⟩

set_option maxRecDepth 20000 in
set_option maxHeartbeats 4000000 in
theorem fact_print (p : ByteArray) (A : Option Addr) (n c : Nat) (l : List Cn) (w : World) (hr : Rd w w.heap.size 3 A n (kcells l)) (hz : ∀ z ∈ l, inI z.i ∧ fineK z) (hps : p.size ≤ 9223372036854775807) (hp : Pow w) :
    Calls Tryd.prog 33 #[.agg #[.string p, .slice A n c]] w fun e w' => e = .returned (.string (factT p l)) ∧ Below w.heap.size w w' := by
  have HR := Lib.hid hr
  have HZ := Lib.hid hz
  have HP := Lib.hid hp
  clear hr hz hp
  go_enter Tryd.func33, Tryd.ntmps33
  go_upto_region 1 with (fail)
  have hba := (Below.refl w.heap.size w).alloc (Nat.le_refl _) (.cells #[.string p, .slice A n c] 45)
  have H1 := Lib.hid (Blk.new w 45 [.string p, .slice A n c])
  generalize World.alloc _ _ = w1 at *
  have HR1 := Lib.hid (HR.out.up hba hba.size)
  have HP1 := Lib.hid (HP.out.below hba)
  have HB1 := Lib.hid hba
  clear hba HR HP
  generalize hG : w.heap.size = G at *
  have HGG := Lib.hid hG
  clear hG
  have kf0 := cell_regrown ((H1.out.cell 0).trans rfl)
  have kf1 := cell_regrown ((H1.out.cell 1).trans rfl)
  have cW : ∀ d os, Calls Tryd.prog 56 #[.agg #[.string p, .slice A n c]] (grow (redrawn w1 d) os) fun e w'' => e = .returned (.int .i64 (factE p l)) ∧ ∃ q : Regrown, w'' = grow (redrawn w1 q.d) q.os :=
    fun d os => Calls.regrown_of (wellFact_any p hps A n c l _ (HR1.out.up (below_regrown w1 d os) (below_regrown w1 d os).size) (fun z hz => (HZ.out z hz).2))
  have cT : ∀ d os, Calls Tryd.prog 55 #[.int .i64 (factE p l), .iface 105 (.agg #[.string p, .slice A n c])] (grow (redrawn w1 d) os) fun e w'' => e = .returned (.string (factT p l)) ∧ ∃ q : Regrown, w'' = grow (redrawn w1 q.d) q.os :=
    fun d os => Calls.regrown_of (text_fact p A n c l _ (HR1.out.up (below_regrown w1 d os) (below_regrown w1 d os).size) HZ.out (HP1.out.below (below_regrown w1 d os)))
  generalize factE p l = er at *
  refine wp_region_quiet_below (by kernel_rfl) (by kernel_rfl) ?_
  repeat (go_big_quiet_step (first | exact cW _ _ | exact cT _ _))
  refine wpQuiet_nil ?_
  intro w3 hw3
  obtain ⟨⟨dq, osq⟩, rfl⟩ := hw3
  have HB3 := Lib.hid (HB1.out.trans ((below_regrown w1 dq osq).mono (Nat.le_of_lt H1.out.lt)))
  clear kf0 kf1 cW cT
  generalize grow _ _ = w3 at *
  go_wp2
  go_ret
  exact ⟨by rfl, by rw [HGG.out]; exact HB3.out⟩
end Go.Proofs.YtjcgkplphiedjaaDoorT
