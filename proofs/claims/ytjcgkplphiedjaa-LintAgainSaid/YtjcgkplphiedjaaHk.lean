/- Well formed atoms made of any. -/
import Derived.Test.YtjcgkplphiedjaaHj
namespace Go.Proofs.Ytjcgkplphiedjaa
open Go.RowKit Go.Sort

def goodA (y : At) : Prop := isNameS y.p = true ∧ y.es.length ≤ 3 ∧ (∀ e ∈ y.es, goodT e) ∧ y.p.size ≤ 2

theorem two_text {W : World} {Z a b : Nat} (h : Blk W Z 5 [.int .u8 (a : Int), .int .u8 (b : Int)]) (ha : a < 256) (hb : b < 256) :
    (convert 64 9 (.slice (some ⟨Z, 0, none⟩) 2 2)).run Try.prog W = .ok (.string ⟨#[UInt8.ofNat a, UInt8.ofNat b]⟩) W := by
  have hna : (UInt8.ofNat a).toNat = a := by rw [UInt8.toNat_ofNat']; omega
  have hnb : (UInt8.ofNat b).toNat = b := by rw [UInt8.toNat_ofNat']; omega
  refine run_convert_bytes_back (P := Try.prog) W 64 9 5 ⟨Z, 0, none⟩ 2 [UInt8.ofNat a, UInt8.ofNat b] Try.underlying64 Try.underlying5 Try.underlying9 ?_
  intro j hj
  have hj0 : j = 0 ∨ j = 1 := by simp at hj; omega
  rcases hj0 with rfl | rfl
  · simp only [List.getElem_cons_zero, hna]
    exact h.cell 0
  · simp only [List.getElem_cons_succ, List.getElem_cons_zero, hnb]
    exact h.cell 1
theorem name_two {a b : Nat} (h0 : 97 ≤ a) (h1 : a < 123) (h2 : 48 ≤ b) (h3 : b < 58) : isNameS ⟨#[UInt8.ofNat a, UInt8.ofNat b]⟩ = true := by
  have e : (⟨#[UInt8.ofNat a, UInt8.ofNat b]⟩ : ByteArray).toList = [UInt8.ofNat a, UInt8.ofNat b] := bytes_list [_, _]
  have hz : (⟨#[UInt8.ofNat a, UInt8.ofNat b]⟩ : ByteArray).size = 2 := rfl
  have hna : (UInt8.ofNat a).toNat = a := by rw [UInt8.toNat_ofNat']; omega
  have hnb : (UInt8.ofNat b).toNat = b := by rw [UInt8.toNat_ofNat']; omega
  unfold isNameS tailB lowZ notS wordZ lowZ uppZ digZ
  rw [e, hz]
  simp only [List.headD_cons, hna, List.drop_succ_cons, List.drop_zero, List.all_cons, List.all_nil, hnb]
  simp
  omega

set_option maxRecDepth 20000 in
set_option maxHeartbeats 16000000 in
theorem atom_any (x : At) (w : World) (hok : At.ok w x) (hf : x.fine) :
    Calls Try.prog 35 #[.agg #[.string x.p, .slice x.A x.n x.c, .int .i64 x.o]] w fun e w' => ∃ y : At, e = .returned (.agg #[.string y.p, .slice y.A y.n y.c, .int .i64 y.o]) ∧ goodA y ∧ At.own w' w.heap.size y ∧ Below w.heap.size w w' := by
  obtain ⟨i0, hi, hz0, hz1, hz2⟩ := info_parts Try.info33
  obtain ⟨p, A, n, c, o, es⟩ := x
  obtain ⟨ht, hA, hn40⟩ := hok
  obtain ⟨hfp, hfe⟩ := hf
  dsimp only at ht hA hn40 hfp hfe ⊢
  have ks := Lib.hid (fun W => size_at p hfp W)
  have hlen : es.length = n := by have := ht.1; rw [tcells_length] at this; omega
  have HN := Lib.hid hlen
  generalize szL _ _ = V at *
  have HT := Lib.hid ht
  have HFE := Lib.hid hfe
  have hnb := ht.2.1
  clear ht hA hfe hfp hlen
  have hV1 : Int.tmod V 3 < 3 := Int.tmod_lt_of_pos V (by omega)
  have hV2 : -3 < Int.tmod V 3 := by
    have := Int.lt_tmod_of_pos (b := 3) V (by omega)
    omega
  obtain ⟨m, hm⟩ : ∃ m, m = min n 3 := ⟨_, rfl⟩
  have hm3 : m ≤ 3 := by omega
  have hmn : m ≤ n := by omega
  have HMM := Lib.hid hm
  clear hm
  go_enter Try.func35, Try.ntmps35
  go_upto_region 1 with (fail)
  obtain ⟨hb1, h1, h2, hs1⟩ := two_alloc w 27 27 [.string p, .slice A n c, .int .i64 o] [.string ⟨#[]⟩, .slice none 0 0, .int .i64 0]
  generalize World.alloc (World.alloc _ _) _ = w1 at *
  generalize hR : w.heap.size = R at *
  have HRR := Lib.hid hR
  clear hR
  have HB1 := Lib.hid hb1
  have H1 := Lib.hid h1
  have H2 := Lib.hid h2
  clear h1 h2 hb1
  have f1 := (H1.out.cell 1).trans rfl
  go_cut [3] (fun v3 wx => v3 = .int .i64 (m : Int) ∧ wx = w1)
  case first =>
    have hmz := HMM.out
    by_cases hn3 : n ≤ 3
    · have : (n : Int) ≤ 3 := by omega
      have hmn2 : m = n := by omega
      clear hmz HMM hmn hm3 HN HT HFE
      subst hmn2
      go_wp2
      all_goals go_meet
      all_goals exact ⟨by first | rfl | (congr 1; omega), rfl⟩
    · have : ¬ (n : Int) ≤ 3 := by omega
      have hmn2 : m = 3 := by omega
      clear hmz HMM hmn hm3 HN HT HFE
      subst hmn2
      go_wp2
      all_goals go_meet
      all_goals exact ⟨by first | rfl | (congr 1; omega), rfl⟩
  case rest =>
    obtain ⟨rfl, rfl⟩ := hcut
    clear f1
    go_upto_region 2 with (fail)
    have hcu : ∃ a : Nat, 97 ≤ a ∧ a < 123 ∧ (112 + V.tmod 3 % 256) % 256 = (a : Int) := ⟨((112 + V.tmod 3 % 256) % 256).toNat, by omega, by omega, by omega⟩
    go_cut [4] (fun v4 wx => ∃ (P : Nat) (sb : ByteArray), v4 = .pointer (some ⟨P, 0, none⟩) ∧ R + 2 ≤ P ∧ isNameS sb = true ∧ sb.size ≤ 2 ∧ Below R w wx ∧ Blk wx R 27 [.string p, .slice A n c, .int .i64 o] ∧ Blk wx (R + 1) 27 [.string ⟨#[]⟩, .slice none 0 0, .int .i64 0] ∧ Blk wx P 27 [.string sb, .slice none 0 0, .int .i64 o])
    case first =>
      obtain ⟨ca, hca0, hca1, hca⟩ := hcu
      have HCA := Lib.hid hca
      obtain ⟨cb, hcb⟩ : ∃ cb : Nat, 48 + (m : Int) = (cb : Int) := ⟨48 + m, by omega⟩
      have hcb0 : 48 ≤ cb := by omega
      have hcb1 : cb < 58 := by omega
      have HCB := Lib.hid hcb
      obtain ⟨sb, hsb⟩ : ∃ sb : ByteArray, sb = ⟨#[UInt8.ofNat ca, UInt8.ofNat cb]⟩ := ⟨_, rfl⟩
      have HSB := Lib.hid hsb
      clear hca hcb hsb
      have HB : Hid (Below R w wc.drew) := Lib.hid HB1.out.drew
      have H1x := Lib.hid H1.out.drew
      have H2x := Lib.hid H2.out.drew
      have hsd : R + 2 ≤ wc.drew.heap.size := by have : wc.drew.heap.size = R + 2 := hs1; omega
      clear HB1 H1 H2 hs1
      have H1 := H1x
      have H2 := H2x
      clear H1x H2x
      generalize hdw : wc.drew = b0 at *
      obtain ⟨C, hCi⟩ : ∃ C : World → Prop, ∀ w', C w' ↔ Blk w' R 27 [.string p, .slice A n c, .int .i64 o] := ⟨_, fun _ => Iff.rfl⟩
      have k0 : ∀ q : WC C, q.w.cell? ⟨R, 0, none⟩ = some (.string p) := fun q => ((hCi _).1 q.h).cell 0
      have k2 : ∀ q : WC C, q.w.cell? ⟨R, 2, none⟩ = some (.int .i64 o) := fun q => ((hCi _).1 q.h).cell 2
      have kn : Nonempty (WC C) := ⟨⟨_, (hCi _).2 H1.out⟩⟩
      refine wp_region_frontN C [0, 1, 6, 7, 8, 11, 12] 9 (fun j => decide (j < 15)) (by kernel_rfl) (fun _ _ d _ _ h => by cases d <;> exact h) (by kernel_rfl) (hdw ▸ (hCi _).2 H1.out) ?_
      simp only [List.map_cons, List.map_nil, List.getD_cons_zero, List.getD_cons_succ]
      repeat (go_big_quiet_step (fail))
      refine wpQuiet_nil ?_
      clear k0 k2 kn
      rw [hdw, HCB.out]
      clear hdw
      have HCi := Lib.hid hCi
      clear hCi
      refine wpN_two (i := 2) (j := 14) (by kernel_rfl) rfl rfl ?_ ?_
      · go_wp2_with fail
        refine (ks.out b0).mono ?_
        rintro e b1 ⟨rfl, hb⟩
        have HB := Lib.hid (HB.out.trans (hb.mono (by omega)))
        have H1 := Lib.hid (H1.out.below hb (by omega))
        have H2 := Lib.hid (H2.out.below hb (by omega))
        have hsd : R + 2 ≤ b1.heap.size := by have := hb.size; omega
        clear hb
        go_wp2
        refine tailN_normal ((HCi.out _).2 H1.out) ?_
        have kn : Nonempty (WC C) := ⟨⟨_, (HCi.out _).2 H1.out⟩⟩
        refine wpN_frontW C [3, 4, 5] 5 _ (fun _ _ d _ _ h => by cases d <;> exact h) (by kernel_rfl) ((HCi.out _).2 H1.out) ?_
        simp only [List.map_cons, List.map_nil, List.getD_cons_zero, List.getD_cons_succ]
        repeat (go_big_quiet_step (fail))
        refine wpQuiet_nil ?_
        clear kn
        rw [HCA.out]
        refine wpN_two (i := 9) (j := 14) (by kernel_rfl) rfl rfl ?_ ?_
        · go_wp2
          have HZ := Lib.hid (Blk.new b1 5 [.int .u8 (ca : Int), .int .u8 (cb : Int)])
          have HB := Lib.hid (HB.out.alloc (by omega) (.cells #[.int .u8 (ca : Int), .int .u8 (cb : Int)] 5))
          have H1 := Lib.hid (H1.out.alloc (.cells #[.int .u8 (ca : Int), .int .u8 (cb : Int)] 5))
          have H2 := Lib.hid (H2.out.alloc (.cells #[.int .u8 (ca : Int), .int .u8 (cb : Int)] 5))
          have hsd : R + 2 ≤ (b1.alloc (.cells #[.int .u8 (ca : Int), .int .u8 (cb : Int)] 5)).heap.size := by simp; omega
          refine tailN_normal ((HCi.out _).2 H1.out) ?_
          generalize World.alloc _ _ = b2 at *
          generalize b1.heap.size = Zb2 at *
          refine wpN_two (i := 10) (j := 14) (by kernel_rfl) rfl rfl ?_ ?_
          · have hcv : (convert 64 9 (.slice (some ⟨Zb2, 0, none⟩) 2 2)).run Try.prog b2 = .ok (.string sb) b2 := by
              rw [HSB.out]; exact two_text HZ.out (by omega) (by omega)
            go_wp2
            clear hcv
            refine tailN_normal ((HCi.out _).2 H1.out) ?_
            refine wpN_two (i := 13) (j := 14) (by kernel_rfl) rfl rfl ?_ ?_
            · go_wp2
              refine tailN_normal ((HCi.out _).2 H1.out) ?_
              refine wpN_one (i := 14) (by kernel_rfl) rfl ?_
              go_wp2
              have HB := Lib.hid (HB.out.alloc (by omega) (.cells #[.string ⟨#[]⟩, .slice none 0 0, .int .i64 0] 27))
              have HP := Lib.hid (Blk.new b2 27 [.string ⟨#[]⟩, .slice none 0 0, .int .i64 0])
              have H1 := Lib.hid (H1.out.alloc (.cells #[.string ⟨#[]⟩, .slice none 0 0, .int .i64 0] 27))
              have H2 := Lib.hid (H2.out.alloc (.cells #[.string ⟨#[]⟩, .slice none 0 0, .int .i64 0] 27))
              have hP : R + 2 ≤ b2.heap.size := by omega
              have hsd : R + 2 ≤ (b2.alloc (.cells #[.string ⟨#[]⟩, .slice none 0 0, .int .i64 0] 27)).heap.size := by simp; omega
              refine tailN_normal ((HCi.out _).2 H1.out) ?_
              generalize World.alloc _ _ = b5 at *
              generalize b2.heap.size = Pb5 at *
              refine wpN_one (i := 15) (by kernel_rfl) rfl ?_
              have s0 := HP.out.frozen 0
              have s1 := HP.out.frozen 1
              have s2 := HP.out.frozen 2
              have r0 := (HP.out.cell 0).trans rfl
              have r1 := (HP.out.cell 1).trans rfl
              have r2 := (HP.out.cell 2).trans rfl
              have hlp := HP.out.lt
              go_wp2
              refine ⟨fun h => absurd h (by decide), ?_⟩
              refine wpN_none (by kernel_rfl) ?_
              go_wp2
              go_meet
              refine ⟨_, sb, rfl, hP, by rw [HSB.out]; exact name_two hca0 hca1 hcb0 hcb1, by rw [HSB.out]; exact Nat.le_refl 2, ?_, ?_, ?_, ?_⟩
              · exact ((HB.out.setCell (p := ⟨Pb5, 0, none⟩) (by simp; omega) _).setCell (p := ⟨Pb5, 1, none⟩) (by simp; omega) _).setCell (p := ⟨Pb5, 2, none⟩) (by simp; omega) _
              · exact ((H1.out.far (p := ⟨Pb5, 0, none⟩) (by simp; omega) _).far (p := ⟨Pb5, 1, none⟩) (by simp; omega) _).far (p := ⟨Pb5, 2, none⟩) (by simp; omega) _
              · exact ((H2.out.far (p := ⟨Pb5, 0, none⟩) (by simp; omega) _).far (p := ⟨Pb5, 1, none⟩) (by simp; omega) _).far (p := ⟨Pb5, 2, none⟩) (by simp; omega) _
              · exact ((HP.out.set_ 0 _).set_ 1 _).set_ 2 _
            · go_wp2
              have HB := Lib.hid (HB.out.alloc (by omega) (.cells #[.string ⟨#[]⟩, .slice none 0 0, .int .i64 0] 27))
              have HP := Lib.hid (Blk.new b2 27 [.string ⟨#[]⟩, .slice none 0 0, .int .i64 0])
              have H1 := Lib.hid (H1.out.alloc (.cells #[.string ⟨#[]⟩, .slice none 0 0, .int .i64 0] 27))
              have H2 := Lib.hid (H2.out.alloc (.cells #[.string ⟨#[]⟩, .slice none 0 0, .int .i64 0] 27))
              have hP : R + 2 ≤ b2.heap.size := by omega
              have hsd : R + 2 ≤ (b2.alloc (.cells #[.string ⟨#[]⟩, .slice none 0 0, .int .i64 0] 27)).heap.size := by simp; omega
              refine tailN_normal ((HCi.out _).2 H1.out) ?_
              generalize World.alloc _ _ = b6 at *
              generalize b2.heap.size = Pb6 at *
              refine wpN_one (i := 13) (by kernel_rfl) rfl ?_
              go_wp2
              refine tailN_normal ((HCi.out _).2 H1.out) ?_
              refine wpN_one (i := 15) (by kernel_rfl) rfl ?_
              have s0 := HP.out.frozen 0
              have s1 := HP.out.frozen 1
              have s2 := HP.out.frozen 2
              have r0 := (HP.out.cell 0).trans rfl
              have r1 := (HP.out.cell 1).trans rfl
              have r2 := (HP.out.cell 2).trans rfl
              have hlp := HP.out.lt
              go_wp2
              refine ⟨fun h => absurd h (by decide), ?_⟩
              refine wpN_none (by kernel_rfl) ?_
              go_wp2
              go_meet
              refine ⟨_, sb, rfl, hP, by rw [HSB.out]; exact name_two hca0 hca1 hcb0 hcb1, by rw [HSB.out]; exact Nat.le_refl 2, ?_, ?_, ?_, ?_⟩
              · exact ((HB.out.setCell (p := ⟨Pb6, 0, none⟩) (by simp; omega) _).setCell (p := ⟨Pb6, 1, none⟩) (by simp; omega) _).setCell (p := ⟨Pb6, 2, none⟩) (by simp; omega) _
              · exact ((H1.out.far (p := ⟨Pb6, 0, none⟩) (by simp; omega) _).far (p := ⟨Pb6, 1, none⟩) (by simp; omega) _).far (p := ⟨Pb6, 2, none⟩) (by simp; omega) _
              · exact ((H2.out.far (p := ⟨Pb6, 0, none⟩) (by simp; omega) _).far (p := ⟨Pb6, 1, none⟩) (by simp; omega) _).far (p := ⟨Pb6, 2, none⟩) (by simp; omega) _
              · exact ((HP.out.set_ 0 _).set_ 1 _).set_ 2 _
          · go_wp2
            have HB := Lib.hid (HB.out.alloc (by omega) (.cells #[.string ⟨#[]⟩, .slice none 0 0, .int .i64 0] 27))
            have HP := Lib.hid (Blk.new b2 27 [.string ⟨#[]⟩, .slice none 0 0, .int .i64 0])
            have H1 := Lib.hid (H1.out.alloc (.cells #[.string ⟨#[]⟩, .slice none 0 0, .int .i64 0] 27))
            have H2 := Lib.hid (H2.out.alloc (.cells #[.string ⟨#[]⟩, .slice none 0 0, .int .i64 0] 27))
            have HZ := Lib.hid (HZ.out.alloc (.cells #[.string ⟨#[]⟩, .slice none 0 0, .int .i64 0] 27))
            have hP : R + 2 ≤ b2.heap.size := by omega
            have hsd : R + 2 ≤ (b2.alloc (.cells #[.string ⟨#[]⟩, .slice none 0 0, .int .i64 0] 27)).heap.size := by simp; omega
            refine tailN_normal ((HCi.out _).2 H1.out) ?_
            generalize World.alloc _ _ = b8 at *
            generalize b2.heap.size = Pb8 at *
            refine wpN_one (i := 10) (by kernel_rfl) rfl ?_
            have hcv : (convert 64 9 (.slice (some ⟨Zb2, 0, none⟩) 2 2)).run Try.prog b8 = .ok (.string sb) b8 := by
              rw [HSB.out]; exact two_text HZ.out (by omega) (by omega)
            go_wp2
            clear hcv
            refine tailN_normal ((HCi.out _).2 H1.out) ?_
            refine wpN_one (i := 13) (by kernel_rfl) rfl ?_
            go_wp2
            refine tailN_normal ((HCi.out _).2 H1.out) ?_
            refine wpN_one (i := 15) (by kernel_rfl) rfl ?_
            have s0 := HP.out.frozen 0
            have s1 := HP.out.frozen 1
            have s2 := HP.out.frozen 2
            have r0 := (HP.out.cell 0).trans rfl
            have r1 := (HP.out.cell 1).trans rfl
            have r2 := (HP.out.cell 2).trans rfl
            have hlp := HP.out.lt
            go_wp2
            refine ⟨fun h => absurd h (by decide), ?_⟩
            refine wpN_none (by kernel_rfl) ?_
            go_wp2
            go_meet
            refine ⟨_, sb, rfl, hP, by rw [HSB.out]; exact name_two hca0 hca1 hcb0 hcb1, by rw [HSB.out]; exact Nat.le_refl 2, ?_, ?_, ?_, ?_⟩
            · exact ((HB.out.setCell (p := ⟨Pb8, 0, none⟩) (by simp; omega) _).setCell (p := ⟨Pb8, 1, none⟩) (by simp; omega) _).setCell (p := ⟨Pb8, 2, none⟩) (by simp; omega) _
            · exact ((H1.out.far (p := ⟨Pb8, 0, none⟩) (by simp; omega) _).far (p := ⟨Pb8, 1, none⟩) (by simp; omega) _).far (p := ⟨Pb8, 2, none⟩) (by simp; omega) _
            · exact ((H2.out.far (p := ⟨Pb8, 0, none⟩) (by simp; omega) _).far (p := ⟨Pb8, 1, none⟩) (by simp; omega) _).far (p := ⟨Pb8, 2, none⟩) (by simp; omega) _
            · exact ((HP.out.set_ 0 _).set_ 1 _).set_ 2 _
        · go_wp2
          have HB := Lib.hid (HB.out.alloc (by omega) (.cells #[.string ⟨#[]⟩, .slice none 0 0, .int .i64 0] 27))
          have HP := Lib.hid (Blk.new b1 27 [.string ⟨#[]⟩, .slice none 0 0, .int .i64 0])
          have H1 := Lib.hid (H1.out.alloc (.cells #[.string ⟨#[]⟩, .slice none 0 0, .int .i64 0] 27))
          have H2 := Lib.hid (H2.out.alloc (.cells #[.string ⟨#[]⟩, .slice none 0 0, .int .i64 0] 27))
          have hP : R + 2 ≤ b1.heap.size := by omega
          have hsd : R + 2 ≤ (b1.alloc (.cells #[.string ⟨#[]⟩, .slice none 0 0, .int .i64 0] 27)).heap.size := by simp; omega
          refine tailN_normal ((HCi.out _).2 H1.out) ?_
          generalize World.alloc _ _ = b11 at *
          generalize b1.heap.size = Pb11 at *
          refine wpN_one (i := 9) (by kernel_rfl) rfl ?_
          go_wp2
          have HZ := Lib.hid (Blk.new b11 5 [.int .u8 (ca : Int), .int .u8 (cb : Int)])
          have HB := Lib.hid (HB.out.alloc (by omega) (.cells #[.int .u8 (ca : Int), .int .u8 (cb : Int)] 5))
          have H1 := Lib.hid (H1.out.alloc (.cells #[.int .u8 (ca : Int), .int .u8 (cb : Int)] 5))
          have H2 := Lib.hid (H2.out.alloc (.cells #[.int .u8 (ca : Int), .int .u8 (cb : Int)] 5))
          have HP := Lib.hid (HP.out.alloc (.cells #[.int .u8 (ca : Int), .int .u8 (cb : Int)] 5))
          have hsd : R + 2 ≤ (b11.alloc (.cells #[.int .u8 (ca : Int), .int .u8 (cb : Int)] 5)).heap.size := by simp; omega
          refine tailN_normal ((HCi.out _).2 H1.out) ?_
          generalize World.alloc _ _ = b12 at *
          generalize b11.heap.size = Zb12 at *
          refine wpN_one (i := 10) (by kernel_rfl) rfl ?_
          have hcv : (convert 64 9 (.slice (some ⟨Zb12, 0, none⟩) 2 2)).run Try.prog b12 = .ok (.string sb) b12 := by
            rw [HSB.out]; exact two_text HZ.out (by omega) (by omega)
          go_wp2
          clear hcv
          refine tailN_normal ((HCi.out _).2 H1.out) ?_
          refine wpN_one (i := 13) (by kernel_rfl) rfl ?_
          go_wp2
          refine tailN_normal ((HCi.out _).2 H1.out) ?_
          refine wpN_one (i := 15) (by kernel_rfl) rfl ?_
          have s0 := HP.out.frozen 0
          have s1 := HP.out.frozen 1
          have s2 := HP.out.frozen 2
          have r0 := (HP.out.cell 0).trans rfl
          have r1 := (HP.out.cell 1).trans rfl
          have r2 := (HP.out.cell 2).trans rfl
          have hlp := HP.out.lt
          go_wp2
          refine ⟨fun h => absurd h (by decide), ?_⟩
          refine wpN_none (by kernel_rfl) ?_
          go_wp2
          go_meet
          refine ⟨_, sb, rfl, hP, by rw [HSB.out]; exact name_two hca0 hca1 hcb0 hcb1, by rw [HSB.out]; exact Nat.le_refl 2, ?_, ?_, ?_, ?_⟩
          · exact ((HB.out.setCell (p := ⟨Pb11, 0, none⟩) (by simp; omega) _).setCell (p := ⟨Pb11, 1, none⟩) (by simp; omega) _).setCell (p := ⟨Pb11, 2, none⟩) (by simp; omega) _
          · exact ((H1.out.far (p := ⟨Pb11, 0, none⟩) (by simp; omega) _).far (p := ⟨Pb11, 1, none⟩) (by simp; omega) _).far (p := ⟨Pb11, 2, none⟩) (by simp; omega) _
          · exact ((H2.out.far (p := ⟨Pb11, 0, none⟩) (by simp; omega) _).far (p := ⟨Pb11, 1, none⟩) (by simp; omega) _).far (p := ⟨Pb11, 2, none⟩) (by simp; omega) _
          · exact ((HP.out.set_ 0 _).set_ 1 _).set_ 2 _
      · go_wp2
        have HB := Lib.hid (HB.out.alloc (by omega) (.cells #[.string ⟨#[]⟩, .slice none 0 0, .int .i64 0] 27))
        have HP := Lib.hid (Blk.new b0 27 [.string ⟨#[]⟩, .slice none 0 0, .int .i64 0])
        have H1 := Lib.hid (H1.out.alloc (.cells #[.string ⟨#[]⟩, .slice none 0 0, .int .i64 0] 27))
        have H2 := Lib.hid (H2.out.alloc (.cells #[.string ⟨#[]⟩, .slice none 0 0, .int .i64 0] 27))
        have hP : R + 2 ≤ b0.heap.size := by omega
        have hsd : R + 2 ≤ (b0.alloc (.cells #[.string ⟨#[]⟩, .slice none 0 0, .int .i64 0] 27)).heap.size := by simp; omega
        refine tailN_normal ((HCi.out _).2 H1.out) ?_
        generalize World.alloc _ _ = b15 at *
        generalize b0.heap.size = Pb15 at *
        refine wpN_one (i := 2) (by kernel_rfl) rfl ?_
        go_wp2_with fail
        refine (ks.out b15).mono ?_
        rintro e b16 ⟨rfl, hb⟩
        have HB := Lib.hid (HB.out.trans (hb.mono (by omega)))
        have H1 := Lib.hid (H1.out.below hb (by omega))
        have H2 := Lib.hid (H2.out.below hb (by omega))
        have HP := Lib.hid (HP.out.below hb HP.out.lt)
        have hsd : R + 2 ≤ b16.heap.size := by have := hb.size; omega
        clear hb
        go_wp2
        refine tailN_normal ((HCi.out _).2 H1.out) ?_
        have kn : Nonempty (WC C) := ⟨⟨_, (HCi.out _).2 H1.out⟩⟩
        refine wpN_frontW C [3, 4, 5] 4 _ (fun _ _ d _ _ h => by cases d <;> exact h) (by kernel_rfl) ((HCi.out _).2 H1.out) ?_
        simp only [List.map_cons, List.map_nil, List.getD_cons_zero, List.getD_cons_succ]
        repeat (go_big_quiet_step (fail))
        refine wpQuiet_nil ?_
        clear kn
        rw [HCA.out]
        refine wpN_one (i := 9) (by kernel_rfl) rfl ?_
        go_wp2
        have HZ := Lib.hid (Blk.new b16 5 [.int .u8 (ca : Int), .int .u8 (cb : Int)])
        have HB := Lib.hid (HB.out.alloc (by omega) (.cells #[.int .u8 (ca : Int), .int .u8 (cb : Int)] 5))
        have H1 := Lib.hid (H1.out.alloc (.cells #[.int .u8 (ca : Int), .int .u8 (cb : Int)] 5))
        have H2 := Lib.hid (H2.out.alloc (.cells #[.int .u8 (ca : Int), .int .u8 (cb : Int)] 5))
        have HP := Lib.hid (HP.out.alloc (.cells #[.int .u8 (ca : Int), .int .u8 (cb : Int)] 5))
        have hsd : R + 2 ≤ (b16.alloc (.cells #[.int .u8 (ca : Int), .int .u8 (cb : Int)] 5)).heap.size := by simp; omega
        refine tailN_normal ((HCi.out _).2 H1.out) ?_
        generalize World.alloc _ _ = b17 at *
        generalize b16.heap.size = Zb17 at *
        refine wpN_one (i := 10) (by kernel_rfl) rfl ?_
        have hcv : (convert 64 9 (.slice (some ⟨Zb17, 0, none⟩) 2 2)).run Try.prog b17 = .ok (.string sb) b17 := by
          rw [HSB.out]; exact two_text HZ.out (by omega) (by omega)
        go_wp2
        clear hcv
        refine tailN_normal ((HCi.out _).2 H1.out) ?_
        refine wpN_one (i := 13) (by kernel_rfl) rfl ?_
        go_wp2
        refine tailN_normal ((HCi.out _).2 H1.out) ?_
        refine wpN_one (i := 15) (by kernel_rfl) rfl ?_
        have s0 := HP.out.frozen 0
        have s1 := HP.out.frozen 1
        have s2 := HP.out.frozen 2
        have r0 := (HP.out.cell 0).trans rfl
        have r1 := (HP.out.cell 1).trans rfl
        have r2 := (HP.out.cell 2).trans rfl
        have hlp := HP.out.lt
        go_wp2
        refine ⟨fun h => absurd h (by decide), ?_⟩
        refine wpN_none (by kernel_rfl) ?_
        go_wp2
        go_meet
        refine ⟨_, sb, rfl, hP, by rw [HSB.out]; exact name_two hca0 hca1 hcb0 hcb1, by rw [HSB.out]; exact Nat.le_refl 2, ?_, ?_, ?_, ?_⟩
        · exact ((HB.out.setCell (p := ⟨Pb15, 0, none⟩) (by simp; omega) _).setCell (p := ⟨Pb15, 1, none⟩) (by simp; omega) _).setCell (p := ⟨Pb15, 2, none⟩) (by simp; omega) _
        · exact ((H1.out.far (p := ⟨Pb15, 0, none⟩) (by simp; omega) _).far (p := ⟨Pb15, 1, none⟩) (by simp; omega) _).far (p := ⟨Pb15, 2, none⟩) (by simp; omega) _
        · exact ((H2.out.far (p := ⟨Pb15, 0, none⟩) (by simp; omega) _).far (p := ⟨Pb15, 1, none⟩) (by simp; omega) _).far (p := ⟨Pb15, 2, none⟩) (by simp; omega) _
        · exact ((HP.out.set_ 0 _).set_ 1 _).set_ 2 _
    case rest =>
      clear HB1 H1 H2 hs1 hcu hV1 hV2
      obtain ⟨P, sb, rfl, hP, hns, hsz, hB, h1, h2, h4⟩ := hcut
      have HNS := Lib.hid hns
      have HSZ := Lib.hid hsz
      have KB0 := Lib.hid hB
      have K10 := Lib.hid h1
      have K20 := Lib.hid h2
      have K40 := Lib.hid h4
      clear hns hsz hB h1 h2 h4
      generalize hwc : wc = w0 at *
      clear hwc
      go_upto_region 4 with (fail)
      go_loopg [5] m (fun gk u5 wr => ∃ (k : Nat) (acc : List T) (vb : Value), u5 = .int .i64 k ∧ k ≤ m ∧ Hid (gk = m - k) ∧ Hid (Below R w wr) ∧ Hid (Blk wr R 27 [.string p, .slice A n c, .int .i64 o]) ∧ Hid (Blk wr (R + 1) 27 [.string ⟨#[]⟩, .slice none 0 0, .int .i64 0]) ∧
        Hid (Blk wr P 27 [.string sb, vb, .int .i64 o]) ∧ Hid (wr.ownsRow R 33 4 vb k (tcells acc)) ∧ Hid (∀ e ∈ acc, goodT e))
      case atStart => exact ⟨0, [], .slice none 0 0, rfl, Nat.zero_le _, Lib.hid (by omega), KB0, K10, K20, K40, Lib.hid (World.ownsRow_nil _ _ _ _), Lib.hid (by simp)⟩
      case round =>
        clear KB0 K10 K20 K40
        obtain ⟨k, acc, vb, rfl, hk, HG, HB, H1, H2, H4, HV, HW⟩ := hrel
        by_cases hlt : k < m
        · obtain ⟨B', off, hk1, rfl, hBB, c0, c1, c2, c3⟩ := (HT.out.below HB.out).term k (by omega)
          have HZF := Lib.hid (HFE.out es[k] (List.getElem_mem hk1))
          generalize es[k] = z at *
          go_upto_region 6 with (fail)
          have hs0 : P < wr.heap.size := H4.out.lt
          have HBd : Hid (Below R w wr.drew) := Lib.hid HB.out.drew
          have H1d := Lib.hid H1.out.drew
          have H2d := Lib.hid H2.out.drew
          have H4d := Lib.hid H4.out.drew
          have HVd : Hid (wr.drew.ownsRow R 33 4 vb k (tcells acc)) := Lib.hid HV.out.drew
          have e0 : wr.drew.cell? ⟨B', off + k * 4, none⟩ = some (.int .i64 z.k) := c0
          have e1 : wr.drew.cell? ⟨B', off + k * 4 + 1, none⟩ = some (.int .i64 z.i) := c1
          have e2 : wr.drew.cell? ⟨B', off + k * 4 + 2, none⟩ = some (.string z.t) := c2
          have e3 : wr.drew.cell? ⟨B', off + k * 4 + 3, none⟩ = some (.int .i64 z.o) := c3
          have hs1 : P < wr.drew.heap.size := hs0
          clear c0 c1 c2 c3 HB H1 H2 H4 HV hs0
          generalize hdw : wr.drew = wd at *
          obtain ⟨C, hCi⟩ : ∃ C : World → Prop, ∀ w', C w' ↔ (w'.cell? ⟨P, 1, none⟩ = some vb ∧ w'.cell? ⟨R, 1, none⟩ = some (.slice (some ⟨B', off, none⟩) n c) ∧ w'.cell? ⟨B', off + k * 4, none⟩ = some (.int .i64 z.k) ∧
            w'.cell? ⟨B', off + k * 4 + 1, none⟩ = some (.int .i64 z.i) ∧ w'.cell? ⟨B', off + k * 4 + 2, none⟩ = some (.string z.t) ∧ w'.cell? ⟨B', off + k * 4 + 3, none⟩ = some (.int .i64 z.o)) := ⟨_, fun _ => Iff.rfl⟩
          have q3 := (H4d.out.cell 1).trans rfl
          have q1 := (H1d.out.cell 1).trans rfl
          have hC : C wd := (hCi _).2 ⟨q3, q1, e0, e1, e2, e3⟩
          have HCb : Hid (∀ w', Below wd.heap.size wd w' → C w') := Lib.hid fun w' hb => (hCi _).2 ⟨cell_later hb q3, cell_later hb q1, cell_later hb e0, cell_later hb e1, cell_later hb e2, cell_later hb e3⟩
          have HCg : Hid (∀ w', Below R w w' → Blk w' R 27 [.string p, .slice (some ⟨B', off, none⟩) n c, .int .i64 o] → Blk w' P 27 [.string sb, vb, .int .i64 o] → C w') := Lib.hid fun w' hb b1 b3 => (hCi _).2
            ⟨b3.cell 1, b1.cell 1, (hb.cell hBB).trans ((HBd.out.cell hBB).symm.trans e0), (hb.cell hBB).trans ((HBd.out.cell hBB).symm.trans e1), (hb.cell hBB).trans ((HBd.out.cell hBB).symm.trans e2), (hb.cell hBB).trans ((HBd.out.cell hBB).symm.trans e3)⟩
          have k3 : ∀ p : WC C, p.w.cell? ⟨P, 1, none⟩ = some vb := fun p => ((hCi _).1 p.h).1
          have k1 : ∀ p : WC C, p.w.cell? ⟨R, 1, none⟩ = some (.slice (some ⟨B', off, none⟩) n c) := fun p => ((hCi _).1 p.h).2.1
          have g0 : ∀ p : WC C, p.w.cell? ⟨B', off + k * 4, none⟩ = some (.int .i64 z.k) := fun p => ((hCi _).1 p.h).2.2.1
          have g1 : ∀ p : WC C, p.w.cell? ⟨B', off + k * 4 + 1, none⟩ = some (.int .i64 z.i) := fun p => ((hCi _).1 p.h).2.2.2.1
          have g2 : ∀ p : WC C, p.w.cell? ⟨B', off + k * 4 + 2, none⟩ = some (.string z.t) := fun p => ((hCi _).1 p.h).2.2.2.2.1
          have g3 : ∀ p : WC C, p.w.cell? ⟨B', off + k * 4 + 3, none⟩ = some (.int .i64 z.o) := fun p => ((hCi _).1 p.h).2.2.2.2.2
          have kn : Nonempty (WC C) := ⟨⟨_, hC⟩⟩
          have hkn : k < n := by omega
          clear hCi e0 e1 e2 e3 q3 q1
          refine wp_region_front' C [0, 1, 2, 3, 4, 5, 6] [7, 8, 9, 10, 11] (fun j => decide (j < 11)) (by kernel_rfl) (fun _ _ d _ _ h => by cases d <;> exact h) (by kernel_rfl) (hdw ▸ hC) ?_
          simp only [List.map_cons, List.map_nil, List.getD_cons_zero, List.getD_cons_succ]
          repeat (go_big_quiet_step (fail))
          refine wpQuiet_nil ?_
          clear k3 k1 g0 g1 g2 g3 kn hC
          rw [hdw]
          clear hdw
          refine wpTail_cons ?_
          go_wp2_with fail
          refine (term_any z wd HZF.out).mono ?_
          rintro e w5 ⟨⟨yk, yi, yt, yo⟩, rfl, hgy, hb5⟩
          simp only [T.cells]
          have HGY := Lib.hid hgy
          have hs5 : P < w5.heap.size := by have := hb5.size; omega
          have K1 := Lib.hid (H1d.out.below hb5 H1d.out.lt)
          have K2 := Lib.hid (H2d.out.below hb5 H2d.out.lt)
          have K4 := Lib.hid (H4d.out.below hb5 H4d.out.lt)
          have KB := Lib.hid (HBd.out.trans (hb5.mono (by omega)))
          have hown := own_below HVd.out hb5
          have HC5 := Lib.hid (HCb.out _ hb5)
          have HC6 := Lib.hid (HCb.out _ (hb5.alloc hb5.size (.cells (T.cells ⟨yk, yi, yt, yo⟩).toArray 33)))
          clear hb5 hgy H1d H2d H4d HBd HVd HCb
          go_wp2
          refine tailQ_normal (fun _ => HC5.out) ?_
          refine wpTail_cons ?_
          go_wp2
          refine tailQ_normal (fun _ => HC6.out) ?_
          refine wpTail_cons ?_
          refine wpList_append_own _ rfl _ _ 25 rfl R 33 i0 _ 4 40 Try.underlying25 hi hz0 hz1 hz2 rfl (by decide) _ _ _ rfl (hown.alloc _) ⟨w5.heap.size, 0, none⟩ 1 1 (T.cells ⟨yk, yi, yt, yo⟩) rfl rfl (fun j u h => new_cells _ _ _ j u h) (term_one _) (by unfold maxLen; omega) (by omega) (by simp; omega) ?_
          intro v7 w7 hown7 hg7 _
          obtain ⟨A7, d7, rfl, hn7⟩ := own_slice hown7
          have a1 := (K1.out.alloc (.cells (T.cells ⟨yk, yi, yt, yo⟩).toArray 33)).grown hg7 (own_blk_ne hown K1.out (by decide))
          have a2 := (K2.out.alloc (.cells (T.cells ⟨yk, yi, yt, yo⟩).toArray 33)).grown hg7 (own_blk_ne hown K2.out (by decide))
          have a4 := (K4.out.alloc (.cells (T.cells ⟨yk, yi, yt, yo⟩).toArray 33)).grown hg7 (own_blk_ne hown K4.out (by decide))
          have BL := (KB.out.alloc (by omega) (.cells (T.cells ⟨yk, yi, yt, yo⟩).toArray 33)).grown hg7 (by simp; omega) (fun q hq => (hown.lt q hq).1)
          have W7 : ∀ e ∈ acc ++ [(⟨yk, yi, yt, yo⟩ : T)], goodT e := by
            intro e he
            rcases List.mem_append.1 he with he | he
            · exact HW.out e he
            · rw [List.mem_singleton.1 he]; exact HGY.out
          have V7 : w7.ownsRow R 33 4 (.slice A7 (k + 1) d7) (k + 1) (tcells (acc ++ [(⟨yk, yi, yt, yo⟩ : T)])) := by
            have e : tcells (acc ++ [(⟨yk, yi, yt, yo⟩ : T)]) = tcells acc ++ T.cells ⟨yk, yi, yt, yo⟩ := by simp [tcells]
            rw [e]; exact hown7
          have hC7 := Lib.hid (HCg.out w7 BL a1 a4)
          have z3 := a4.frozen 1
          have y3 := (a4.cell 1).trans rfl
          have hl7 := a4.lt
          have HA1 := Lib.hid a1
          have HA2 := Lib.hid a2
          have HA4 := Lib.hid a4
          have HBL := Lib.hid BL
          have HW7 := Lib.hid W7
          have HV7 := Lib.hid V7
          clear a1 a2 a4 BL W7 V7 hown7 hown hg7 K1 K2 K4 KB HGY HC5 HC6 HCg HW
          go_wp2
          refine tailQ_normal (fun _ => hC7.out) ?_
          refine wpTail_cons ?_
          go_wp2
          refine tailQ_normal (fun _ => hC7.out) ?_
          refine wpTail_cons ?_
          go_wp2
          refine tailQ_normal (fun h => by cases h) ?_
          refine wpTail_nil ?_
          have HG1 := Lib.hid (HA1.out.far (p := ⟨P, 1, none⟩) (by simp; omega) (.slice A7 (k + 1) d7))
          have HG2 := Lib.hid (HA2.out.far (p := ⟨P, 1, none⟩) (by simp; omega) (.slice A7 (k + 1) d7))
          have HG4 := Lib.hid (HA4.out.set_ 1 (.slice A7 (k + 1) d7))
          have HVG := Lib.hid (own_setCell_blk HV7.out HA4.out (by decide) 1 (.slice A7 (k + 1) d7))
          have HBG := Lib.hid (HBL.out.setCell (p := ⟨P, 1, none⟩) (by simp; omega) (.slice A7 (k + 1) d7))
          simp only [List.set_cons_succ, List.set_cons_zero] at HG4
          clear HA1 HA2 HA4 HBL HV7 z3 y3 hl7 hC7
          generalize World.setCell _ _ _ = w8 at *
          go_wp2
          go_roundg (m - (k + 1))
          case measure => have := HG.out; omega
          case rel => exact ⟨k + 1, _, (.slice A7 (k + 1) d7), by go_num, by omega, Lib.hid rfl, HBG, HG1, HG2, HG4, HVG, HW7⟩
        · obtain rfl : k = m := by omega
          obtain ⟨Ab, cb, rfl, hnb2⟩ := own_slice HV.out
          have q0 := (H4.out.cell 0).trans rfl
          have q1 := (H4.out.cell 1).trans rfl
          have q2 := (H4.out.cell 2).trans rfl
          have r0 := (H2.out.cell 0).trans rfl
          have r1 := (H2.out.cell 1).trans rfl
          have r2 := (H2.out.cell 2).trans rfl
          have s0 := H2.out.frozen 0
          have s1 := H2.out.frozen 1
          have s2 := H2.out.frozen 2
          have hl2 := H2.out.lt
          have hl4 := H4.out.lt
          have hlen : acc.length = k := by have := HV.out.1; rw [tcells_length] at this; omega
          have D1 := H2.out.set_ 0 (.string sb)
          have D2 := D1.set_ 1 (.slice Ab k cb)
          have D3 := D2.set_ 2 (.int .i64 o)
          have E1 := own_setCell_blk (own_setCell_blk (own_setCell_blk HV.out H2.out (by decide) 0 (.string sb)) D1 (by decide) 1 (.slice Ab k cb)) D2 (by decide) 2 (.int .i64 o)
          have E4 := ((HB.out.setCell (p := ⟨R + 1, 0, none⟩) (by simp) (.string sb)).setCell (p := ⟨R + 1, 1, none⟩) (by simp) (.slice Ab k cb)).setCell (p := ⟨R + 1, 2, none⟩) (by simp) (.int .i64 o)
          have p0 := D3.cell 0
          have p1 := D3.cell 1
          have p2 := D3.cell 2
          simp at p0 p1 p2
          have HE1 := Lib.hid E1
          have HE4 := Lib.hid E4
          clear E1 E4 D1 D2 D3 HB H1 H2 H4 HV
          go_wp2
          refine bodyPost_ret (v := .agg #[.string sb, .slice Ab k cb, .int .i64 o]) ?_ rfl ⟨⟨sb, Ab, k, cb, o, acc⟩, rfl, ⟨HNS.out, by show acc.length ≤ 3; omega, HW.out, HSZ.out⟩, ?_, ?_⟩
          · simp [results, Try.results35, go_sem, p0, p1, p2]
          · rw [HRR.out]; exact HE1.out
          · rw [HRR.out]; exact HE4.out
end Go.Proofs.Ytjcgkplphiedjaa
