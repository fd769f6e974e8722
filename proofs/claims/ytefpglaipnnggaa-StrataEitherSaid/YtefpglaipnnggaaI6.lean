/- The program's Cycle. -/
import Derived.Test.YtefpglaipnnggaaI5
import Derived.Test.YtefpglaipnnggaaI3
namespace Go.Proofs.Ytefpglaipnnggaa
open Go.RowKit

set_option maxRecDepth 20000 in
set_option maxHeartbeats 4000000 in
theorem progCycle_any (A : Option Addr) (m c n : Nat) (es : List E) (w : World) (hr : Rd w w.heap.size 4 A m (ecells es)) (hf : Fits n es) (hreach : m * 32 ≤ 140737488355328) :
    Calls Try.prog 37 #[.int .i64 n, .slice A m c] w fun e w' => ∃ v l code, e = .returned (.tuple #[v, .int .i64 code]) ∧ Below w.heap.size w w' ∧ w'.ownsRow w.heap.size 3 1 v l.length (icells l) ∧ Ring n es l code := by
  obtain ⟨i0, hi, hz0, hz1, hz2⟩ := info_parts Try.info3
  have hn : n ≤ 128 := by have := hf.2.1; omega
  have hlen : es.length = m := by have := hr.1; rw [ecells_length] at this; omega
  have HL := Lib.hid hlen
  have HR := Lib.hid hr
  have HF := Lib.hid hf
  have HM := Lib.hid hreach
  have hmb := hr.2.1
  clear hr hf hlen hreach
  go_enter Try.func37, Try.ntmps37
  go_wp2_with fail
  refine (progBad_any A m c n es _ HR.out HF.out HM.out).mono ?_
  rintro e w1 ⟨rfl, hb1⟩
  have HB1 := Lib.hid hb1
  clear hb1
  by_cases hnb : NoBad es
  · have hbad := badAt_m1 hnb
    rw [hbad]
    have HX : Hid (Ring n es [] 0) := Lib.hid (.inl ⟨n, rfl, HF.out, hnb, rfl, rfl⟩)
    clear hnb hbad
    go_wp2
    go_ret2
    exact ⟨_, [], 0, rfl, HB1.out, World.ownsRow_nil _ _ _ _, HX.out⟩
  · obtain ⟨b, hb, hbad, k0, hk0⟩ := bad_edge hnb
    rw [hbad]
    have HBAD := Lib.hid hbad
    clear hnb hbad
    have hbm : b < m := by have := HL.out; omega
    have hok := HF.out.2.2 _ (List.getElem_mem hb)
    obtain ⟨ab, ao, hj1, rfl, hbb, d0, d1, d2, d3⟩ := HR.out.edge b hbm
    have c0 := (HB1.out.cell hbb).trans d0
    have c1 := (HB1.out.cell hbb).trans d1
    obtain ⟨g, hg⟩ : ∃ g : Nat, es[b].f = (g : Int) := ⟨es[b].f.toNat, by have := hok.1; omega⟩
    obtain ⟨t0, ht0⟩ : ∃ t : Nat, es[b].t = (t : Int) := ⟨es[b].t.toNat, by have := hok.2.2.1; omega⟩
    have hgn : g < n := by have := hok.2.1; omega
    have htn : t0 < n := by have := hok.2.2.2; omega
    rw [hg] at c0
    rw [ht0] at c1
    rw [hg, ht0] at hk0
    have hk0n : k0 < n := hk0.lt HF.out ⟨by omega, by omega⟩
    have HKD := Lib.hid hk0
    have HE := Lib.hid (⟨hg, ht0⟩ : _ ∧ _)
    clear hk0 hg ht0 d0 d1 d2 d3 hok
    have hnn : decide ((b : Int) < 0) = false := by simp
    have hs1 : w.heap.size ≤ w1.heap.size := HB1.out.size
    go_wp2_with fail
    refine (dist_any _ m c n g es w1 (HR.out.up HB1.out HB1.out.size) HF.out hgn).mono ?_
    rintro e w2 ⟨l, rfl, hb2, hV2, hF2⟩
    have hB2 := HB1.out.trans (hb2.mono HB1.out.size)
    have hs2 : w.heap.size ≤ w2.heap.size := hB2.size
    have hal := (Below.refl w2.heap.size w2).alloc (Nat.le_refl _) (.cells #[.int .i64 (b : Int)] 3)
    have hq : (w2.alloc (.cells #[.int .i64 (b : Int)] 3)).ownsRow w.heap.size 3 1 (.slice (some ⟨w2.heap.size, 0, none⟩) 1 1) 1 (icells [(b : Int)]) :=
      own_mk (size := 1) hs2 (Blk.new w2 3 [.int .i64 (b : Int)]) (Nat.le_refl _) (by unfold maxLen; omega) rfl rfl rfl
    have hG2 := hV2.lt
    have HRG : Hid (RG w (w2.alloc (.cells #[.int .i64 (b : Int)] 3)) w1.heap.size (.slice (some ⟨w2.heap.size, 0, none⟩) 1 1) b [] l) := Lib.hid ⟨hB2.trans (hal.mono hB2.size), hV2.alloc _, hq, by
      intro e
      have e' : w2.heap.size = w1.heap.size := by simpa [Value.ownBlock] using e
      omega⟩
    have c1' := (hb2.cell (p := ⟨ab, ao + b * 4 + 1, none⟩) (Nat.lt_of_lt_of_le hbb hs1)).trans c1
    have c1'' := (hal.cell (p := ⟨ab, ao + b * 4 + 1, none⟩) (Nat.lt_of_lt_of_le hbb hs2)).trans c1'
    have HFAR := Lib.hid hF2
    have hll := hF2.1
    clear hb2 hB2 hV2 hF2 c0 c1 c1' hq hal hG2
    go_upto_region 7 with (fail)
    generalize World.alloc _ _ = w3 at *
    generalize w1.heap.size = G at *
    have HW : Hid (∀ rest, Wy es g t0 rest → Wy es g t0 ([] ++ rest)) := Lib.hid fun rest h => h
    go_wp2
    clear c1''
    go_loopg [10, 11] k0 (fun gk v8 v10 wr => ∃ (a : Nat) (p : List Int), v10 = .int .i64 a ∧ a < n ∧ gk ≤ k0 ∧ Hid (p.length + gk = k0) ∧ Hid (RG w wr G v8 b p l) ∧ Hid (Dd es g a gk) ∧ Hid (∀ rest, Wy es g a rest → Wy es g t0 (p ++ rest)))
    case atStart => exact ⟨t0, [], rfl, htn, Nat.le_refl _, Lib.hid (by simp), HRG, HKD, HW⟩
    case round =>
      clear HRG HKD HW
      obtain ⟨a, p, rfl, han, hgk, HPL, HRG, HKD, HW⟩ := hrel
      cases gk with
      | zero =>
        have HX : Hid (Ring n es ((b : Int) :: p) 0) := Lib.hid (.inr (.inl ⟨n, b, hb, rfl, HF.out, HBAD.out, ⟨p, rfl, by
          rw [HE.out.1, HE.out.2]
          have := HW.out [] (HKD.out.zero_iff.1 rfl)
          simpa using this⟩, rfl⟩))
        have hag := HKD.out.zero_iff.1 rfl
        obtain rfl : a = g := by omega
        clear hag
        go_wp2
        go_ret2
        exact ⟨_, (b : Int) :: p, 0, rfl, HRG.out.bl, HRG.out.row, HX.out⟩
      | succ k =>
        have hag : ((a : Int) == (g : Int)) = false := by
          have h1 : ¬ (a : Int) = g := fun h => by have := HKD.out.zero_iff.2 h; omega
          simpa using h1
        have hag2 : ((a : Int) != (g : Int)) = true := by simpa using hag
        have HKC : Hid (((k + 1 : Nat) : Int) = (k : Int) + 1) := Lib.hid (by omega)
        go_wp2
        clear hag hag2
        go_loopg [10, 11, 48] m (fun gi v8 v10 v11 wr => ∃ (i : Nat), v10 = .int .i64 a ∧ v11 = .int .i64 i ∧ i ≤ m ∧ gi = m - i ∧ Hid (RG w wr G v8 b p l) ∧ Hid (∀ q, (hq : q < es.length) → q < i → ¬ Nx es g a es[q]))
        case atStart => exact ⟨0, rfl, rfl, Nat.zero_le _, by omega, HRG, Lib.hid (fun q hq h => by omega)⟩
        case round =>
          clear HRG
          obtain ⟨i, rfl, rfl, him, hgi, HRG, HN⟩ := hrel
          have HG := Lib.hid hgi
          clear hgi
          by_cases hlt : i < m
          · have hil : i < es.length := by have := HL.out; omega
            obtain ⟨eb, eo, hj2, hA, hbb2, d0, d1, d2, d3⟩ := HR.out.edge i hlt
            obtain ⟨rfl, rfl⟩ : ab = eb ∧ ao = eo := by
              injection hA with hA
              injection hA with h1 h2
              exact ⟨h1, h2⟩
            have hok := HF.out.2.2 _ (List.getElem_mem hil)
            have HOK := Lib.hid hok
            obtain ⟨f, hf⟩ : ∃ z : Nat, es[i].f = (z : Int) := ⟨es[i].f.toNat, by have := hok.1; omega⟩
            obtain ⟨t, ht⟩ : ∃ z : Nat, es[i].t = (z : Int) := ⟨es[i].t.toNat, by have := hok.2.2.1; omega⟩
            obtain ⟨en, hen⟩ : ∃ z, es[i].neg = z := ⟨_, rfl⟩
            obtain ⟨er, her⟩ : ∃ z, es[i].r = z := ⟨_, rfl⟩
            have htn2 : t < n := by have := hok.2.2.2; omega
            rw [hf] at d0
            rw [ht] at d1
            rw [hen] at d2
            rw [her] at d3
            have c0 := (HRG.out.bl.cell hbb2).trans d0
            have c1 := (HRG.out.bl.cell hbb2).trans d1
            have c2 := (HRG.out.bl.cell hbb2).trans d2
            have c3 := (HRG.out.bl.cell hbb2).trans d3
            have hnx := HFAR.out.nx (.inr rfl) HOK.out (by omega) HKD.out
            rw [hf, ht] at hnx
            have HNX := Lib.hid hnx
            have HNN : Hid (¬ Nx es g a es[i] → ∀ q, (hq : q < es.length) → q < i + 1 → ¬ Nx es g a es[q]) := Lib.hid fun h q hq hqi => by
              by_cases e : q = i
              · subst e; exact h
              · exact HN.out q hq (by omega)
            have HFT := Lib.hid (⟨hf, ht⟩ : _ ∧ _)
            clear hf ht hen her d0 d1 d2 d3 hok hnx hA
            have hal := (Below.refl wr.heap.size wr).alloc (Nat.le_refl _) (.cells #[.int .i64 (f : Int), .int .i64 (t : Int), .bool en, .int .i64 er] 43)
            have HRA := Lib.hid (HRG.out.up hal)
            have hE := Blk.new wr 43 [.int .i64 (f : Int), .int .i64 (t : Int), .bool en, .int .i64 er]
            have HEE := Lib.hid hE
            have e0 := hE.cell 0
            have e1 := hE.cell 1
            simp only [List.getElem?_cons_zero, List.getElem?_cons_succ] at e0 e1
            have y0 := HRA.out.cell (a := a) (by omega)
            have hla := HFAR.out.eq (v := (a : Int)) ⟨by omega, by omega⟩ HKD.out
            rw [hla, HKC.out] at y0
            have y1 := HRA.out.cell (a := t) (by omega)
            clear hal hE hla
            go_upto_region 12 with (fail)
            clear HRG c0 c1 c2 c3
            generalize World.alloc _ _ = wy at *
            generalize wr.heap.size = Y at *
            by_cases h1 : f = a
            · subst h1
              generalize hlt3 : lv l t = lt at *
              clear hlt3
              by_cases h2 : lt = k
              · subst h2
                have HYS := Lib.hid (HNX.out.1 ⟨rfl, rfl⟩)
                go_quiet (fail)
                have HRG2 := Lib.hid (HRA.out.up (below_drewN (Below.refl _ _) nq))
                have HEE := Lib.hid (HEE.out.drewN nq)
                have HWS := Lib.hid (Wy.snoc HW.out hil HKD.out HYS.out HN.out)
                have HDS := Lib.hid (HYS.out.dd HKD.out)
                have hpl := HPL.out
                have hown := HRG2.out.row
                have hsz := HRG2.out.bl.size
                clear e0 e1 y0 y1 HRA
                generalize World.drewN _ _ = wq at *
                have HRG3 := Lib.hid (HRG2.out.up ((Below.refl _ _).alloc (Nat.le_refl _) (.cells #[.int .i64 (i : Int)] 3)))
                have HE3 := Lib.hid (HEE.out.alloc (.cells #[.int .i64 (i : Int)] 3))
                go_wp2_with (at_builtin; go_must (refine wpList_append_kept _ rfl _ _ 37 rfl w.heap.size 3 i0 _ 1 8 Try.underlying37 hi hz0 hz1 hz2 rfl (by decide) _ _ _ rfl (hown.alloc _) ⟨wq.heap.size, 0, none⟩ 1 1 [.int .i64 (i : Int)] rfl rfl (fun j u h => new_cells _ _ _ j u h) (int_one _) (by unfold maxLen; omega) (by omega) (by simp; omega) ?_))
                intro v4 w4 hown4 hg4 hne4 _
                have HRG4 := Lib.hid (HRG3.out.grow hg4 hown4 (by simpa using hne4))
                have hE4 := HE3.out.grown hg4 (own_blk_ne HRG3.out.row HE3.out (by decide))
                have e1 := hE4.cell 1
                simp only [List.getElem?_cons_zero, List.getElem?_cons_succ] at e1
                clear hown hown4 hg4 hne4 HRG2 HRG3 hE4 HE3 HEE
                rw [HFT.out.2] at HWS HDS
                go_wp2
                go_roundg k
                case measure => omega
                case rel => exact ⟨t, p ++ [(i : Int)], rfl, htn2, by omega, Lib.hid (by simp; omega), HRG4, HDS, HWS⟩
              · have HX := Lib.hid (HNN.out (fun h => h2 (HNX.out.2 h).2))
                have h2b : (lt == (k : Int) + 1 - 1) = false := by simp; omega
                have h2c : decide (lt = (k : Int) + 1 - 1) = false := by simp; omega
                by_cases h3 : 0 ≤ lt
                · go_quiet (fail)
                  go_wp2
                  go_roundg (m - (i + 1))
                  case measure => have := HG.out; omega
                  case rel => exact ⟨i + 1, rfl, by go_num, by omega, rfl, Lib.hid (HRA.out.up (below_drewN (Below.refl _ _) _)), HX⟩
                · have h3b : decide (0 ≤ lt) = false := by simpa using h3
                  go_quiet (fail)
                  go_wp2
                  go_roundg (m - (i + 1))
                  case measure => have := HG.out; omega
                  case rel => exact ⟨i + 1, rfl, by go_num, by omega, rfl, Lib.hid (HRA.out.up (below_drewN (Below.refl _ _) _)), HX⟩
            · have HX := Lib.hid (HNN.out (fun h => h1 (by have := (HNX.out.2 h).1; omega)))
              have h1b : ((f : Int) == (a : Int)) = false := by simp; omega
              go_quiet (fail)
              go_wp2
              go_roundg (m - (i + 1))
              case measure => have := HG.out; omega
              case rel => exact ⟨i + 1, rfl, by go_num, by omega, rfl, Lib.hid (HRA.out.up (below_drewN (Below.refl _ _) _)), HX⟩
          · obtain rfl : i = m := by omega
            exact (Nx.some HKD.out (fun q hq => HN.out q hq (by have := HL.out; omega))).elim

set_option maxRecDepth 20000 in
theorem progCycle_no (A : Option Addr) (m c : Nat) (x : Int) (es : List E) (w : World) (hr : Rd w w.heap.size 4 A m (ecells es)) (hf : ¬ Fits x es) :
    Calls Try.prog 37 #[.int .i64 x, .slice A m c] w fun e w' => e = .returned (.tuple #[.slice none 0 0, .int .i64 2]) ∧ Below w.heap.size w w' := by
  have HR := Lib.hid hr
  have HF := Lib.hid hf
  clear hr hf
  go_enter Try.func37, Try.ntmps37
  go_wp2_with fail
  refine (progBad_no A m c x es _ HR.out HF.out).mono ?_
  rintro e w1 ⟨rfl, hb1⟩
  have HB1 := Lib.hid hb1
  clear hb1
  go_wp2
  go_ret2
  exact ⟨rfl, HB1.out⟩
theorem progCycle_all (A : Option Addr) (m c : Nat) (x : Int) (es : List E) (w : World) (hr : Rd w w.heap.size 4 A m (ecells es)) (hreach : m * 32 ≤ 140737488355328) :
    Calls Try.prog 37 #[.int .i64 x, .slice A m c] w fun e w' => ∃ v l code, e = .returned (.tuple #[v, .int .i64 code]) ∧ Below w.heap.size w w' ∧ w'.ownsRow w.heap.size 3 1 v l.length (icells l) ∧ Ring x es l code := by
  by_cases hf : Fits x es
  · obtain ⟨n, rfl⟩ : ∃ n : Nat, x = n := ⟨x.toNat, by have := hf.1; omega⟩
    exact progCycle_any A m c n es w hr hf hreach
  · refine (progCycle_no A m c x es w hr hf).mono ?_
    rintro e w' ⟨rfl, hb⟩
    exact ⟨_, [], 2, rfl, hb, World.ownsRow_nil _ _ _ _, .inr (.inr ⟨hf, rfl, rfl⟩)⟩
end Go.Proofs.Ytefpglaipnnggaa
