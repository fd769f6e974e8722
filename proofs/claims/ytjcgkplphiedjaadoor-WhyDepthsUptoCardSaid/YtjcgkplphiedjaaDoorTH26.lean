/- A fact's text, the document's; a number's. -/
import Derived.Test.YtjcgkplphiedjaaDoorTH18
namespace Go.Proofs.YtjcgkplphiedjaaDoorT
open Go.RowKit Go.Sort

set_option maxRecDepth 20000 in
theorem dec_ref (n : Int) (h : inI n) (w : World) :
    Calls Tryd.prog 31 #[.int .i64 n] w fun e w' => e = .returned (.string (it n)) ∧ Below w.heap.size w w' := by
  have HK := Lib.hid (fun W => text_const 1 n ⟨#[]⟩ h (by show (0 : Nat) ≤ _; omega) W)
  have HT : Hid (textS 1 n ⟨#[]⟩ = it n) := Lib.hid (by unfold textS validC; rw [if_pos rfl, mk_list, if_neg (by decide), if_pos rfl])
  rw [HT.out] at HK
  go_enter Tryd.func31, Tryd.ntmps31
  go_wp2_with fail
  refine (HK.out w).mono ?_
  rintro e w2 ⟨rfl, hb2⟩
  go_wp2
  go_ret
  exact ⟨by rfl, hb2⟩

set_option maxRecDepth 20000 in
set_option maxHeartbeats 4000000 in
theorem fact_ref (p : ByteArray) (A : Option Addr) (n c : Nat) (l : List Cn) (w : World) (hr : Rd w w.heap.size 3 A n (kcells l)) (hz : ∀ z ∈ l, inI z.i ∧ fineK z) (hps : p.size ≤ 9223372036854775807) :
    Calls Tryd.prog 30 #[.agg #[.string p, .slice A n c]] w fun e w' => e = .returned (.string (factT p l)) ∧ Below w.heap.size w w' := by
  obtain ⟨i0, hi, hz0, hz1, hz2⟩ := info_parts Tryd.info9
  have hlen : l.length = n := by have := hr.1; rw [kcells_length] at this; omega
  have HR := Lib.hid hr
  have HZ := Lib.hid hz
  have HN := Lib.hid hlen
  have HW := Lib.hid (fun W h => wellFact_ref p hps A n c l W h (fun z hz' => (hz z hz').2))
  clear hr hz hlen
  obtain ⟨V, hV⟩ : ∃ V, V = factT p l := ⟨_, rfl⟩
  rw [← hV]
  have HV := Lib.hid hV
  clear hV
  go_enter Tryd.func30, Tryd.ntmps30
  go_upto_region 1 with (fail)
  have hba := (Below.refl w.heap.size w).alloc (Nat.le_refl _) (.cells #[.string p, .slice A n c] 45)
  have h1 := Blk.new w 45 [.string p, .slice A n c]
  generalize World.alloc _ _ = w1 at *
  generalize hR : w.heap.size = R at *
  have HRR := Lib.hid hR
  clear hR
  have f0 := (h1.cell 0).trans rfl
  have f1 := (h1.cell 1).trans rfl
  have HB1 := Lib.hid hba
  have H1 := Lib.hid h1
  have hs1 := h1.lt
  clear hba h1
  go_wp2_with fail
  refine (HW.out w1 (HR.out.up HB1.out (Nat.le_of_lt hs1))).mono ?_
  rintro e w2 ⟨rfl, hb2⟩
  have HB2 := Lib.hid (HB1.out.trans (hb2.mono (Nat.le_of_lt hs1)))
  have H2 := Lib.hid (H1.out.below hb2 H1.out.lt)
  clear hb2 HB1 H1 f0 f1 HW hs1
  cases hwf : wellF p l with
  | false =>
    obtain rfl : V = ⟨#[]⟩ := by rw [HV.out, factT_no hwf]
    clear HV hwf
    go_wp2
    go_ret
    exact ⟨by rfl, by rw [HRR.out]; exact HB2.out⟩
  | true =>
    obtain ⟨hnm, h8, _⟩ := wellF_parts hwf
    have hps2 := name_size hnm
    have hn8 : n ≤ 8 := by have := HN.out; omega
    have HVV : Hid (V = appS p (l.map textK)) := Lib.hid (by rw [HV.out]; exact if_pos hwf)
    clear HV hwf hnm h8
    go_upto_region 5 with (fail)
    go_loopg [3, 4] n (fun gk u3 u4 wr => ∃ k : Nat, u4 = .int .i64 k ∧ k ≤ n ∧ Hid (gk = n - k) ∧ Hid (wr.ownsRow R 9 1 u3 k (scells ((l.take k).map textK))) ∧ Hid (Below R w wr) ∧ Hid (Blk wr R 45 [.string p, .slice A n c]))
    case atStart => exact ⟨0, rfl, Nat.zero_le _, Lib.hid (by omega), Lib.hid (World.ownsRow_nil _ _ _ _), HB2, H2⟩
    case round =>
      clear HB2 H2
      obtain ⟨k, rfl, hk, HG, HO, HB, H1⟩ := hrel
      have f0 := (H1.out.cell 0).trans rfl
      have f1 := (H1.out.cell 1).trans rfl
      by_cases hlt : k < n
      · obtain ⟨b1, o1, hk1, rfl, hb1, hc⟩ := (HR.out.below HB.out).at Cn.cells 3 (fun _ => rfl) (by omega) k hlt
        have c0 := hc 0 _ (by omega) rfl
        have c1 := hc 1 _ (by omega) rfl
        have c2 := hc 2 _ (by omega) rfl
        rw [Nat.add_zero] at c0
        clear hc
        have hzk := HZ.out l[k] (List.getElem_mem hk1)
        have HTK := Lib.hid (take_snoc l k hk1)
        generalize l[k] = z at *
        obtain ⟨zk, zi, zt⟩ := z
        dsimp only at c0 c1 c2
        have HX := Lib.hid (fun W => text_const zk zi zt hzk.1 hzk.2 W)
        have HE : Hid (textK ⟨zk, zi, zt⟩ = textS zk zi zt) := Lib.hid rfl
        generalize textS zk zi zt = s at *
        clear hzk
        obtain ⟨A3, d3, rfl, hn3⟩ := own_slice HO.out
        go_wp2_with fail
        refine (HX.out wr).mono ?_
        rintro e w5 ⟨rfl, hb5⟩
        have hl := H1.out.lt
        have HB5 := Lib.hid (HB.out.trans (hb5.mono (Nat.le_of_lt hl)))
        have H5 := Lib.hid (H1.out.below hb5 hl)
        have hown := own_below HO.out hb5
        have hs5 := H5.out.lt
        clear hb5 hl HB H1 HX HO c0 c1 c2 f0 f1
        go_wp2_with (at_builtin; go_must (refine wpList_append_own _ rfl _ _ 71 rfl R 9 i0 _ 1 16 Tryd.underlying71 hi hz0 hz1 hz2 rfl (by decide) _ _ _ rfl (hown.alloc _) ⟨w5.heap.size, 0, none⟩ 1 1 [.string s] rfl rfl (fun j u h => new_cells _ _ _ j u h) (by intro u hu; simp at hu; subst hu; rfl) (by unfold maxLen; omega) (by omega) (by simp; omega) ?_))
        intro v7 w7 hown7 hg7 _
        have BL := Lib.hid ((HB5.out.alloc (Nat.le_of_lt hs5) (.cells #[.string s] 9)).grown hg7 (by simp; omega) (fun q hq => (hown.lt q hq).1))
        have V7 : Hid (w7.ownsRow R 9 1 v7 (k + 1) (scells ((l.take (k + 1)).map textK))) := Lib.hid (by rw [HTK.out]; simpa [scells, HE.out] using hown7)
        have H7 : Hid (Blk w7 R 45 [.string p, .slice (some ⟨b1, o1, none⟩) n c]) := Lib.hid ((H5.out.alloc (.cells #[.string s] 9)).grown hg7 (own_blk_ne hown H5.out (by decide)))
        clear hown7 hown hg7 HB5 hs5 H5
        go_wp2
        go_roundg (n - (k + 1))
        case measure => have := HG.out; omega
        case rel => exact ⟨k + 1, by go_num, by omega, Lib.hid rfl, V7, BL, H7⟩
      · obtain rfl : k = n := by omega
        have hall : l.take k = l := List.take_of_length_le (by have := HN.out; omega)
        rw [hall] at HO
        obtain ⟨A3, d3, rfl, hn3⟩ := own_slice HO.out
        have ka := applied_ref p A3 k d3 1022 (l.map textK) wr (by omega) (own_rd HO.out) (by omega) (by omega) (by
          intro x hx
          obtain ⟨z, hz', rfl⟩ := List.mem_map.1 hx
          exact textK_size z (HZ.out z hz').1)
        rw [← HVV.out] at ka
        clear HVV
        go_wp2_with fail
        refine ka.mono ?_
        rintro e w5 ⟨rfl, hb5⟩
        have HB5 := Lib.hid (HB.out.trans (hb5.mono (Nat.le_of_lt H1.out.lt)))
        clear hb5
        go_wp2
        go_ret
        exact ⟨by rfl, by rw [HRR.out]; exact HB5.out⟩
end Go.Proofs.YtjcgkplphiedjaaDoorT
