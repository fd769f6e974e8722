/- The document's needed predicates. -/
import Derived.Test.YtjcgkplphiedjaaL5
namespace Go.Proofs.Ytjcgkplphiedjaa
open Go.RowKit

set_option maxHeartbeats 1000000 in
theorem within18_any (A : Option Addr) (n c : Nat) (l : List ByteArray) (s : ByteArray) (w : World) (hr : Rd w w.heap.size 1 A n (scells l)) :
    Calls Try.prog 30 #[.slice A n c, .string s] w fun e w' => e = .returned (.bool (has l s)) ∧ w' = w := by
  have hl : l.length = n := by have := hr.1; rw [scells_length] at this; omega
  have HR := Lib.hid hr
  have HL := Lib.hid hl
  have hn := hr.2.1
  clear hr hl
  go_enter Try.func30, Try.ntmps30
  go_wp2
  go_loopw [5] (fun i wr => ∃ k : Nat, i = .int .i64 k ∧ k ≤ n ∧ wr = w ∧ Hid (∀ j, (h : j < l.length) → j < k → l[j].toList ≠ s.toList)) (fun i _ => n - (intOf i).toNat)
  case atStart => exact ⟨0, rfl, Nat.zero_le _, rfl, fun j _ h => absurd h (by omega)⟩
  case round =>
    obtain ⟨k, rfl, hk, rfl, hno⟩ := hrel
    by_cases hlt : k < n
    · obtain ⟨b, o, hk1, rfl, hb, c0⟩ := HR.out.str k hlt
      by_cases he : l[k].toList = s.toList
      · have he2 : (l[k].toList == s.toList) = true := by simpa using he
        have HE := Lib.hid he
        clear he
        go_wp2
        go_ret
        exact ⟨by rw [has_true k hk1 HE.out]; rfl, rfl⟩
      · have he2 : (l[k].toList == s.toList) = false := by simpa using he
        have HE := Lib.hid he
        clear he
        go_wp2
        go_roundw
        case rel => exact ⟨k + 1, by go_num, by omega, trivial, fun j h hj => by
          by_cases e : j = k
          · subst e; exact HE.out
          · exact hno.out j h (by omega)⟩
        case measure => simp [intOf]; omega
    · go_wp2
      go_ret
      exact ⟨by rw [has_false fun j h => hno.out j h (by have := HL.out; omega)]; rfl, rfl⟩

theorem asks_mem {ls : List Li} {j : Nat} (hj : j < ls.length) (h : (ls[j].k == 1 || ls[j].k == 2) = true) : ls[j].a.p ∈ asksL ls :=
  List.mem_map.2 ⟨ls[j], List.mem_filter.2 ⟨List.getElem_mem hj, h⟩, rfl⟩

/-- A list of names of one's own while it grows: what it holds of the needed ones. -/
structure Ned (cs : List Cl) (goals : List ByteArray) (b : Nat) (l : List ByteArray) : Prop where
  sound : ∀ s ∈ l, Need cs goals s
  goals : ∀ g ∈ goals, g ∈ l
  room : l.length + fresh cs l ≤ b
theorem Ned.push {cs : List Cl} {goals l : List ByteArray} {b : Nat} {c : Cl} {s : ByteArray} (h : Ned cs goals b l) (hc : c ∈ cs) (hp : Need cs goals c.h.p) (hs : s ∈ c.asks) (hn : s ∉ l) : Ned cs goals b (l ++ [s]) :=
  ⟨fun x hx => by
    rcases List.mem_append.1 hx with hx | hx
    · exact h.sound x hx
    · rw [List.mem_singleton.1 hx]; exact .step hc hp hs, fun g hg => List.mem_append_left _ (h.goals g hg), by
    have h1 := fresh_push hc hs hn
    have h2 := h.room
    simp only [List.length_append, List.length_singleton]
    omega⟩
theorem scells_append (a b : List ByteArray) : scells (a ++ b) = scells a ++ scells b := by simp [scells]

set_option maxRecDepth 20000 in
set_option maxHeartbeats 4000000 in
theorem needed_any (A A' : Option Addr) (n c m c' : Nat) (cs : List Cl) (goals : List ByteArray) (w : World) (hr : Rd w w.heap.size 4 A n (ccells cs)) (hok : ∀ x ∈ cs, Cl.ok w x) (hg : Rd w w.heap.size 1 A' m (scells goals)) (hA' : A' = none → c' = 0)
    (hbd : (m + allAsks cs) * 16 ≤ 140737488351232) :
    Calls Try.prog 29 #[.agg #[.slice A n c], .slice A' m c'] w fun e w' => ∃ A2 c2 l, e = .returned (.slice A2 l.length c2) ∧ w'.ownsRow w.heap.size 9 1 (.slice A2 l.length c2) l.length (scells l) ∧ (∀ s, s ∈ l ↔ Need cs goals s) ∧ Below w.heap.size w w' := by
  obtain ⟨i0, hi, hz0, hz1, hz2⟩ := info_parts Try.info9
  have HL := Lib.hid hr
  have HK := Lib.hid hok
  have HGL := Lib.hid hg
  have HA' := Lib.hid hA'
  have hmb := hr.2.1
  have hgb := hg.2.1
  have hlen : cs.length = n := by have := hr.1; rw [ccells_length] at this; omega
  have hglen : goals.length = m := by have := hg.1; rw [scells_length] at this; omega
  have HN := Lib.hid hlen
  have HGN := Lib.hid hglen
  clear hr hok hlen hg hA' hglen
  go_enter Try.func29, Try.ntmps29
  go_upto_region 1 with (fail)
  have hb1 := (Below.refl w.heap.size w).alloc (Nat.le_refl _) (.cells #[.slice A n c] 37)
  have h1 := Blk.new w 37 [.slice A n c]
  generalize World.alloc _ _ = w1 at *
  have hs1 := h1.lt
  generalize hR : w.heap.size = R at *
  have HRR := Lib.hid hR
  clear hR
  have HB1 := Lib.hid hb1
  have H1 := Lib.hid h1
  clear hb1 h1
  have hown0 : (w1.alloc (.cells #[] 9)).ownsRow R 9 1 (.slice (some ⟨w1.heap.size, 0, none⟩) 0 0) 0 [] := own_empty (by omega)
  have hba := (Below.refl w1.heap.size w1).alloc (Nat.le_refl _) (.cells #[] 9)
  have hbw : R ≤ (w1.alloc (.cells #[] 9)).heap.size := by have := hba.size; omega
  have HRd : Hid (Rd (w1.alloc (.cells #[] 9)) (w1.alloc (.cells #[] 9)).heap.size 1 A' m (scells goals)) := Lib.hid ((HGL.out.up HB1.out (by omega)).up hba hba.size)
  clear hba
  go_wp2_with (at_builtin; go_must (refine wpList_append_all rfl _ _ 23 rfl R 9 i0 _ 1 16 Try.underlying23 hi hz0 hz1 hz2 rfl (by decide) _ _ _ rfl hown0 A' m c' (scells goals) rfl HA'.out HRd.out (strs_one goals) (by unfold maxLen; omega) (by omega) hbw ?_))
  intro v4 w4 hown4 hg4
  rw [← HGN.out] at hown4
  have HB4 := Lib.hid ((HB1.out.alloc (by omega) (.cells #[] 9)).grown hg4 hbw (fun k hk => (hown0.lt k hk).1))
  have HX4 := Lib.hid ((H1.out.alloc (.cells #[] 9)).grown hg4 (own_blk_ne hown0 (H1.out.alloc _) (by decide)))
  have HV4 := Lib.hid hown4
  have HD4 : Hid (Ned cs goals (m + allAsks cs) goals) := Lib.hid ⟨fun s hs => .goal hs, fun g hg => hg, by have := fresh_le cs goals; have := HGN.out; omega⟩
  clear hown0 hown4 hg4 HRd hbw HB1 H1 hs1
  go_wp2
  go_loopg [5, 6] (fresh cs goals + 1) (fun gk u5 u6 wr => ∃ (l : List ByteArray) (b : Bool), u6 = .bool b ∧ Hid (gk = fresh cs l + if b then 1 else 0) ∧ Hid (Below R w wr) ∧ Hid (Blk wr R 37 [.slice A n c]) ∧ Hid (wr.ownsRow R 9 1 u5 l.length (scells l)) ∧ Hid (Ned cs goals (m + allAsks cs) l) ∧
    Hid (b = false → ∀ c ∈ cs, c.h.p ∈ l → ∀ s ∈ c.asks, s ∈ l))
  case atStart => exact ⟨goals, true, rfl, Lib.hid rfl, HB4, HX4, HV4, HD4, Lib.hid (fun h => by cases h)⟩
  case round =>
    clear HB4 HX4 HV4 HD4
    obtain ⟨l0, b0, rfl, hgk, HB, HX, HV, HD, HCL⟩ := hrel
    cases b0 with
    | false =>
      obtain ⟨A5, c5, rfl, hn5⟩ := own_slice HV.out
      go_wp2
      go_ret
      exact ⟨A5, c5, l0, rfl, by rw [HRR.out]; exact HV.out, fun s => ⟨fun hs => HD.out.sound s hs, fun hs => hs.mem HD.out.goals (HCL.out (by trivial))⟩, by rw [HRR.out]; exact HB.out⟩
    | true =>
      have HF0 : Hid (gk = fresh cs l0 + 1) := hgk
      clear hgk HCL
      go_wp2
      go_loopg [5, 6, 7] n (fun g2 u5 u6 u7 wx => ∃ (i : Nat) (l : List ByteArray) (b : Bool), u7 = .int .i64 i ∧ i ≤ n ∧ Hid (g2 = n - i) ∧ u6 = .bool b ∧ Hid (Below R w wx) ∧ Hid (Blk wx R 37 [.slice A n c]) ∧ Hid (wx.ownsRow R 9 1 u5 l.length (scells l)) ∧ Hid (Ned cs goals (m + allAsks cs) l) ∧
        Hid (b = true → fresh cs l < fresh cs l0) ∧ Hid (b = false → fresh cs l = fresh cs l0 ∧ ∀ c ∈ cs.take i, c.h.p ∈ l → ∀ s ∈ c.asks, s ∈ l))
      case atStart => exact ⟨0, l0, false, rfl, Nat.zero_le _, Lib.hid (by omega), rfl, HB, HX, HV, HD, Lib.hid (fun h => by cases h), Lib.hid (fun _ => ⟨rfl, by simp⟩)⟩
      case round =>
        clear HB HX HV HD
        obtain ⟨i, l, b, rfl, hin, HG2, rfl, HB, HX, HV, HD, HT, HFL⟩ := hrel
        have f0 := HX.out.cell 0
        simp only [List.getElem?_cons_zero] at f0
        by_cases hlt : i < n
        · obtain ⟨B', off, hk1, rfl, hB, hc⟩ := (HL.out.below HB.out).at Cl.cells 4 (fun _ => rfl) (by omega) i hlt
          have c0 := hc 0 _ (by omega) rfl
          have c1 := hc 1 _ (by omega) rfl
          have c2 := hc 2 _ (by omega) rfl
          have c3 := hc 3 _ (by omega) rfl
          rw [Nat.add_zero] at c0
          clear hc
          have hmem := List.getElem_mem hk1
          have hzk := HK.out cs[i] hmem
          have HTK := Lib.hid (take_snoc cs i hk1)
          have HMEM := Lib.hid hmem
          clear hmem
          generalize cs[i] = z at *
          have HZ : Hid (Rd w R 14 z.A z.n (lcells z.ls)) := Lib.hid (by rw [← HRR.out]; exact hzk.2.1)
          have hznb := hzk.2.1.2.1
          have hzlen : z.ls.length = z.n := by have := hzk.2.1.1; rw [lcells_length] at this; omega
          have HZN := Lib.hid hzlen
          clear hzk hzlen
          go_upto_region 9 with (fail)
          clear f0 c0 c1 c2 c3
          obtain ⟨⟨zp, zA, zn, zc, zo, zes⟩, zB, zm, zd, zls⟩ := z
          dsimp only at HZ hznb HZN
          have hsz := HX.out.lt
          have HB2 := Lib.hid (HB.out.alloc (by omega) (.cells #[.string zp, .slice zA zn zc, .int .i64 zo, .slice zB zm zd] 45))
          have HX2 := Lib.hid (HX.out.alloc (.cells #[.string zp, .slice zA zn zc, .int .i64 zo, .slice zB zm zd] 45))
          have HV2 := Lib.hid (HV.out.alloc (.cells #[.string zp, .slice zA zn zc, .int .i64 zo, .slice zB zm zd] 45))
          have HY2 := Lib.hid (Blk.new wr 45 [.string zp, .slice zA zn zc, .int .i64 zo, .slice zB zm zd])
          have hQ : R < wr.heap.size := hsz
          clear HB HX HV hsz
          generalize World.alloc _ _ = wa at *
          generalize wr.heap.size = Q at *
          obtain ⟨A5, c5, rfl, hn5⟩ := own_slice HV2.out
          have y0 := HY2.out.cell 0
          simp only [List.getElem?_cons_zero] at y0
          go_wp2_with fail
          refine (within18_any A5 l.length c5 l zp wa (own_rd HV2.out)).mono ?_
          rintro e w9 ⟨rfl, hw9⟩
          rw [hw9]
          clear hw9 y0
          by_cases hp : zp ∈ l
          · have hh := has_iff.2 hp
            have HNEED := Lib.hid (HD.out.sound zp hp)
            rw [hh]
            clear hh hp
            go_wp2
            go_loopg [5, 6, 9] zm (fun g3 u5 u6 u9 wy => ∃ (j : Nat) (l' : List ByteArray) (b' : Bool), u9 = .int .i64 j ∧ j ≤ zm ∧ Hid (g3 = zm - j) ∧ u6 = .bool b' ∧ Hid (Below R w wy) ∧ Hid (Blk wy R 37 [.slice (some ⟨B', off, none⟩) n c]) ∧ Hid (Blk wy Q 45 [.string zp, .slice zA zn zc, .int .i64 zo, .slice zB zm zd]) ∧
              Hid (wy.ownsRow R 9 1 u5 l'.length (scells l')) ∧ Hid (Ned cs goals (m + allAsks cs) l') ∧ Hid (b' = true → fresh cs l' < fresh cs l0) ∧
              Hid (b' = false → fresh cs l' = fresh cs l0 ∧ (∀ c ∈ cs.take i, c.h.p ∈ l' → ∀ s ∈ c.asks, s ∈ l') ∧ ∀ s ∈ asksL (zls.take j), s ∈ l'))
            case atStart => exact ⟨0, l, b, rfl, Nat.zero_le _, Lib.hid (by omega), rfl, HB2, HX2, HY2, HV2, HD, HT, Lib.hid fun h => ⟨(HFL.out h).1, (HFL.out h).2, by simp [asksL]⟩⟩
            case round =>
              clear HB2 HX2 HY2 HV2 HD HT HFL
              obtain ⟨j, l', b', rfl, hjm, HG3, rfl, HB, HX, HY, HV, HD, HT, HFL⟩ := hrel
              obtain ⟨A6, c6, rfl, hn6⟩ := own_slice HV.out
              have y3 := HY.out.cell 3
              simp only [List.getElem?_cons_zero, List.getElem?_cons_succ] at y3
              by_cases hlt3 : j < zm
              · obtain ⟨B2, off2, hj1, rfl, hB2, hc⟩ := (HZ.out.below HB.out).at Li.cells 14 (fun _ => rfl) (by omega) j hlt3
                have c0 := hc 0 _ (by omega) rfl
                have c1 := hc 1 _ (by omega) rfl
                have c2 := hc 2 _ (by omega) rfl
                have c3 := hc 3 _ (by omega) rfl
                have c4 := hc 4 _ (by omega) rfl
                have c5' := hc 5 _ (by omega) rfl
                have c6' := hc 6 _ (by omega) rfl
                have c7 := hc 7 _ (by omega) rfl
                have c8 := hc 8 _ (by omega) rfl
                have c9 := hc 9 _ (by omega) rfl
                have c10 := hc 10 _ (by omega) rfl
                have c11 := hc 11 _ (by omega) rfl
                have c12 := hc 12 _ (by omega) rfl
                have c13 := hc 13 _ (by omega) rfl
                rw [Nat.add_zero] at c0
                clear hc
                have HTJ := Lib.hid (asksL_snoc hj1)
                have HAM : Hid ((zls[j].k == 1 || zls[j].k == 2) = true → zls[j].a.p ∈ asksL zls) := Lib.hid (asks_mem hj1)
                go_upto_region 14 with (fail)
                clear y3
                have hsz := HX.out.lt
                have hszQ := HY.out.lt
                have HB3 := Lib.hid (HB.out.alloc (by omega) (.cells (zls[j]).cells.toArray 61))
                have HX3 := Lib.hid (HX.out.alloc (.cells (zls[j]).cells.toArray 61))
                have HY3 := Lib.hid (HY.out.alloc (.cells (zls[j]).cells.toArray 61))
                have HV3 := Lib.hid (HV.out.alloc (.cells (zls[j]).cells.toArray 61))
                have HP3 := Lib.hid (Blk.new wr 61 (zls[j]).cells)
                simp only [Li.cells] at HB3 HX3 HY3 HV3 HP3
                clear c0 c1 c2 c3 c4 c5' c6' c7 c8 c9 c10 c11 c12 c13 HB HX HY HV hsz hszQ
                generalize zls[j] = y at *
                obtain ⟨yk, ⟨yp, yA, yn, yc, yo, yes⟩, yop, yl, yr, yof⟩ := y
                dsimp only at HB3 HX3 HY3 HV3 HP3 HTJ HAM
                generalize World.alloc _ _ = wb at *
                generalize wr.heap.size = P at *
                have x0 := HP3.out.cell 0
                have x1 := HP3.out.cell 1
                simp only [List.getElem?_cons_zero, List.getElem?_cons_succ] at x0 x1
                have hkk : (yk == 1) = true ∨ ((yk == 1) = false ∧ (yk == 2) = true) ∨ ((yk == 1) = false ∧ (yk == 2) = false) := by
                  cases (yk == 1) <;> cases (yk == 2) <;> simp
                rcases hkk with hk1' | ⟨hk1', hk2'⟩ | ⟨hk1', hk2'⟩
                rotate_left 2
                · have HTE : Hid (asksL (zls.take (j + 1)) = asksL (zls.take j)) := Lib.hid (by rw [HTJ.out, hk1', hk2']; simp)
                  clear HTJ HAM
                  go_wp2
                  go_roundg (zm - (j + 1))
                  case measure => have := HG3.out; omega
                  case rel => exact ⟨j + 1, l', b', by go_num, by omega, Lib.hid rfl, rfl, HB3, HX3, HY3, HV3, HD, HT, by rw [HTE.out]; exact HFL⟩
                all_goals
                  have hkor : (yk == 1 || yk == 2) = true := by first | rw [hk1', Bool.true_or] | rw [hk1', hk2', Bool.false_or]
                  have HTE : Hid (asksL (zls.take (j + 1)) = asksL (zls.take j) ++ [yp]) := Lib.hid (by rw [HTJ.out, hkor, if_pos rfl])
                  have HAY : Hid (yp ∈ asksL zls) := Lib.hid (HAM.out hkor)
                  clear HTJ HAM hkor
                  go_wp2_with fail
                  refine (within18_any A6 l'.length c6 l' yp wb (own_rd HV3.out)).mono ?_
                  rintro e w9 ⟨rfl, hw9⟩
                  rw [hw9]
                  clear hw9
                  by_cases hp : yp ∈ l'
                  · have hh := has_iff.2 hp
                    rw [hh]
                    have HP := Lib.hid hp
                    clear hh hp
                    go_wp2
                    go_roundg (zm - (j + 1))
                    case measure => have := HG3.out; omega
                    case rel => exact ⟨j + 1, l', b', by go_num, by omega, Lib.hid rfl, rfl, HB3, HX3, HY3, HV3, HD, HT, Lib.hid fun h => ⟨(HFL.out h).1, (HFL.out h).2.1, by
                      rw [HTE.out]; intro s hs
                      rcases List.mem_append.1 hs with hs | hs
                      · exact (HFL.out h).2.2 s hs
                      · rw [List.mem_singleton.1 hs]; exact HP.out⟩⟩
                  · have hh := has_not hp
                    rw [hh]
                    have HP := Lib.hid hp
                    clear hh hp
                    have hown := HV3.out
                    have hrm : l'.length + 1 ≤ m + allAsks cs := by
                      have h1 := fresh_push (c := ⟨⟨zp, zA, zn, zc, zo, zes⟩, some ⟨B2, off2, none⟩, zm, zd, zls⟩) HMEM.out HAY.out HP.out
                      have h2 := HD.out.room
                      omega
                    have hlw := HP3.out.lt
                    have hlx := HX3.out.lt
                    go_wp2_with (at_builtin; go_must (refine wpList_append_own _ rfl _ _ 23 rfl R 9 i0 _ 1 16 Try.underlying23 hi hz0 hz1 hz2 rfl (by decide) _ _ _ rfl (hown.alloc _) ⟨wb.heap.size, 0, none⟩ 1 1 [.string yp] rfl rfl (fun j u h => new_cells _ _ _ j u h) (str_one yp) (by unfold maxLen; omega) (by omega) (by simp; omega) ?_))
                    intro v7 w7 hown7 hg7 _
                    have HX7 := Lib.hid ((HX3.out.alloc (.cells #[.string yp] 9)).grown hg7 (own_blk_ne hown HX3.out (by decide)))
                    have HY7 := Lib.hid ((HY3.out.alloc (.cells #[.string yp] 9)).grown hg7 (own_blk_ne hown HY3.out (by decide)))
                    have HB7 := Lib.hid ((HB3.out.alloc (by omega) (.cells #[.string yp] 9)).grown hg7 (by simp; omega) (fun q hq => (hown.lt q hq).1))
                    have HV7 : Hid (w7.ownsRow R 9 1 v7 (l' ++ [yp]).length (scells (l' ++ [yp]))) := Lib.hid (by rw [scells_append, List.length_append]; simpa [scells] using hown7)
                    have HD7 : Hid (Ned cs goals (m + allAsks cs) (l' ++ [yp])) := Lib.hid (HD.out.push HMEM.out HNEED.out HAY.out HP.out)
                    have HT7 : Hid (fresh cs (l' ++ [yp]) < fresh cs l0) := Lib.hid (by
                      have h1 := fresh_push (c := ⟨⟨zp, zA, zn, zc, zo, zes⟩, some ⟨B2, off2, none⟩, zm, zd, zls⟩) HMEM.out HAY.out HP.out
                      cases b' with
                      | true => have := HT.out rfl; omega
                      | false => have := (HFL.out rfl).1; omega)
                    clear hown hown7 hg7 HX3 HY3 HB3 HV3 HD HT HFL HP3 x0 x1 hlw hlx
                    go_wp2
                    go_roundg (zm - (j + 1))
                    case measure => have := HG3.out; omega
                    case rel => exact ⟨j + 1, l' ++ [yp], true, by go_num, by omega, Lib.hid rfl, rfl, HB7, HX7, HY7, HV7, HD7, Lib.hid fun _ => HT7.out, Lib.hid fun h => by cases h⟩
              · obtain rfl : j = zm := by omega
                have hall : zls.take j = zls := List.take_of_length_le (by have := HZN.out; omega)
                have HFL2 : Hid (b' = false → fresh cs l' = fresh cs l0 ∧ ∀ c ∈ cs.take (i + 1), c.h.p ∈ l' → ∀ s ∈ c.asks, s ∈ l') := Lib.hid fun h => ⟨(HFL.out h).1, fun c hc hcp s hs => by
                  rw [HTK.out] at hc
                  rcases List.mem_append.1 hc with hc | hc
                  · exact (HFL.out h).2.1 c hc hcp s hs
                  · rw [List.mem_singleton.1 hc] at hs
                    have := (HFL.out h).2.2
                    rw [hall] at this
                    exact this s hs⟩
                clear hall HFL
                go_wp2
                go_roundg (n - (i + 1))
                case measure => have := HG2.out; omega
                case rel => exact ⟨i + 1, l', b', by go_num, by omega, Lib.hid rfl, rfl, HB, HX, HV, HD, HT, HFL2⟩
          · have hh := has_not hp
            rw [hh]
            have HFL2 : Hid (b = false → fresh cs l = fresh cs l0 ∧ ∀ c ∈ cs.take (i + 1), c.h.p ∈ l → ∀ s ∈ c.asks, s ∈ l) := Lib.hid fun h => ⟨(HFL.out h).1, fun c hc hcp s hs => by
              rw [HTK.out] at hc
              rcases List.mem_append.1 hc with hc | hc
              · exact (HFL.out h).2 c hc hcp s hs
              · rw [List.mem_singleton.1 hc] at hcp
                exact absurd hcp hp⟩
            clear hh hp HFL
            go_wp2
            go_roundg (n - (i + 1))
            case measure => have := HG2.out; omega
            case rel => exact ⟨i + 1, l, b, by go_num, by omega, Lib.hid rfl, rfl, HB2, HX2, HV2, HD, HT, HFL2⟩
        · obtain rfl : i = n := by omega
          have hall : cs.take i = cs := List.take_of_length_le (by have := HN.out; omega)
          rw [hall] at HFL
          clear hall
          go_wp2
          go_roundg (fresh cs l + if b then 1 else 0)
          case measure =>
            have h0 := HF0.out
            cases b with
            | true => have := HT.out rfl; simp; omega
            | false => have := (HFL.out rfl).1; simp; omega
          case rel => exact ⟨l, b, rfl, Lib.hid rfl, HB, HX, HV, HD, Lib.hid fun h => (HFL.out h).2⟩
end Go.Proofs.Ytjcgkplphiedjaa
