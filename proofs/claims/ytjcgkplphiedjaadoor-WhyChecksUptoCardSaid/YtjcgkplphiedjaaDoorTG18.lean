/- strconv.Quote laid in plain words by the kit's own tool; a fact's key, the program's. | Equal facts, the document's and the program's. -/
import Derived.Shelf.Strconv.Quote
import Derived.Test.YtjcgkplphiedjaaDoorTG16
import Derived.Test.YtjcgkplphiedjaaDoorTG17
namespace Go.Proofs
open Go.Shelf
def Tryd.lays177_ren : Go.Shelf.Ren := ⟨fun | 177 => 90 | 250 => 104 | 289 => 119 | 197 => 128 | 323 => 129 | 260 => 133 | 339 => 134 | 340 => 135 | 242 => 136 | 119 => 137 | 345 => 138 | 346 => 139 | 278 => 140 | n => n, fun | 9 => 9 | 5 => 5 | 4 => 4 | 3 => 3 | 37 => 57 | 21 => 21 | 105 => 167 | 46 => 137 | 119 => 175 | 0 => 0 | 139 => 178 | 138 => 177 | 49 => 179 | 234 => 180 | 131 => 181 | 51 => 156 | 236 => 183 | n => n, fun | 3 => 4 | 4 => 5 | 20 => 6 | 21 => 7 | 22 => 8 | 23 => 9 | 24 => 10 | n => n⟩
theorem Tryd.lays177 : Go.Proofs.Lays.n177 Tryd.prog Tryd.lays177_ren := {
  mixed := by kernel_rfl
  f119 := Tryd.func137.trans (congrArg some (by kernel_rfl))
  f177 := Tryd.func90.trans (congrArg some (by kernel_rfl))
  f197 := Tryd.func128.trans (congrArg some (by kernel_rfl))
  f242 := Tryd.func136.trans (congrArg some (by kernel_rfl))
  f250 := Tryd.func104.trans (congrArg some (by kernel_rfl))
  f260 := Tryd.func133.trans (congrArg some (by kernel_rfl))
  f278 := Tryd.func140.trans (congrArg some (by kernel_rfl))
  f289 := Tryd.func119.trans (congrArg some (by kernel_rfl))
  f323 := Tryd.func129.trans (congrArg some (by kernel_rfl))
  f339 := Tryd.func134.trans (congrArg some (by kernel_rfl))
  f340 := Tryd.func135.trans (congrArg some (by kernel_rfl))
  f345 := Tryd.func138.trans (congrArg some (by kernel_rfl))
  f346 := Tryd.func139.trans (congrArg some (by kernel_rfl))
  t0 := Tryd.underlying0
  a0 := Tryd.isAgg0
  z0 := Tryd.sizeOf0
  v0 := Tryd.zeroValue0
  t3 := Tryd.underlying3
  a3 := Tryd.isAgg3
  z3 := Tryd.sizeOf3
  v3 := Tryd.zeroValue3
  t4 := Tryd.underlying4
  a4 := Tryd.isAgg4
  z4 := Tryd.sizeOf4
  v4 := Tryd.zeroValue4
  t5 := Tryd.underlying5
  a5 := Tryd.isAgg5
  z5 := Tryd.sizeOf5
  v5 := Tryd.zeroValue5
  t9 := Tryd.underlying9
  a9 := Tryd.isAgg9
  z9 := Tryd.sizeOf9
  v9 := Tryd.zeroValue9
  t21 := Tryd.underlying21
  a21 := Tryd.isAgg21
  z21 := Tryd.sizeOf21
  v21 := Tryd.zeroValue21
  t37 := Tryd.underlying57
  a37 := Tryd.isAgg57
  z37 := Tryd.sizeOf57
  v37 := Tryd.zeroValue57
  t46 := Tryd.underlying137
  a46 := Tryd.isAgg137
  z46 := Tryd.sizeOf137
  v46 := Tryd.zeroValue137
  t49 := Tryd.underlying179
  a49 := Tryd.isAgg179
  z49 := Tryd.sizeOf179
  v49 := Tryd.zeroValue179
  t51 := Tryd.underlying156
  a51 := Tryd.isAgg156
  z51 := Tryd.sizeOf156
  v51 := Tryd.zeroValue156
  t105 := Tryd.underlying167
  a105 := Tryd.isAgg167
  z105 := Tryd.sizeOf167
  v105 := Tryd.zeroValue167
  t119 := Tryd.underlying175
  a119 := Tryd.isAgg175
  z119 := Tryd.sizeOf175
  t131 := Tryd.underlying181
  a131 := Tryd.isAgg181
  z131 := Tryd.sizeOf181
  v131 := Tryd.zeroValue181
  t138 := Tryd.underlying177
  a138 := Tryd.isAgg177
  z138 := Tryd.sizeOf177
  v138 := Tryd.zeroValue177
  t139 := Tryd.underlying178
  a139 := Tryd.isAgg178
  z139 := Tryd.sizeOf178
  v139 := Tryd.zeroValue178
  t234 := Tryd.underlying180
  a234 := Tryd.isAgg180
  z234 := Tryd.sizeOf180
  v234 := Tryd.zeroValue180
  t236 := Tryd.underlying183
  a236 := Tryd.isAgg183
  z236 := Tryd.sizeOf183
  v236 := Tryd.zeroValue183
  g3 := by kernel_rfl
  g4 := by kernel_rfl
  g20 := by kernel_rfl
  g21 := by kernel_rfl
  g22 := by kernel_rfl
  g23 := by kernel_rfl
  g24 := by kernel_rfl }
end Go.Proofs
namespace Go.Proofs.YtjcgkplphiedjaaDoorT
open Go.RowKit Go.Sort

/-- The tables that strconv reads. -/
def Tabs (T : Lib.PrintTabs) (w : World) : Prop :=
  Lib.PrintTabsAt (Tryd.lays177_ren.g 20) (Tryd.lays177_ren.g 21) (Tryd.lays177_ren.g 22) (Tryd.lays177_ren.g 23) T w ∧ Lib.Utf8Tabs (Tryd.lays177_ren.g 3) (Tryd.lays177_ren.g 4) w
theorem cell_under {w w' : World} {p : Addr} {v : Value} (h : w.cell? p = some v) (hb : Below w.heap.size w w') : w'.cell? p = some v :=
  (hb.cell (World.block_lt_of_cell? w p h)).trans h
theorem tab_under {g : Nat} {k : IntKind} {t : List Nat} {w w' : World} (h : Lib.TabSlice g k t w) (hb : Below w.heap.size w w') : Lib.TabSlice g k t w' := by
  obtain ⟨R, o, c, h1, h2⟩ := h
  exact ⟨R, o, c, cell_under h1 hb, fun j hj => cell_under (h2 j hj) hb⟩
theorem Tabs.below {T : Lib.PrintTabs} {w w' : World} (h : Tabs T w) (hb : Below w.heap.size w w') : Tabs T w' := by
  obtain ⟨⟨a, b, c, d, e⟩, u, v⟩ := h
  exact ⟨⟨tab_under a hb, tab_under b hb, tab_under c hb, tab_under d hb, e⟩, fun i hi => cell_under (u i hi) hb, fun i hi => ⟨cell_under (v i hi).1 hb, cell_under (v i hi).2 hb⟩⟩
/-- All tables stay whatever is done from block R on. -/
def LB (R : Nat) (T : Lib.PrintTabs) (w : World) : Prop := ∀ w', Below R w w' → Tabs T w' ∧ Pow w'
theorem LB.of {R : Nat} {T : Lib.PrintTabs} {w : World} (h : Tabs T w) (hp : Pow w) (hR : w.heap.size = R) : LB R T w := fun _ hb => ⟨h.below (hR ▸ hb), YtjcgkplphiedjaaDoor.Pow.below hp (hR ▸ hb)⟩
theorem LB.below {R : Nat} {T : Lib.PrintTabs} {w w' : World} (h : LB R T w) (hb : Below R w w') : LB R T w' := fun w'' hb' => h w'' (hb.trans hb')
theorem LB.mono {R R' : Nat} {T : Lib.PrintTabs} {w : World} (h : LB R T w) (hR : R ≤ R') : LB R' T w := fun w' hb => h w' (hb.mono hR)
theorem LB.tabs {R : Nat} {T : Lib.PrintTabs} {w : World} (h : LB R T w) : Tabs T w ∧ Pow w := h w (Below.refl _ _)

theorem quote_size (T : Lib.PrintTabs) (s : ByteArray) : (strOfNums (Lib.quoteZ T s)).size ≤ 10 * s.size + 2 := by
  have h := Lib.quoteFrom_length_le T s.size s
  show Array.size _ ≤ _
  simp only [List.size_toArray, List.length_map, Lib.quoteZ, List.length_cons, List.length_append, List.length_nil]
  omega
theorem quote_any (T : Lib.PrintTabs) (s : ByteArray) (w : World) (hs : s.size ≤ 1048576) (ht : Tabs T w) :
    Calls Tryd.prog 90 #[.string s] w fun e w' => e = .returned (.string (strOfNums (Lib.quoteZ T s))) ∧ Below w.heap.size w w' :=
  Any.strconv_Quote Tryd.lays177 Tryd.info5 T s w (by omega) ht.1 ht.2

/-- What a key can be made of. -/
def keyK (z : Cn) : Prop := inI z.k ∧ inI z.i ∧ z.t.size ≤ 1048576
theorem argB_length (T : Lib.PrintTabs) (z : Cn) (h : keyK z) : (argB T z).length ≤ 10485830 := by
  have h1 := it_size z.k h.1
  have h2 := it_size z.i h.2.1
  have h3 := quote_size T z.t
  have h4 := h.2.2
  rw [toList_size] at h1 h2 h3
  unfold argB qB
  simp only [List.length_cons, List.length_append]
  omega
theorem args_length (T : Lib.PrintTabs) : ∀ l : List Cn, (∀ z ∈ l, keyK z) → (l.flatMap (argB T)).length ≤ l.length * 10485830
  | [], _ => by simp
  | z :: l, h => by
    have h1 := argB_length T z (h z (by simp))
    have h2 := args_length T l fun y hy => h y (List.mem_cons_of_mem _ hy)
    rw [List.flatMap_cons, List.length_append, List.length_cons, Nat.succ_mul]
    omega
theorem keyB_take (T : Lib.PrintTabs) (p : ByteArray) (l : List Cn) (k : Nat) (h : k < l.length) : keyB T p (l.take (k + 1)) = keyB T p (l.take k) ++ argB T l[k] := by
  unfold keyB
  rw [take_snoc l k h, List.flatMap_append, List.append_assoc]
  simp

set_option maxRecDepth 20000 in
set_option maxHeartbeats 8000000 in
theorem key_any (T : Lib.PrintTabs) (p : ByteArray) (A : Option Addr) (n c : Nat) (l : List Cn) (w : World) (hr : Rd w w.heap.size 3 A n (kcells l)) (hz : ∀ z ∈ l, keyK z) (hps : p.size ≤ 1048576) (hn : n ≤ 1048576) (ht : Tabs T w) (hp : Pow w) :
    Calls Tryd.prog 67 #[.agg #[.string p, .slice A n c]] w fun e w' => e = .returned (.string ⟨(keyB T p l).toArray⟩) ∧ Below w.heap.size w w' := by
  have hlen : l.length = n := by have := hr.1; rw [kcells_length] at this; omega
  have HR := Lib.hid hr
  have HZ := Lib.hid hz
  have HN := Lib.hid hlen
  have HL := Lib.hid (LB.of ht hp rfl)
  clear hr hz hlen ht hp
  go_enter Tryd.func67, Tryd.ntmps67
  go_upto_region 1 with (fail)
  have hba := (Below.refl w.heap.size w).alloc (Nat.le_refl _) (.cells #[.string p, .slice A n c] 45)
  have H1 := Lib.hid (Blk.new w 45 [.string p, .slice A n c])
  generalize World.alloc _ _ = w1 at *
  have HB1 := Lib.hid hba
  clear hba
  generalize hR : w.heap.size = R at *
  have HRR := Lib.hid hR
  clear hR
  go_upto_region 2 with (fail)
  have HI := Lib.hid (Lib.fresh_isBuilder 59 5 w1)
  have hba := (Below.refl w1.heap.size w1).alloc (Nat.le_refl _) (.cells #[.pointer none, .slice none 0 0] 59)
  generalize World.alloc _ _ = w2 at *
  have H2 := Lib.hid (H1.out.below hba H1.out.lt)
  have hs1 := H1.out.lt
  have HB2 := Lib.hid (HB1.out.trans (hba.mono (Nat.le_of_lt hs1)))
  clear hba H1 HB1
  generalize hG : w1.heap.size = G at *
  clear hG
  have HF := H2.out
  have f0 := (HF.cell 0).trans rfl
  have f1 := (HF.cell 1).trans rfl
  clear HF
  have hq := quote_size T p
  generalize hQ : strOfNums (Lib.quoteZ T p) = Q at *
  have HQ : Hid (Q.toList = keyB T p (l.take 0)) := Lib.hid (by rw [← hQ]; simp [keyB, qB])
  have KQ := quote_any T p w2 hps (HL.out w2 HB2.out).1
  rw [hQ] at KQ
  clear hQ
  go_wp2_with fail
  refine KQ.mono ?_
  rintro e w3 ⟨rfl, hb3⟩
  have H3 := Lib.hid (H2.out.below hb3 H2.out.lt)
  have HI3 := Lib.hid (YtjcgkplphiedjaaDoor.isb_below HI.out hb3)
  have HB3 := Lib.hid (HB2.out.trans (hb3.mono (Nat.le_of_lt (Nat.lt_of_lt_of_le hs1 (Nat.le_of_lt (YtjcgkplphiedjaaDoor.isb_lt HI.out))))))
  clear hb3 H2 HI HB2 KQ f0 f1
  go_wp2_with fail
  refine (wStr0 G Q w3 HI3.out (by omega)).mono ?_
  rintro e w4 ⟨rfl, h4, hb4, _⟩
  rw [HQ.out] at h4
  have HU4 := Lib.hid h4
  have H4 := Lib.hid (H3.out.below hb4 hs1)
  have HB4 := Lib.hid (HB3.out.trans (hb4.mono (Nat.le_of_lt hs1)))
  clear h4 hb4 H3 HI3 HB3
  have f1 := (H4.out.cell 1).trans rfl
  go_upto_region 4 with (fail)
  clear f1
  go_loopg [13] n (fun gk u13 wr => ∃ (k : Nat), u13 = .int .i64 k ∧ k ≤ n ∧ Hid (gk = n - k) ∧ Hid (BU G (keyB T p (l.take k)) wr) ∧ Hid (Below R w wr))
  case atStart => exact ⟨0, rfl, Nat.zero_le _, Lib.hid (by omega), HU4, HB4⟩
  case round =>
    clear HU4 HB4 H4 HQ hq
    obtain ⟨k, rfl, hk, HG, HU, HB⟩ := hrel
    have hsR := HU.out.lt
    by_cases hlt : k < n
    · obtain ⟨b1, o1, hk1, rfl, hb1, hc⟩ := (HR.out.below HB.out).at Cn.cells 3 (fun _ => rfl) (by omega) k hlt
      have c0 := hc 0 _ (by omega) rfl
      have c1 := hc 1 _ (by omega) rfl
      have c2 := hc 2 _ (by omega) rfl
      rw [Nat.add_zero] at c0
      clear hc
      have hzk := HZ.out l[k] (List.getElem_mem hk1)
      have HST := Lib.hid (keyB_take T p l k hk1)
      have hkl : (keyB T p (l.take k)).length ≤ 10485762 + 1048576 * 10485830 := by
        have h1 := args_length T (l.take k) fun z hz => HZ.out z (List.mem_of_mem_take hz)
        rw [List.length_take] at h1
        have h2 : min k l.length * 10485830 ≤ 1048576 * 10485830 := Nat.mul_le_mul_right _ (by omega)
        have h3 := quote_size T p
        rw [toList_size] at h3
        unfold keyB qB
        rw [List.length_append]
        omega
      generalize l[k] = z at *
      obtain ⟨zk, zi, zt⟩ := z
      dsimp only at c0 c1 c2
      have ha1 := it_size zk hzk.1
      have ha2 := it_size zi hzk.2.1
      have ha3 := quote_size T zt
      have ha4 : zt.size ≤ 1048576 := hzk.2.2
      have HK1 := Lib.hid (fun W h => itoa_w zk hzk.1 W h)
      have HK2 := Lib.hid (fun W h => format_any zi hzk.2.1 W h)
      have HK3 := Lib.hid (fun W h => quote_any T zt W hzk.2.2 h)
      have HAB : Hid (argB T ⟨zk, zi, zt⟩ = [32] ++ ((it zk).toList ++ ([32] ++ ((it zi).toList ++ ([32] ++ (strOfNums (Lib.quoteZ T zt)).toList))))) := Lib.hid rfl
      clear hzk
      generalize argB T ⟨zk, zi, zt⟩ = AB at *
      generalize it zk = D1 at *
      generalize it zi = D2 at *
      generalize strOfNums (Lib.quoteZ T zt) = D3 at *
      have h32 : (⟨#[32]⟩ : ByteArray).size = 1 := rfl
      have s1 := app_size ⟨#[32]⟩ D1
      have s2 := app_size (⟨#[32]⟩ ++ D1) ⟨#[32]⟩
      have s3 := app_size ((⟨#[32]⟩ ++ D1) ++ ⟨#[32]⟩) D2
      have s4 := app_size (((⟨#[32]⟩ ++ D1) ++ ⟨#[32]⟩) ++ D2) ⟨#[32]⟩
      have s5 := app_size ((((⟨#[32]⟩ ++ D1) ++ ⟨#[32]⟩) ++ D2) ++ ⟨#[32]⟩) D3
      have ks := fun W (hW : BU G (keyB T p (l.take k)) W) => wStr G _ (((((⟨#[32]⟩ ++ D1) ++ ⟨#[32]⟩) ++ D2) ++ ⟨#[32]⟩) ++ D3) W hW (by omega)
      have HE : Hid (keyB T p (l.take k) ++ (((((⟨#[32]⟩ ++ D1) ++ ⟨#[32]⟩) ++ D2) ++ ⟨#[32]⟩) ++ D3 : ByteArray).toList = keyB T p (l.take (k + 1))) := Lib.hid (by
        rw [HST.out, HAB.out, toList_append, toList_append, toList_append, toList_append, toList_append, mk_list [32]]; simp only [List.append_assoc])
      rw [HE.out] at ks
      have KS := Lib.hid ks
      clear ks HST HAB HE
      go_upto_region 6 with (fail)
      have hbz := ((Below.refl wr.heap.size wr).alloc (Nat.le_refl _) (.cells #[.int .i64 zk, .int .i64 zi, .string zt] 68)).drew
      have HC0 := Lib.hid (Blk.new wr 68 [.int .i64 zk, .int .i64 zi, .string zt]).drew
      clear c0 c1 c2
      generalize hwd : World.alloc _ _ = wd at *
      clear hwd
      have HU1 := Lib.hid (HU.out.below hbz)
      have HB1 := Lib.hid (HB.out.trans (hbz.mono (Nat.le_of_lt (Nat.lt_trans hs1 hsR))))
      clear hbz HU HB
      generalize hZ : wr.heap.size = Z at *
      clear hZ
      obtain ⟨C, hCi⟩ : ∃ C : World → Prop, ∀ w', C w' ↔ Blk w' Z 68 [.int .i64 zk, .int .i64 zi, .string zt] := ⟨_, fun _ => Iff.rfl⟩
      have k0 : ∀ q : WC C, q.w.cell? ⟨Z, 0, none⟩ = some (.int .i64 zk) := fun q => ((hCi _).1 q.h).cell 0
      have k1 : ∀ q : WC C, q.w.cell? ⟨Z, 1, none⟩ = some (.int .i64 zi) := fun q => ((hCi _).1 q.h).cell 1
      have k2 : ∀ q : WC C, q.w.cell? ⟨Z, 2, none⟩ = some (.string zt) := fun q => ((hCi _).1 q.h).cell 2
      have kn : Nonempty (WC C) := ⟨⟨_, (hCi _).2 HC0.out⟩⟩
      refine wp_region_frontN C [0, 1, 5, 6, 10, 11] 9 (fun j => decide (j < 15)) (by kernel_rfl) (fun _ _ d _ _ h => by cases d <;> exact h) (by kernel_rfl) ((hCi _).2 HC0.out) ?_
      simp only [List.map_cons, List.map_nil, List.getD_cons_zero, List.getD_cons_succ]
      repeat (go_big_quiet_step (fail))
      refine wpQuiet_nil ?_
      clear k0 k1 k2 kn
      have HCi := Lib.hid hCi
      clear hCi
      generalize wd.drew = d0 at *
      refine wpN_one (i := 2) (by kernel_rfl) rfl ?_
      go_wp2_with fail
      refine (HK1.out d0 (HL.out d0 HB1.out).2).mono ?_
      rintro e d1 ⟨rfl, hb⟩
      have HC1 := Lib.hid (HC0.out.below hb HC0.out.lt)
      have HU2 := Lib.hid (HU1.out.below hb)
      have HB2 := Lib.hid (HB1.out.trans (hb.mono (Nat.le_of_lt (Nat.lt_trans hs1 HU1.out.lt))))
      clear hb HC0 HU1 HB1
      go_wp2
      refine tailN_normal ((HCi.out _).2 HC1.out) ?_
      have kn : Nonempty (WC C) := ⟨⟨_, (HCi.out _).2 HC1.out⟩⟩
      refine wpN_frontW C [3, 4] 6 _ (fun _ _ d _ _ h => by cases d <;> exact h) (by kernel_rfl) ((HCi.out _).2 HC1.out) ?_
      simp only [List.map_cons, List.map_nil, List.getD_cons_zero, List.getD_cons_succ]
      repeat (go_big_quiet_step (fail))
      refine wpQuiet_nil ?_
      clear kn
      refine wpN_one (i := 7) (by kernel_rfl) rfl ?_
      go_wp2_with fail
      refine (HK2.out d1 (HL.out d1 HB2.out).2).mono ?_
      rintro e d2 ⟨rfl, hb⟩
      have HC2 := Lib.hid (HC1.out.below hb HC1.out.lt)
      have HU3 := Lib.hid (HU2.out.below hb)
      have HB3 := Lib.hid (HB2.out.trans (hb.mono (Nat.le_of_lt (Nat.lt_trans hs1 HU2.out.lt))))
      clear hb HC1 HU2 HB2
      go_wp2
      refine tailN_normal ((HCi.out _).2 HC2.out) ?_
      have kn : Nonempty (WC C) := ⟨⟨_, (HCi.out _).2 HC2.out⟩⟩
      refine wpN_frontW C [8, 9] 3 _ (fun _ _ d _ _ h => by cases d <;> exact h) (by kernel_rfl) ((HCi.out _).2 HC2.out) ?_
      simp only [List.map_cons, List.map_nil, List.getD_cons_zero, List.getD_cons_succ]
      repeat (go_big_quiet_step (fail))
      refine wpQuiet_nil ?_
      clear kn
      refine wpN_one (i := 12) (by kernel_rfl) rfl ?_
      go_wp2_with fail
      refine (HK3.out d2 (HL.out d2 HB3.out).1).mono ?_
      rintro e d3 ⟨rfl, hb⟩
      have HC3 := Lib.hid (HC2.out.below hb HC2.out.lt)
      have HU4 := Lib.hid (HU3.out.below hb)
      have HB4 := Lib.hid (HB3.out.trans (hb.mono (Nat.le_of_lt (Nat.lt_trans hs1 HU3.out.lt))))
      clear hb HC2 HU3 HB3
      go_wp2
      refine tailN_normal ((HCi.out _).2 HC3.out) ?_
      have kn : Nonempty (WC C) := ⟨⟨_, (HCi.out _).2 HC3.out⟩⟩
      refine wpN_frontW C [13] 1 _ (fun _ _ d _ _ h => by cases d <;> exact h) (by kernel_rfl) ((HCi.out _).2 HC3.out) ?_
      simp only [List.map_cons, List.map_nil, List.getD_cons_zero, List.getD_cons_succ]
      repeat (go_big_quiet_step (fail))
      refine wpQuiet_nil ?_
      clear kn
      refine wpN_one (i := 14) (by kernel_rfl) rfl ?_
      go_wp2_with fail
      refine (KS.out d3 HU4.out).mono ?_
      rintro e d4 ⟨rfl, h5, hb, hf⟩
      have HC4 : Hid (Blk d4 Z 68 [.int .i64 zk, .int .i64 zi, .string zt]) := Lib.hid (hf Z _ _ _ HC3.out (.inr ⟨by decide, by decide⟩))
      have HU5 := Lib.hid h5
      have HB5 := Lib.hid (HB4.out.trans (hb.mono (Nat.le_of_lt hs1)))
      clear h5 hb hf HC3 HU4 HB4 KS HK1 HK2 HK3
      go_wp2
      refine tailN_normal ((HCi.out _).2 HC4.out) ?_
      refine wpN_none (by kernel_rfl) ?_
      clear s1 s2 s3 s4 s5
      go_wp2
      go_roundg (n - (k + 1))
      case measure => have := HG.out; omega
      case rel => exact ⟨k + 1, by go_num, by omega, Lib.hid rfl, HU5, HB5⟩
    · obtain rfl : k = n := by omega
      have hall : l.take k = l := List.take_of_length_le (by have := HN.out; omega)
      rw [hall] at HU
      go_wp2_with fail
      refine (readB G _ wr HU.out.is).mono ?_
      rintro e w6 ⟨rfl, hb6⟩
      have HB6 := Lib.hid (HB.out.trans (hb6.mono (Nat.le_of_lt hs1)))
      clear hb6 HB
      go_wp2
      go_ret
      exact ⟨by rfl, by rw [HRR.out]; exact HB6.out⟩
end Go.Proofs.YtjcgkplphiedjaaDoorT

namespace Go.Proofs.YtjcgkplphiedjaaDoorT
open Go.RowKit Go.Sort

instance : DecidableEq Cn := fun a b => decidable_of_iff (a.k = b.k ∧ a.i = b.i ∧ a.t = b.t) (by cases a; cases b; simp)
/-- Are they the same fact? -/
def sameB (p : ByteArray) (xs : List Cn) (q : ByteArray) (ys : List Cn) : Bool := decide (p = q ∧ xs = ys)
theorem keyB_same (T : Lib.PrintTabs) (p q : ByteArray) (xs ys : List Cn) : ((⟨(keyB T p xs).toArray⟩ : ByteArray).toList == (⟨(keyB T q ys).toArray⟩ : ByteArray).toList) = sameB p xs q ys := by
  rw [mk_list, mk_list, Bool.eq_iff_iff, beq_iff_eq, sameB, decide_eq_true_eq]
  exact ⟨fun h => keyB_inj h, fun h => by rw [h.1, h.2]⟩
theorem list_iff (a b : ByteArray) : (a.toList == b.toList) = decide (a = b) := by
  rw [Bool.eq_iff_iff, beq_iff_eq, decide_eq_true_eq]
  exact ⟨fun h => list_eq h, fun h => by rw [h]⟩

set_option maxRecDepth 20000 in
set_option maxHeartbeats 8000000 in
theorem same_why (T : Lib.PrintTabs) (p q : ByteArray) (A B : Option Addr) (n c m d : Nat) (xs ys : List Cn) (w : World) (hr : Rd w w.heap.size 3 A n (kcells xs)) (hr' : Rd w w.heap.size 3 B m (kcells ys))
    (hz : ∀ z ∈ xs, keyK z) (hz' : ∀ z ∈ ys, keyK z) (hps : p.size ≤ 1048576) (hqs : q.size ≤ 1048576) (hn : n ≤ 1048576) (hm : m ≤ 1048576) (ht : Tabs T w) (hp : Pow w) :
    Calls Tryd.prog 70 #[.agg #[.string p, .slice A n c], .agg #[.string q, .slice B m d]] w fun e w' => e = .returned (.bool (sameB p xs q ys)) ∧ Below w.heap.size w w' := by
  have HR := Lib.hid hr
  have HR' := Lib.hid hr'
  have HT := Lib.hid ht
  have HP := Lib.hid hp
  have HK1 := Lib.hid (fun W h h1 h2 => key_any T p A n c xs W h hz hps hn h1 h2)
  have HK2 := Lib.hid (fun W h h1 h2 => key_any T q B m d ys W h hz' hqs hm h1 h2)
  have HE := Lib.hid (keyB_same T p q xs ys)
  clear hr hr' ht hp hz hz'
  generalize (⟨(keyB T p xs).toArray⟩ : ByteArray) = X at *
  generalize (⟨(keyB T q ys).toArray⟩ : ByteArray) = Y at *
  rw [← HE.out]
  clear HE
  go_enter Tryd.func70, Tryd.ntmps70
  go_upto_region 1 with (fail)
  obtain ⟨hb3, h1, h2, hs3⟩ := two_alloc w 45 45 [.string p, .slice A n c] [.string q, .slice B m d]
  generalize World.alloc (World.alloc _ _) _ = w3 at *
  have HR3 := Lib.hid (HR.out.up hb3 hb3.size)
  have HR3' := Lib.hid (HR'.out.up hb3 hb3.size)
  have HT3 := Lib.hid (HT.out.below hb3)
  have HP3 := Lib.hid (YtjcgkplphiedjaaDoor.Pow.below HP.out hb3)
  have hs := hb3.size
  generalize hR : w.heap.size = R at *
  have HRR := Lib.hid hR
  clear hR HR HR' HT HP hs3
  have HB3 := Lib.hid hb3
  have kf0 := cell_regrown ((h1.cell 0).trans rfl)
  have kf1 := cell_regrown ((h1.cell 1).trans rfl)
  have kg0 := cell_regrown ((h2.cell 0).trans rfl)
  have kg1 := cell_regrown ((h2.cell 1).trans rfl)
  have cA : ∀ e os, Calls Tryd.prog 67 #[.agg #[.string p, .slice A n c]] (grow (redrawn w3 e) os) fun e w'' => e = .returned (.string X) ∧ ∃ q : Regrown, w'' = grow (redrawn w3 q.d) q.os :=
    fun e os => Calls.regrown_of (HK1.out _ (HR3.out.up (below_regrown w3 e os) (below_regrown w3 e os).size) (HT3.out.below (below_regrown w3 e os)) (YtjcgkplphiedjaaDoor.Pow.below HP3.out (below_regrown w3 e os)))
  have cB : ∀ e os, Calls Tryd.prog 67 #[.agg #[.string q, .slice B m d]] (grow (redrawn w3 e) os) fun e w'' => e = .returned (.string Y) ∧ ∃ q : Regrown, w'' = grow (redrawn w3 q.d) q.os :=
    fun e os => Calls.regrown_of (HK2.out _ (HR3'.out.up (below_regrown w3 e os) (below_regrown w3 e os).size) (HT3.out.below (below_regrown w3 e os)) (YtjcgkplphiedjaaDoor.Pow.below HP3.out (below_regrown w3 e os)))
  clear h1 h2 hb3
  refine wp_region_quiet_below (by kernel_rfl) (by kernel_rfl) ?_
  repeat (go_big_quiet_step (first | (with_reducible exact cA _ _) | (with_reducible exact cB _ _)))
  refine wpQuiet_nil ?_
  intro w4 hw4
  obtain ⟨⟨dq, osq⟩, rfl⟩ := hw4
  have HB4 := Lib.hid (HB3.out.trans ((below_regrown w3 dq osq).mono hs))
  clear kf0 kf1 kg0 kg1 cA cB
  generalize grow _ _ = w4 at *
  go_wp2
  go_ret
  exact ⟨by rfl, by rw [HRR.out]; exact HB4.out⟩

set_option maxHeartbeats 4000000 in
theorem sameK (z y : Cn) (w : World) :
    Calls Tryd.prog 61 #[.agg z.cells.toArray, .agg y.cells.toArray] w fun e w' => e = .returned (.bool (decide (z = y))) ∧ Below w.heap.size w w' := by
  obtain ⟨V, hV⟩ : ∃ V, V = decide (z = y) := ⟨_, rfl⟩
  rw [← hV]
  obtain ⟨k, i, t⟩ := z
  obtain ⟨k', i', t'⟩ := y
  have hV2 : V = decide (k = k' ∧ i = i' ∧ t = t') := by rw [hV]; simp
  have HV := Lib.hid hV2
  clear hV hV2
  have ht := list_iff t t'
  show Calls Tryd.prog 61 #[.agg #[.int .i64 k, .int .i64 i, .string t], .agg #[.int .i64 k', .int .i64 i', .string t']] w _
  go_enter Tryd.func61, Tryd.ntmps61
  go_upto_region 1 with (fail)
  obtain ⟨hb3, h1, h2, hs3⟩ := two_alloc w 68 68 [.int .i64 k, .int .i64 i, .string t] [.int .i64 k', .int .i64 i', .string t']
  generalize World.alloc (World.alloc _ _) _ = w3 at *
  generalize hR : w.heap.size = R at *
  have HRR := Lib.hid hR
  clear hR
  have f0 := (h1.cell 0).trans rfl
  have f1 := (h1.cell 1).trans rfl
  have f2 := (h1.cell 2).trans rfl
  have g0 := (h2.cell 0).trans rfl
  have g1 := (h2.cell 1).trans rfl
  have g2 := (h2.cell 2).trans rfl
  have HB := Lib.hid hb3
  clear h1 h2 hs3 hb3
  by_cases hk : k = k'
  · have t1 : (k == k') = true := by simpa using hk
    by_cases hi : i = i'
    · have t2 : (i == i') = true := by simpa using hi
      obtain rfl : V = decide (t = t') := by rw [HV.out]; simp [hk, hi]
      have HT := Lib.hid ht
      clear HV hk hi ht
      go_wp2
      go_ret
      exact ⟨by show Ending.returned (.bool (t.toList == t'.toList)) = _; rw [HT.out], by rw [HRR.out]; exact HB.out⟩
    · have t2 : (i == i') = false := by simpa using hi
      obtain rfl : V = false := by rw [HV.out]; simp [hi]
      clear HV hk hi ht
      go_wp2
      go_ret
      exact ⟨by rfl, by rw [HRR.out]; exact HB.out⟩
  · have t1 : (k == k') = false := by simpa using hk
    obtain rfl : V = false := by rw [HV.out]; simp [hk]
    clear HV hk ht
    go_wp2
    go_ret
    exact ⟨by rfl, by rw [HRR.out]; exact HB.out⟩

theorem take_eq_of {α : Type} {xs ys : List α} (h : ∀ k (h1 : k < xs.length) (h2 : k < ys.length), xs[k] = ys[k]) (hl : xs.length = ys.length) : xs = ys := List.ext_getElem hl h

set_option maxHeartbeats 8000000 in
theorem sameF (p q : ByteArray) (A A' : Option Addr) (n c m c' : Nat) (xs ys : List Cn) (w : World) (hr : Rd w w.heap.size 3 A n (kcells xs)) (hr' : Rd w w.heap.size 3 A' m (kcells ys)) :
    Calls Tryd.prog 36 #[.agg #[.string p, .slice A n c], .agg #[.string q, .slice A' m c']] w fun e w' => e = .returned (.bool (sameB p xs q ys)) ∧ Below w.heap.size w w' := by
  have hlx : xs.length = n := by have := hr.1; rw [kcells_length] at this; omega
  have hly : ys.length = m := by have := hr'.1; rw [kcells_length] at this; omega
  obtain ⟨V, hV⟩ : ∃ V, V = sameB p xs q ys := ⟨_, rfl⟩
  rw [← hV]
  have HV := Lib.hid hV
  have HX := Lib.hid hlx
  have HY := Lib.hid hly
  clear hV hlx hly
  have ht := list_iff p q
  have HR := Lib.hid hr
  have HR' := Lib.hid hr'
  have hn := hr.2.1
  have hm := hr'.2.1
  clear hr hr'
  go_enter Tryd.func36, Tryd.ntmps36
  go_upto_region 1 with (fail)
  obtain ⟨hb3, h1, h2, hs3⟩ := two_alloc w 45 45 [.string p, .slice A n c] [.string q, .slice A' m c']
  generalize World.alloc (World.alloc _ _) _ = w3 at *
  generalize hR : w.heap.size = R at *
  have HRR := Lib.hid hR
  clear hR
  have HB3 := Lib.hid hb3
  have H1 := Lib.hid h1
  have H2 := Lib.hid h2
  clear hb3 h1 h2 hs3
  have f0 := (H1.out.cell 0).trans rfl
  have f1 := (H1.out.cell 1).trans rfl
  have g0 := (H2.out.cell 0).trans rfl
  have g1 := (H2.out.cell 1).trans rfl
  by_cases hp : p = q
  · rw [decide_eq_true hp] at ht
    have ht2 : (p.toList != q.toList) = false := by rw [bne, ht]; rfl
    by_cases hnm : n = m
    · subst hnm
      have tn : ((n : Int) != (n : Int)) = false := by simp
      go_upto_region 4 with (fail)
      clear f0 f1 g0 g1 tn ht2 ht
      go_loopg [5] n (fun gk u5 wr => ∃ k : Nat, u5 = .int .i64 k ∧ k ≤ n ∧ Hid (gk = n - k) ∧ Hid (Below R w wr) ∧ Hid (Blk wr R 45 [.string p, .slice A n c]) ∧ Hid (Blk wr (R + 1) 45 [.string q, .slice A' n c']) ∧ Hid (xs.take k = ys.take k))
      case atStart => exact ⟨0, rfl, Nat.zero_le _, Lib.hid (by omega), HB3, H1, H2, Lib.hid rfl⟩
      case round =>
        clear HB3 H1 H2
        obtain ⟨k, rfl, hk, HG, HB, H1, H2, HTT⟩ := hrel
        have f1 := (H1.out.cell 1).trans rfl
        have g1 := (H2.out.cell 1).trans rfl
        by_cases hlt : k < n
        · obtain ⟨b1, o1, hk1, rfl, hb1, hc⟩ := (HR.out.below HB.out).at Cn.cells 3 (fun _ => rfl) (by omega) k hlt
          obtain ⟨b2, o2, hk2, rfl, hb2, hd⟩ := (HR'.out.below HB.out).at Cn.cells 3 (fun _ => rfl) (by omega) k hlt
          have c0 := hc 0 _ (by omega) rfl
          have c1 := hc 1 _ (by omega) rfl
          have c2 := hc 2 _ (by omega) rfl
          have d0 := hd 0 _ (by omega) rfl
          have d1 := hd 1 _ (by omega) rfl
          have d2 := hd 2 _ (by omega) rfl
          rw [Nat.add_zero] at c0 d0
          clear hc hd
          have HTY : Hid (xs[k] = ys[k] → xs.take (k + 1) = ys.take (k + 1)) := Lib.hid fun h => by rw [take_snoc xs k hk1, take_snoc ys k hk2, HTT.out, h]
          have HTN : Hid (xs[k] ≠ ys[k] → V = false) := Lib.hid fun h => by
            rw [HV.out, sameB, decide_eq_false]
            rintro ⟨_, e⟩
            subst e
            exact h rfl
          generalize xs[k] = z at *
          generalize ys[k] = y at *
          have HS := Lib.hid (sameK z y)
          obtain ⟨zk, zi, zt⟩ := z
          obtain ⟨yk, yi, yt⟩ := y
          simp only [Cn.cells] at HS
          dsimp only at c0 c1 c2 d0 d1 d2
          obtain ⟨D, hD⟩ : ∃ D : Bool, D = decide ((⟨zk, zi, zt⟩ : Cn) = ⟨yk, yi, yt⟩) := ⟨_, rfl⟩
          rw [← hD] at HS
          have HD := Lib.hid hD
          clear hD
          go_upto_region 6 with (fail)
          have kf1 := cell_regrown f1
          have kg1 := cell_regrown g1
          have kc0 := cell_regrown c0
          have kc1 := cell_regrown c1
          have kc2 := cell_regrown c2
          have kd0 := cell_regrown d0
          have kd1 := cell_regrown d1
          have kd2 := cell_regrown d2
          have cA : ∀ d os, Calls Tryd.prog 61 #[.agg #[.int .i64 zk, .int .i64 zi, .string zt], .agg #[.int .i64 yk, .int .i64 yi, .string yt]] (grow (redrawn wr d) os) fun e w'' => e = .returned (.bool D) ∧ ∃ p : Regrown, w'' = grow (redrawn wr p.d) p.os :=
            fun d os => Calls.regrown_of (HS.out _)
          clear f1 g1 c0 c1 c2 d0 d1 d2
          refine wp_region_quiet_below (by kernel_rfl) (by kernel_rfl) ?_
          repeat (go_big_quiet_step (first | exact cA _ _))
          refine wpQuiet_nil ?_
          intro w6 hw6
          obtain ⟨⟨dq, osq⟩, rfl⟩ := hw6
          have hl1 := H2.out.lt
          have HB6 := Lib.hid (HB.out.trans ((below_regrown wr dq osq).mono (by omega)))
          have H16 := Lib.hid (H1.out.below (below_regrown wr dq osq) (by omega))
          have H26 := Lib.hid (H2.out.below (below_regrown wr dq osq) hl1)
          clear kf1 kg1 kc0 kc1 kc2 kd0 kd1 kd2 cA hl1
          cases D with
          | true =>
            have HTE := Lib.hid (HTY.out (of_decide_eq_true HD.out.symm))
            clear HTN HTY HD HS
            go_wp2
            go_roundg (n - (k + 1))
            case measure => have := HG.out; omega
            case rel => exact ⟨k + 1, by go_num, by omega, Lib.hid rfl, HB6, H16, H26, HTE⟩
          | false =>
            have hz := HTN.out (of_decide_eq_false HD.out.symm)
            subst hz
            clear HTN HTY HD HS
            go_wp2
            go_ret
            exact ⟨by rfl, by rw [HRR.out]; exact HB6.out⟩
        · obtain rfl : k = n := by omega
          have hall1 : xs.take k = xs := List.take_of_length_le (by have := HX.out; omega)
          have hall2 : ys.take k = ys := List.take_of_length_le (by have := HY.out; omega)
          rw [hall1, hall2] at HTT
          obtain rfl : V = true := by rw [HV.out, sameB, decide_eq_true ⟨hp, HTT.out⟩]
          go_wp2
          go_ret
          exact ⟨by rfl, by rw [HRR.out]; exact HB.out⟩
    · have tn : ((n : Int) != (m : Int)) = true := by simpa using (by omega : ¬ (n : Int) = m)
      obtain rfl : V = false := by
        rw [HV.out, sameB, decide_eq_false]
        rintro ⟨_, e⟩
        subst e
        exact hnm (HX.out.symm.trans HY.out)
      clear hp
      go_wp2
      go_ret
      exact ⟨by rfl, by rw [HRR.out]; exact HB3.out⟩
  · rw [decide_eq_false hp] at ht
    have ht2 : (p.toList != q.toList) = true := by rw [bne, ht]; rfl
    obtain rfl : V = false := by
      rw [HV.out, sameB, decide_eq_false]
      rintro ⟨e, _⟩
      exact hp e
    clear hp
    go_wp2
    go_ret
    exact ⟨by rfl, by rw [HRR.out]; exact HB3.out⟩
end Go.Proofs.YtjcgkplphiedjaaDoorT
