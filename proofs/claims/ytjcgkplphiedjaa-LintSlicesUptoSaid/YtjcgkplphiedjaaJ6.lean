/- The law: every Adorn. -/
import Derived.Test.YtjcgkplphiedjaaJ5
import Derived.Lib.QuietBelow
namespace Go.Proofs.Ytjcgkplphiedjaa
open Go.RowKit Go.Sort

theorem bytes_eq {b : ByteArray} {l : List UInt8} (h : b.toList = l) : b = ⟨l.toArray⟩ := by
  obtain ⟨d⟩ := b
  rw [ByteArray.toList_eq] at h
  subst h
  simp

theorem Rd.up {w w' : World} {B B' size n : Nat} {A : Option Addr} {xs : List Value} (h : Rd w B size A n xs) (hb : Below B w w') (hB : B ≤ B') : Rd w' B' size A n xs := by
  have h := h.below hb
  exact ⟨h.1, h.2.1, fun hn => by obtain ⟨b, o, h1, h2, h3⟩ := h.2.2 hn; exact ⟨b, o, h1, by omega, h3⟩⟩

theorem own_pre {w : World} {base e size n g cap : Nat} {xs ys : List Value} (h : w.ownsRow base e size (.slice (some ⟨g, 0, none⟩) (n + 1) cap) (n + 1) (xs ++ ys)) (hl : xs.length = n * size) :
    Rd w w.heap.size size (some ⟨g, 0, none⟩) n xs ∧ (∀ j u, ys[j]? = some u → w.cell? ⟨g, n * size + j, none⟩ = some u) ∧ n + 1 ≤ cap ∧ cap ≤ 9223372036854775807 ∧ g < w.heap.size ∧ base ≤ g := by
  obtain ⟨g', cap', cur, hv, hb, hg, hnc, hcm, hcs, ht⟩ := own_blk h (by omega)
  injection hv with hv1 _ hv3
  injection hv1 with hv1
  injection hv1 with hv1
  subst hv1 hv3
  unfold maxLen at hcm
  have hat : ∀ (j : Nat) (u : Value), (xs ++ ys)[j]? = some u → w.cell? ⟨g, j, none⟩ = some u := by
    intro j u hu
    rw [← ht, List.getElem?_take] at hu
    split at hu
    · exact (hg.cell j).trans hu
    · cases hu
  refine ⟨⟨hl, by omega, fun _ => ⟨g, 0, rfl, hg.lt, fun j u hu => ?_⟩⟩, fun j u hu => ?_, hnc, hcm, hg.lt, hb⟩
  · rw [Nat.zero_add]
    exact hat j u (by rw [List.getElem?_append_left (List.getElem?_eq_some_iff.1 hu).1]; exact hu)
  · exact hat _ u (by rw [List.getElem?_append_right (by omega), hl, Nat.add_sub_cancel_left]; exact hu)

theorem Rd_new (w : World) (cs : Array Value) (T : TypeId) (size n : Nat) (h : cs.size = n * size) (hn : n ≤ 9223372036854775807) : Rd (w.alloc (.cells cs T)) (w.alloc (.cells cs T)).heap.size size (some ⟨w.heap.size, 0, none⟩) n cs.toList := by
  refine ⟨by simpa using h, hn, fun _ => ⟨w.heap.size, 0, rfl, by simp, fun j u hu => ?_⟩⟩
  have h := new_cells w cs T j u hu
  have hadd : (⟨w.heap.size, 0, none⟩ : Addr).add j = ⟨w.heap.size, j, none⟩ := by unfold Addr.add; split <;> simp_all
  rw [hadd] at h
  rw [Nat.zero_add]; exact h

structure At where
  p : ByteArray
  A : Option Addr
  n : Nat
  c : Nat
  o : Int
  es : List T
def At.cells (a : At) : List Value := [.string a.p, .slice a.A a.n a.c, .int .i64 a.o]
def acells (l : List At) : List Value := l.flatMap At.cells
/-- What stands behind an atom. -/
def At.ok (w : World) (a : At) : Prop := Rd w w.heap.size 4 a.A a.n (tcells a.es) ∧ (a.A = none → a.c = 0) ∧ a.n * 40 ≤ 140737488351232

theorem acells_length (es : List At) : (acells es).length = es.length * 3 := by
  induction es with
  | nil => rfl
  | cons e es ih => simp only [acells, List.flatMap_cons, List.length_append, List.length_cons] at *; rw [ih]; simp only [At.cells, List.length_cons, List.length_nil]; omega

theorem acells_at (es : List At) (k j : Nat) (hk : k < es.length) (hj : j < 3) : (acells es)[k * 3 + j]? = (es[k]).cells[j]? := by
  induction es generalizing k with
  | nil => simp at hk
  | cons e es ih =>
    cases k with
    | zero =>
      simp only [acells, List.flatMap_cons, Nat.zero_mul, Nat.zero_add, List.getElem_cons_zero]
      rw [List.getElem?_append_left (by simp [At.cells]; omega)]
    | succ k =>
      simp only [acells, List.flatMap_cons, List.getElem_cons_succ]
      rw [List.getElem?_append_right (by simp [At.cells]; omega)]
      have := ih k (by simpa using hk)
      simp only [acells] at this
      rw [← this]; congr 1; simp [At.cells]; omega

theorem Rd.atom {w : World} {B : Nat} {A : Option Addr} {n : Nat} {es : List At} (h : Rd w B 3 A n (acells es)) (k : Nat) (hk : k < n) :
    ∃ b o, ∃ h2 : k < es.length, A = some ⟨b, o, none⟩ ∧ b < B ∧ w.cell? ⟨b, o + k * 3, none⟩ = some (.string es[k].p) ∧ w.cell? ⟨b, o + k * 3 + 1, none⟩ = some (.slice es[k].A es[k].n es[k].c) ∧ w.cell? ⟨b, o + k * 3 + 2, none⟩ = some (.int .i64 es[k].o) := by
  obtain ⟨h1, h2, h3⟩ := h
  obtain ⟨b, o, hA, hb, hc⟩ := h3 (by omega)
  rw [acells_length] at h1
  have hk' : k < es.length := by omega
  refine ⟨b, o, hk', hA, hb, ?_, ?_, ?_⟩
  · exact hc (k * 3 + 0) _ (by rw [acells_at es k 0 hk' (by omega)]; rfl)
  · exact hc (k * 3 + 1) _ (by rw [acells_at es k 1 hk' (by omega)]; rfl)
  · exact hc (k * 3 + 2) _ (by rw [acells_at es k 2 hk' (by omega)]; rfl)

/-- The mark behind the names. -/
def behind : ByteArray := ⟨#[98, 101, 104, 105, 110, 100]⟩
theorem str_one (s : ByteArray) : ∀ u ∈ [Value.string s], u.oneCell' = true := by
  intro u hu
  simp only [List.mem_cons, List.not_mem_nil, or_false] at hu
  subst hu; rfl
theorem strs_one (l : List ByteArray) : ∀ u ∈ scells l, u.oneCell' = true := by
  intro u hu
  obtain ⟨s, _, rfl⟩ := List.mem_map.1 hu
  rfl

theorem wpList_append_all {P : Program} {w : World} {ops : Array Oper} {rest : List Oper} {o : Oper} {a : Act} {Q : Exit → Act → World → Prop} (hgd : o.guard = none) (s x : Operand) (t : TypeId)
    (ho : o.op = .call { callee := .builtin .append, args := #[s, x], argTypes := #[t, t] })
    (base : Nat) (e : TypeId) (i : TypeInfo) (z : Value) (size bytes : Nat) (ht : P.underlying t = some (.slice e)) (hi : P.info? e = some i) (hz : i.zero = some z)
    (hsize : i.size = size) (hby : i.bytes = bytes) (hzs : z.cells.size = size) (hsz : 0 < size)
    (v : Value) (n : Nat) (xs : List Value) (hs : a.eval s = v) (hown : w.ownsRow base e size v n xs)
    (A : Option Addr) (m c : Nat) (news : List Value) (hx : a.eval x = .slice A m c) (hA : A = none → c = 0) (hr : Rd w w.heap.size size A m news) (h1 : ∀ u ∈ news, u.oneCell' = true)
    (h63 : n + m ≤ maxLen) (hbytes : (n + m) * bytes ≤ 140737488355328) (hbase : base ≤ w.heap.size)
    (h : ∀ v' w', w'.ownsRow base e size v' (n + m) (xs ++ news) → w.grownBy w' v.ownBlock → wpList P ops Q rest (a.put o.dst v') w') : wpList P ops Q (o :: rest) a w := by
  cases A with
  | none =>
    obtain rfl : c = 0 := hA rfl
    obtain rfl : m = 0 := by
      rcases Nat.eq_zero_or_pos m with h | h
      · exact h
      · obtain ⟨b, o, h, _⟩ := hr.2.2 h; cases h
    obtain rfl : news = [] := List.eq_nil_of_length_eq_zero (by have := hr.1; omega)
    exact wpList_append_own_none hgd s x t ho base e i size ht hi v n xs hs hown hx (h v w (by simpa using hown) (World.grownBy.refl _ _))
  | some ad => exact wpList_append_own _ hgd s x t ho base e i z size bytes ht hi hz hsize hby hzs hsz v n xs hs hown ad m c news hx hr.1 hr.news h1 h63 hbytes hbase fun v' w' h2 h3 _ => h v' w' h2 h3

set_option maxRecDepth 20000 in
set_option maxHeartbeats 2000000 in
theorem MagicAdorns_walk (A A' : Option Addr) (m c k c' : Nat) (ats : List At) (l : List ByteArray) (w : World) (hr : Rd w w.heap.size 3 A m (acells ats)) (hok : ∀ a ∈ ats, At.ok w a) (hr' : Rd w w.heap.size 1 A' k (scells l)) (hA' : A' = none → c' = 0) (hk16 : k * 16 ≤ 140737488351232) :
    Calls Try.prog 3 #[.slice A m c, .slice A' k c'] w fun e w' => e = .returned (.bool true) ∧ Below w.heap.size w w' := by
  obtain ⟨i0, hi, hz0, hz1, hz2⟩ := info_parts Try.info9
  have HR := Lib.hid hr
  have HR' := Lib.hid hr'
  have HK := Lib.hid hok
  have HA' := Lib.hid hA'
  have hm := hr.2.1
  clear hr hr' hok hA'
  go_enter Try.func3, Try.ntmps3
  go_wp2
  go_loopw [5] (fun i wr => ∃ j : Nat, i = .int .i64 j ∧ j ≤ m ∧ Hid (Below w.heap.size w wr)) (fun i _ => m - (intOf i).toNat)
  case atStart => exact ⟨0, rfl, Nat.zero_le _, Below.refl _ _⟩
  case round =>
    obtain ⟨j, rfl, hj, hb⟩ := hrel
    by_cases hlt : j < m
    · obtain ⟨B, off, hj1, rfl, hB, c0, c1, c2⟩ := (HR.out.below hb.out).atom j hlt
      have HO := HK.out ats[j] (List.getElem_mem hj1)
      obtain ⟨hrt, hAc, hn40⟩ := HO
      have HT := Lib.hid hrt
      have HAC := Lib.hid hAc
      clear hrt hAc
      have hwr := hb.out.size
      generalize ats[j] = a at *
      go_wp2_with fail
      refine (refAdorn_any a.p a.A A' a.n a.c k c' a.o a.es l wr (HT.out.up hb.out hwr) (HR'.out.up hb.out hwr) hn40).mono ?_
      rintro e w1 ⟨sb, rfl, hsb, hb1⟩
      obtain rfl := bytes_eq hsb
      have hb := Lib.hid (hb.out.trans (hb1.mono hwr))
      have d0 := cell_later hb1 c0
      have d1 := cell_later hb1 c1
      have d2 := cell_later hb1 c2
      have hw1 := hb.out.size
      clear hsb hb1 c0 c1 c2 hwr
      go_wp2_with fail
      refine (atom_any a.p a.A a.n a.c a.o a.es w1 (HT.out.up hb.out hw1) HAC.out hn40).mono ?_
      rintro e w2 ⟨g, cap, rfl, hown, hb2⟩
      unfold av
      have hp := own_pre (ys := mark.cells) (by rw [tcells_append] at hown; simpa [tcells] using hown) (HT.out.1)
      obtain ⟨hg1, hg2, hcap, hcm, hgl, _⟩ := hp
      have d0 := cell_later hb2 d0
      have d1 := cell_later hb2 d1
      have d2 := cell_later hb2 d2
      have hb := Lib.hid (hb.out.trans (hb2.mono hw1))
      clear hb2 hown
      go_upto_region 6 with (fail)
      have hw2 := hb.out.size
      have BX := Lib.hid (Blk.new w2 27 [.string a.p, .slice (some ⟨g, 0, none⟩) a.n cap, .int .i64 a.o])
      have hb3 := Lib.hid ((Below.refl w2.heap.size w2).alloc (Nat.le_refl _) (.cells #[.string a.p, .slice (some ⟨g, 0, none⟩) a.n cap, .int .i64 a.o] 27))
      have d0 := cell_later hb3.out d0
      have d1 := cell_later hb3.out d1
      have d2 := cell_later hb3.out d2
      have G1 := Lib.hid (hg1.up hb3.out hb3.out.size)
      have g77 := cell_later hb3.out (hg2 0 (.int .i64 77) rfl)
      have hb := Lib.hid (hb.out.trans (hb3.out.mono hw2))
      clear hg1 hg2 hb3 hw1 hgl
      generalize World.alloc _ _ = w3 at *
      generalize w2.heap.size = Q at *
      have hw3 := hb.out.size
      have hbw3 : w3.heap.size ≤ (w3.alloc (.cells #[] 9)).heap.size := by simp
      have HRd : Hid (Rd (w3.alloc (.cells #[] 9)) (w3.alloc (.cells #[] 9)).heap.size 1 A' k (scells l)) := Lib.hid ((HR'.out.up hb.out hw3).up ((Below.refl w3.heap.size w3).alloc (Nat.le_refl _) (.cells #[] 9)) hbw3)
      have hown0 : (w3.alloc (.cells #[] 9)).ownsRow w3.heap.size 9 1 (.slice (some ⟨w3.heap.size, 0, none⟩) 0 0) 0 [] := own_empty (Nat.le_refl _)
      go_wp2_with (at_builtin; go_must (refine wpList_append_all rfl _ _ 23 rfl w3.heap.size 9 i0 _ 1 16 Try.underlying23 hi hz0 hz1 hz2 rfl (by decide) _ _ _ rfl hown0 A' k c' (scells l) rfl HA'.out HRd.out (strs_one l) (by unfold maxLen; omega) (by omega) hbw3 ?_))
      intro v4 w4 hown4 hg4
      obtain ⟨A4, c4, rfl, _⟩ := own_slice hown4
      have hb4 := Lib.hid ((((Below.refl w3.heap.size w3).alloc (Nat.le_refl _) (.cells #[] 9))).grown hg4 hbw3 (fun k hk => (hown0.lt k hk).1))
      have hw4 := hb4.out.size
      clear hg4 hown0 HRd
      go_wp2_with (at_builtin; go_must (refine wpList_append_own _ rfl _ _ 23 rfl w3.heap.size 9 i0 _ 1 16 Try.underlying23 hi hz0 hz1 hz2 rfl (by decide) _ _ _ rfl (hown4.alloc _) ⟨w4.heap.size, 0, none⟩ 1 1 [.string behind] rfl rfl (fun j u h => new_cells _ _ _ j u h) (str_one behind) (by unfold maxLen; omega) (by omega) (by simp; omega) ?_))
      intro v5 w5 hown5 hg5 _
      have hb5 := Lib.hid ((hb4.out.alloc hw4 (.cells #[.string behind] 9)).grown hg5 (by simp; omega) (fun k hk => (hown4.lt k hk).1))
      obtain ⟨gr, cr, cur, rfl, _⟩ := own_blk hown5 (by omega)
      obtain ⟨hr1, hr2, hrc, hrm, hrl, _⟩ := own_pre hown5 (HR'.out.1)
      have R1 := Lib.hid hr1
      have r0 : w5.cell? ⟨gr, k, none⟩ = some (.string ⟨#[98, 101, 104, 105, 110, 100]⟩) := by
        have := hr2 0 _ rfl
        rw [Nat.mul_one, Nat.add_zero] at this
        exact this
      have d0 := cell_later hb5.out d0
      have d1 := cell_later hb5.out d1
      have d2 := cell_later hb5.out d2
      have x0 := cell_later hb5.out (BX.out.cell 0)
      have x1 := cell_later hb5.out (BX.out.cell 1)
      have x2 := cell_later hb5.out (BX.out.cell 2)
      have g77 := cell_later hb5.out g77
      have G5 := Lib.hid (G1.out.up hb5.out hb5.out.size)
      have hb := Lib.hid (hb.out.trans (hb5.out.mono hw3))
      have hw5 := hb.out.size
      have T5 := Lib.hid (HT.out.up hb.out hw5)
      clear hr1 hr2 hg5 hown5 hown4 hb5 hb4 BX G1
      go_upto_region 7 with (fail)
      have kd0 := cell_regrown d0
      have kd1 := cell_regrown d1
      have kd2 := cell_regrown d2
      have kx0 := cell_regrown x0
      have kx1 := cell_regrown x1
      have kx2 := cell_regrown x2
      have kr0 := cell_regrown r0
      have cA : ∀ d os, Calls Try.prog 10 #[.agg #[.string a.p, .slice (some ⟨g, 0, none⟩) a.n cap, .int .i64 a.o], .slice (some ⟨gr, 0, none⟩) k cr] (grow (redrawn w5 d) os) fun e w'' => e = .returned (.string ⟨(bits l a.es).toArray⟩) ∧ ∃ p : Regrown, w'' = grow (redrawn w5 p.d) p.os :=
        fun d os => Calls.regrown_of (magicAdorn_any a.p _ _ a.n cap k cr a.o a.es l _ (G5.out.up (below_regrown w5 d os) (below_regrown w5 d os).size) (R1.out.up (below_regrown w5 d os) (below_regrown w5 d os).size) hn40)
      have cS : ∀ d os, Calls Try.prog 11 #[.agg #[.string a.p, .slice (some ⟨g, 0, none⟩) a.n cap, .int .i64 a.o], .agg #[.string a.p, .slice a.A a.n a.c, .int .i64 a.o]] (grow (redrawn w5 d) os) fun e w'' => e = .returned (.bool true) ∧ ∃ p : Regrown, w'' = grow (redrawn w5 p.d) p.os :=
        fun d os => Calls.regrown_of (same_any a.p _ _ a.n cap a.c a.o a.es _ (G5.out.up (below_regrown w5 d os) (below_regrown w5 d os).size) (T5.out.up (below_regrown w5 d os) (below_regrown w5 d os).size))
      have cM : ∀ d os, Calls Try.prog 12 #[.agg #[.string a.p, .slice (some ⟨g, 0, none⟩) a.n cap, .int .i64 a.o]] (grow (redrawn w5 d) os) fun e w'' => e = .returned (.bool true) ∧ ∃ p : Regrown, w'' = grow (redrawn w5 p.d) p.os :=
        fun d os => Calls.regrown_of (marked_any a.p g a.n cap a.o _ hcap hcm (cell_regrown g77 d os))
      have cN : ∀ d os, Calls Try.prog 13 #[.slice (some ⟨gr, 0, none⟩) k cr, .slice A' k c'] (grow (redrawn w5 d) os) fun e w'' => e = .returned (.bool true) ∧ ∃ p : Regrown, w'' = grow (redrawn w5 p.d) p.os :=
        fun d os => Calls.regrown_of (names_any _ _ k cr c' l _ (R1.out.up (below_regrown w5 d os) (below_regrown w5 d os).size) ((HR'.out.up hb.out hw5).up (below_regrown w5 d os) (below_regrown w5 d os).size))
      clear d0 d1 d2 x0 x1 x2 r0 g77
      refine wp_region_quiet_below (by kernel_rfl) (by kernel_rfl) ?_
      repeat (go_big_quiet_step (first | exact cA _ _ | exact cS _ _ | exact cM _ _ | exact cN _ _))
      refine wpQuiet_nil ?_
      intro w6 hw6
      obtain ⟨⟨dq, osq⟩, rfl⟩ := hw6
      have hb6 := Lib.hid (hb.out.trans ((below_regrown w5 dq osq).mono hw5))
      clear kd0 kd1 kd2 kx0 kx1 kx2 kr0 cA cS cM cN
      go_wp2
      go_roundw
      case rel => exact ⟨j + 1, by go_num, by omega, hb6⟩
      case measure => simp [intOf]; omega
    · go_wp2_with fail
      have hq := Rd_new (wr.alloc (.cells #[.int .i64 4, .int .i64 0, .string ⟨#[88]⟩, .int .i64 0] 33)) #[.int .i64 4, .int .i64 0, .string ⟨#[88]⟩, .int .i64 0, .int .i64 1, .int .i64 0, .string ⟨#[]⟩, .int .i64 0, .int .i64 4, .int .i64 0, .string ⟨#[88]⟩, .int .i64 0] 33 4 3 rfl (by omega)
      rw [show (wr.alloc (.cells #[.int .i64 4, .int .i64 0, .string ⟨#[88]⟩, .int .i64 0] 33)).heap.size = wr.heap.size + 1 by simp] at hq
      have hbits : bits [] [⟨4, 0, ⟨#[88]⟩, 0⟩, ⟨1, 0, ⟨#[]⟩, 0⟩, ⟨4, 0, ⟨#[88]⟩, 0⟩] = [102, 98, 102] := by
        simp [bits, bit, has]
      refine (magicAdorn_any ⟨#[]⟩ _ none 3 3 0 0 0 [⟨4, 0, ⟨#[88]⟩, 0⟩, ⟨1, 0, ⟨#[]⟩, 0⟩, ⟨4, 0, ⟨#[88]⟩, 0⟩] [] _ hq ⟨rfl, by omega, fun h => by omega⟩ (by omega)).mono ?_
      rintro e w2 ⟨rfl, hb2⟩
      rw [hbits]
      have hw := hb.out.size
      have hb3 := Lib.hid (((hb.out.alloc hw (.cells #[.int .i64 4, .int .i64 0, .string ⟨#[88]⟩, .int .i64 0] 33)).alloc (by simp; omega) _).trans (hb2.mono (by simp; omega)))
      clear hb2 hq
      go_wp2
      go_ret
      exact ⟨by rfl, hb3.out⟩
end Go.Proofs.Ytjcgkplphiedjaa
