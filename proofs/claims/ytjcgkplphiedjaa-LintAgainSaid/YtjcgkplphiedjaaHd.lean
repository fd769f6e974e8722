/- What Trim leaves: plain. | The program's copy of a clause. | The law's comparison of programs: where the cores are the same it says so. | The law of slices: comparison of programs, and the law's walk. -/
import Derived.Test.YtjcgkplphiedjaaGs
import Derived.Test.YtjcgkplphiedjaaGa
import Derived.Test.YtjcgkplphiedjaaGb
import Derived.Lib.QuietBelow
namespace Go.Proofs.Ytjcgkplphiedjaa
open Go.RowKit Go.Sort

def idleLs (ls : List Li) : List Li := ls.filter fun l => !idleB l
def cleanC (x : Cl) : Cl := ⟨x.h, none, 0, 0, idleLs x.ls⟩
def freeB (x : Cl) : Bool := (atO x).isNone
def trimL (cs : List Cl) : List Cl := (cs.map cleanC).filter freeB
def keptB (l : List Cl) (i : Nat) (x : Cl) : Bool := (twiceO l i x).isNone && (coveredO l i x).isNone
def keptOne (l : List Cl) (i : Nat) : List Cl := match l[i]? with
  | some x => if keptB l i x = true then [x] else []
  | none => []
def trimN (l : List Cl) : Nat → List Cl
  | 0 => []
  | i + 1 => trimN l i ++ keptOne l i
def trimF (cs : List Cl) : List Cl := if wellE cs = 0 then trimN (trimL cs) (trimL cs).length else cs

theorem idleB_core (l : Li) : idleB l = idleB (liOf l.core) := rfl
theorem idleLs_core (ls : List Li) : (idleLs ls).map Li.core = (ls.map Li.core).filter (fun p => !idleB (liOf p)) := by
  unfold idleLs
  rw [List.filter_map]
  rfl
theorem cleanC_core {x y : Cl} (h : x.core = y.core) : (cleanC x).core = (cleanC y).core := by
  have h1 : x.h.core = y.h.core := congrArg (fun p => p.1) h
  have h2 : x.ls.map Li.core = y.ls.map Li.core := congrArg (fun p => p.2) h
  show (x.h.core, (idleLs x.ls).map Li.core) = (y.h.core, (idleLs y.ls).map Li.core)
  rw [h1, idleLs_core, idleLs_core, h2]
theorem core_strip {x y : Cl} (h : x.core = y.core) : x.strip = y.strip := by rw [strip_core, strip_core, h]
theorem freeB_core {x y : Cl} (h : x.core = y.core) : freeB x = freeB y := by
  unfold freeB
  rw [← atO_strip x, core_strip h, atO_strip y]
theorem filter_core {p p' : Cl → Bool} : ∀ {l l' : List Cl}, l.map Cl.core = l'.map Cl.core → (∀ x ∈ l, ∀ y ∈ l', x.core = y.core → p x = p' y) → (l.filter p).map Cl.core = (l'.filter p').map Cl.core
  | [], [], _, _ => rfl
  | [], _ :: _, h, _ => by simp at h
  | _ :: _, [], h, _ => by simp at h
  | a :: l, b :: l', h, hp => by
    simp only [List.map_cons, List.cons.injEq] at h
    have ih := filter_core h.2 fun x hx y hy => hp x (List.mem_cons_of_mem _ hx) y (List.mem_cons_of_mem _ hy)
    have e := hp a (by simp) b (by simp) h.1
    simp only [List.filter_cons, e]
    cases p' b
    · simpa using ih
    · simp only [if_true, List.map_cons, h.1, ih]
theorem map_core {f g : Cl → Cl} (hf : ∀ x y : Cl, x.core = y.core → (f x).core = (g y).core) : ∀ {l l' : List Cl}, l.map Cl.core = l'.map Cl.core → (l.map f).map Cl.core = (l'.map g).map Cl.core
  | [], [], _ => rfl
  | [], _ :: _, h => by simp at h
  | _ :: _, [], h => by simp at h
  | a :: l, b :: l', h => by
    simp only [List.map_cons, List.cons.injEq] at h
    have ih := map_core hf h.2
    simp only [List.map_cons, hf a b h.1, ih]
theorem trimL_core {cs ds : List Cl} (h : cs.map Cl.core = ds.map Cl.core) : (trimL cs).map Cl.core = (trimL ds).map Cl.core :=
  filter_core (map_core (fun _ _ e => cleanC_core e) h) (fun _ _ _ _ e => freeB_core e)
theorem keptB_core {l l' : List Cl} (h : l.map Cl.core = l'.map Cl.core) (i : Nat) {x y : Cl} (e : x.core = y.core) : keptB l i x = keptB l' i y := by
  unfold keptB
  rw [← twiceO_strip l i x, ← coveredO_strip l i x, strips_core h, core_strip e, twiceO_strip, coveredO_strip]
theorem keptOne_core {l l' : List Cl} (h : l.map Cl.core = l'.map Cl.core) (i : Nat) : (keptOne l i).map Cl.core = (keptOne l' i).map Cl.core := by
  have h1 : (l[i]?).map Cl.core = (l'[i]?).map Cl.core := by rw [← List.getElem?_map, ← List.getElem?_map, h]
  unfold keptOne
  cases hx : l[i]? with
  | none =>
    rw [hx] at h1
    cases hy : l'[i]? with
    | none => rfl
    | some y => rw [hy] at h1; simp at h1
  | some x =>
    rw [hx] at h1
    cases hy : l'[i]? with
    | none => rw [hy] at h1; simp at h1
    | some y =>
      rw [hy] at h1
      have e : x.core = y.core := by simpa using h1
      dsimp only
      rw [keptB_core h i e]
      cases keptB l' i y
      · rfl
      · simp [e]
theorem trimN_core {l l' : List Cl} (h : l.map Cl.core = l'.map Cl.core) : ∀ i, (trimN l i).map Cl.core = (trimN l' i).map Cl.core
  | 0 => rfl
  | i + 1 => by rw [trimN, trimN, List.map_append, List.map_append, trimN_core h i, keptOne_core h i]
theorem wellE_core {cs ds : List Cl} (h : cs.map Cl.core = ds.map Cl.core) : wellE cs = wellE ds := by
  rw [← wellE_strip cs, strips_core h, wellE_strip]
theorem trimF_core {cs ds : List Cl} (h : cs.map Cl.core = ds.map Cl.core) : (trimF cs).map Cl.core = (trimF ds).map Cl.core := by
  have hl : (trimL cs).length = (trimL ds).length := by
    have := congrArg List.length (trimL_core h)
    simpa using this
  unfold trimF
  rw [wellE_core h, hl]
  split
  · exact trimN_core (trimL_core h) _
  · exact h
theorem trimL_succ (cs : List Cl) (k : Nat) (h : k < cs.length) : trimL (cs.take (k + 1)) = trimL (cs.take k) ++ (if freeB (cleanC cs[k]) = true then [cleanC cs[k]] else []) := by
  unfold trimL
  rw [take_snoc cs k h, List.map_append, List.filter_append]
  simp [List.filter_cons]
theorem trimL_len (cs : List Cl) : (trimL cs).length ≤ cs.length := by
  unfold trimL
  have := List.length_filter_le freeB (cs.map cleanC)
  rwa [List.length_map] at this
theorem trimN_len (l : List Cl) : ∀ i, (trimN l i).length ≤ i
  | 0 => Nat.le_refl _
  | i + 1 => by
    rw [trimN, List.length_append]
    have := trimN_len l i
    have h2 : (keptOne l i).length ≤ 1 := by
      unfold keptOne
      split
      · split <;> simp
      · simp
    omega
theorem idleLs_succ (ls : List Li) (k : Nat) (h : k < ls.length) : idleLs (ls.take (k + 1)) = idleLs (ls.take k) ++ (if idleB ls[k] = true then [] else [ls[k]]) := by
  unfold idleLs
  rw [take_snoc ls k h, List.filter_append]
  cases hb : idleB ls[k] <;> simp [hb]
theorem firstE_zero_mem {α : Type} {f : α → Int} : ∀ {l : List α}, firstE f l = 0 → ∀ x ∈ l, f x = 0
  | [], _, _, hx => by cases hx
  | a :: l, h, x, hx => by
    unfold firstE at h
    by_cases ha : f a = 0
    · rw [if_pos ha] at h
      rcases List.mem_cons.1 hx with rfl | hx
      · exact ha
      · exact firstE_zero_mem h x hx
    · rw [if_neg ha] at h
      exact absurd h ha
theorem firstE_zero_of {α : Type} {f : α → Int} : ∀ {l : List α}, (∀ x ∈ l, f x = 0) → firstE f l = 0
  | [], _ => rfl
  | a :: l, h => by
    unfold firstE
    rw [if_pos (h a (by simp))]
    exact firstE_zero_of fun x hx => h x (List.mem_cons_of_mem _ hx)
theorem cleanC_well {x : Cl} (h : clauseE x = 0) : clauseE (cleanC x) = 0 := by
  obtain ⟨h1, h2, h3⟩ := clauseE_parts h
  have hl : (idleLs x.ls).length ≤ 16 := Nat.le_trans (List.length_filter_le _ _) h2
  unfold clauseE
  show (if atomE x.h.p x.h.es = 0 then (if 16 < (idleLs x.ls).length then 23 else firstE litE (idleLs x.ls)) else atomE x.h.p x.h.es) = 0
  rw [if_pos h1, if_neg (by omega)]
  exact firstE_zero_of fun y hy => firstE_zero_mem h3 y (List.mem_filter.1 hy).1
end Go.Proofs.Ytjcgkplphiedjaa

namespace Go.Proofs.Ytjcgkplphiedjaa
open Go.RowKit

set_option maxRecDepth 20000 in
set_option maxHeartbeats 4000000 in
theorem lintCopied_any (x : Cl) (w : World) (hok : Cl.ok w x) :
    Calls Try.prog 32 #[.agg x.cells.toArray] w fun e w' => ∃ y : Cl, e = .returned (.agg y.cells.toArray) ∧ y.core = x.core ∧ Cl.own w' w.heap.size y ∧ Below w.heap.size w w' := by
  obtain ⟨i0, hi, hz0, hz1, hz2⟩ := info_parts Try.info33
  obtain ⟨j0, hj, hy0, hy1, hy2⟩ := info_parts Try.info61
  obtain ⟨⟨p, A, n, c, o, es⟩, B, m, d, ls⟩ := x
  obtain ⟨⟨ht, hA, hn40⟩, hl, hm152, hlk⟩ := hok
  dsimp only at ht hA hn40 hl hm152 hlk
  show Calls Try.prog 32 #[.agg #[.string p, .slice A n c, .int .i64 o, .slice B m d]] w _
  have HT := Lib.hid ht
  have HA := Lib.hid hA
  have HL := Lib.hid hl
  have HLK := Lib.hid hlk
  have hmb := hl.2.1
  have hnb := ht.2.1
  have hlen : ls.length = m := by have := hl.1; rw [lcells_length] at this; omega
  have HN := Lib.hid hlen
  have mk : ∀ W : World, (Instr.makeSlice 43 (.int .i64 0) (.int .i64 (m : Int))).run Try.prog W = .ok (.slice (some ⟨W.heap.size, 0, none⟩) 0 m) (W.alloc (.cells (madeCells (Value.agg #[.int .i64 0, .string ⟨#[]⟩, .slice none 0 0, .int .i64 0, .int .i64 0, .int .i64 0, .int .i64 0, .string ⟨#[]⟩, .int .i64 0, .int .i64 0, .int .i64 0, .string ⟨#[]⟩, .int .i64 0, .int .i64 0]).cells (m * 14)) 61)) := fun W => by
    have h := run_make_rowN (P := Try.prog) 43 61 j0 _ Try.underlying43 hj hy0 .i64 .i64 0 m (Nat.zero_le _) (by rw [hy2]; omega) (by omega) W
    rw [hy1] at h
    exact h
  clear ht hA hl hlk hlen
  go_enter Try.func32, Try.ntmps32
  go_upto_region 1 with (fail)
  obtain ⟨hb3, h1, h2, hs3⟩ := two_alloc w 45 45 [.string p, .slice A n c, .int .i64 o, .slice B m d] [.string ⟨#[]⟩, .slice none 0 0, .int .i64 0, .slice none 0 0]
  generalize World.alloc (World.alloc _ _) _ = w3 at *
  generalize hR : w.heap.size = R at *
  have HRR := Lib.hid hR
  clear hR
  have HB3 := Lib.hid hb3
  have H1 := Lib.hid h1
  have H2 := Lib.hid h2
  have HS3 := Lib.hid hs3
  clear hb3 h1 h2 hs3
  have f1 := H1.out.cell 1
  simp only [List.getElem?_cons_zero, List.getElem?_cons_succ] at f1
  have hown0 : (w3.alloc (.cells #[] 33)).ownsRow R 33 4 (.slice (some ⟨w3.heap.size, 0, none⟩) 0 0) 0 [] := own_empty (by have := HS3.out; omega)
  have hba := (Below.refl w3.heap.size w3).alloc (Nat.le_refl _) (.cells #[] 33)
  have hbw : R ≤ (w3.alloc (.cells #[] 33)).heap.size := by have := hba.size; have := HS3.out; omega
  have HRd : Hid (Rd (w3.alloc (.cells #[] 33)) (w3.alloc (.cells #[] 33)).heap.size 4 A n (tcells es)) := Lib.hid ((HT.out.up HB3.out (by have := HS3.out; omega)).up hba hba.size)
  clear hba
  have hRl := H1.out.lt
  go_wp2_with (at_builtin; go_must (refine wpList_append_all rfl _ _ 25 rfl R 33 i0 _ 4 40 Try.underlying25 hi hz0 hz1 hz2 rfl (by decide) _ _ _ rfl hown0 A n c (tcells es) rfl HA.out HRd.out (terms_one es) (by unfold maxLen; omega) (by omega) hbw ?_))
  intro v4 w4 hown4 hg4
  have a1 := (H1.out.alloc (.cells #[] 33)).grown hg4 (own_blk_ne hown0 (H1.out.alloc _) (by decide))
  have a2 := (H2.out.alloc (.cells #[] 33)).grown hg4 (own_blk_ne hown0 (H2.out.alloc _) (by decide))
  have B4 := (HB3.out.alloc (by have := HS3.out; omega) (.cells #[] 33)).grown hg4 hbw (fun k hk => (hown0.lt k hk).1)
  obtain ⟨A4, c4, rfl, hn4⟩ := own_slice hown4
  have z3 := a1.frozen 1
  have g3 := a1.cell 1
  simp only [List.getElem?_cons_zero, List.getElem?_cons_succ] at g3
  have hl3 := a1.lt
  clear hown0 hg4 HB3 H1 H2 f1 HRd hbw hRl
  have HA1 := Lib.hid a1
  have HA2 := Lib.hid a2
  have HB4 := Lib.hid B4
  have HO4 := Lib.hid hown4
  clear a1 a2 B4 hown4
  go_upto_region 2 with (fail)
  have HG1 := Lib.hid (HA1.out.set_ 1 (.slice A4 n c4))
  have HG2 := Lib.hid (HA2.out.far (p := ⟨R, 1, none⟩) (by simp) (.slice A4 n c4))
  have HOG := Lib.hid (own_setCell_blk HO4.out HA1.out (by decide) 1 (.slice A4 n c4))
  have HBG := Lib.hid (HB4.out.setCell (p := ⟨R, 1, none⟩) (Nat.le_refl _) (.slice A4 n c4))
  simp only [List.set_cons_succ, List.set_cons_zero] at HG1
  clear HA1 HA2 HB4 HO4 z3 g3 hl3 HS3
  generalize World.setCell _ _ _ = w5 at *
  have f3 := HG1.out.cell 3
  simp only [List.getElem?_cons_zero, List.getElem?_cons_succ] at f3
  go_upto_region 3 with (fail)
  have hm63 : m ≤ maxLen := by unfold maxLen; omega
  have hl5 := HG1.out.lt
  have HV := Lib.hid (own_made (w := w5) (base := R) (e := 61) (size := 14) (c := m) #[.int .i64 0, .string ⟨#[]⟩, .slice none 0 0, .int .i64 0, .int .i64 0, .int .i64 0, .int .i64 0, .string ⟨#[]⟩, .int .i64 0, .int .i64 0, .int .i64 0, .string ⟨#[]⟩, .int .i64 0, .int .i64 0] (by omega) hm63)
  have HJ1 := Lib.hid (HG1.out.alloc (.cells (madeCells #[.int .i64 0, .string ⟨#[]⟩, .slice none 0 0, .int .i64 0, .int .i64 0, .int .i64 0, .int .i64 0, .string ⟨#[]⟩, .int .i64 0, .int .i64 0, .int .i64 0, .string ⟨#[]⟩, .int .i64 0, .int .i64 0] (m * 14)) 61))
  have HJ2 := Lib.hid (HG2.out.alloc (.cells (madeCells #[.int .i64 0, .string ⟨#[]⟩, .slice none 0 0, .int .i64 0, .int .i64 0, .int .i64 0, .int .i64 0, .string ⟨#[]⟩, .int .i64 0, .int .i64 0, .int .i64 0, .string ⟨#[]⟩, .int .i64 0, .int .i64 0] (m * 14)) 61))
  have HJO := Lib.hid (HOG.out.alloc (.cells (madeCells #[.int .i64 0, .string ⟨#[]⟩, .slice none 0 0, .int .i64 0, .int .i64 0, .int .i64 0, .int .i64 0, .string ⟨#[]⟩, .int .i64 0, .int .i64 0, .int .i64 0, .string ⟨#[]⟩, .int .i64 0, .int .i64 0] (m * 14)) 61))
  have HJB := Lib.hid (HBG.out.alloc (by omega) (.cells (madeCells #[.int .i64 0, .string ⟨#[]⟩, .slice none 0 0, .int .i64 0, .int .i64 0, .int .i64 0, .int .i64 0, .string ⟨#[]⟩, .int .i64 0, .int .i64 0, .int .i64 0, .string ⟨#[]⟩, .int .i64 0, .int .i64 0] (m * 14)) 61))
  clear HG1 HG2 HOG HBG hl5 hm63 f3
  have hw5 : ∃ q5 : Nat, w5.heap.size = q5 := ⟨_, rfl⟩
  obtain ⟨q5, hq5⟩ := hw5
  rw [hq5] at HV ⊢
  clear hq5
  generalize World.alloc _ _ = w6 at *
  have f3 := HJ1.out.cell 3
  simp only [List.getElem?_cons_zero, List.getElem?_cons_succ] at f3
  go_wp2
  clear f3
  go_loopg [3, 20] m (fun gk u3 u20 wr => ∃ (k : Nat) (acc : List Li), u20 = .int .i64 k ∧ k ≤ m ∧ gk = m - k ∧ Hid (Below R w wr) ∧ Hid (Blk wr R 45 [.string p, .slice A4 n c4, .int .i64 o, .slice B m d]) ∧ Hid (Blk wr (R + 1) 45 [.string ⟨#[]⟩, .slice none 0 0, .int .i64 0, .slice none 0 0]) ∧
    Hid (wr.ownsRow R 33 4 (.slice A4 n c4) n (tcells es)) ∧ Hid (wr.ownsRow R 61 14 u3 k (lcells acc)) ∧ Hid (acc.map Li.core = (ls.take k).map Li.core) ∧ Hid (∀ y ∈ acc, At.own wr R y.a))
  case atStart => exact ⟨0, [], rfl, Nat.zero_le _, by omega, HJB, HJ1, HJ2, HJO, HV, Lib.hid rfl, Lib.hid (by simp)⟩
  case round =>
    clear HJB HJ1 HJ2 HJO HV
    obtain ⟨k, acc, rfl, hk, hgk, HB, H1, H2, HO, HV, HC, HW⟩ := hrel
    have HG := Lib.hid hgk
    clear hgk
    by_cases hlt : k < m
    · obtain ⟨B', off, hk1, rfl, hB, hc⟩ := (HL.out.below HB.out).at Li.cells 14 (fun _ => rfl) (by omega) k hlt
      have c0 := hc 0 _ (by omega) rfl
      have c1 := hc 1 _ (by omega) rfl
      have c2 := hc 2 _ (by omega) rfl
      have c3 := hc 3 _ (by omega) rfl
      have c4' := hc 4 _ (by omega) rfl
      have c5 := hc 5 _ (by omega) rfl
      have c6 := hc 6 _ (by omega) rfl
      have c7 := hc 7 _ (by omega) rfl
      have c8 := hc 8 _ (by omega) rfl
      have c9 := hc 9 _ (by omega) rfl
      have c10 := hc 10 _ (by omega) rfl
      have c11 := hc 11 _ (by omega) rfl
      have c12 := hc 12 _ (by omega) rfl
      have c13 := hc 13 _ (by omega) rfl
      rw [Nat.add_zero] at c0
      clear hc
      have hlkk := HLK.out ls[k] (List.getElem_mem hk1)
      have HTK := Lib.hid (take_snoc ls k hk1)
      go_upto_region 6 with (fail)
      have HBA := Lib.hid ((Below.refl wr.heap.size wr).alloc (Nat.le_refl _) (.cells (ls[k]).cells.toArray 61))
      have HX := Lib.hid (Blk.new wr 61 (ls[k]).cells)
      have hRZ : R + 1 < wr.heap.size := H2.out.lt
      simp only [Li.cells] at HBA HX
      clear c0 c1 c2 c3 c4' c5 c6 c7 c8 c9 c10 c11 c12 c13
      generalize ls[k] = z at *
      obtain ⟨zk, ⟨zp, zA, zn, zc, zo, zes⟩, zop, zl, zr, zof⟩ := z
      dsimp only at HBA HX
      generalize World.alloc _ _ = wa at *
      have hsa := HX.out.lt
      generalize hZ : wr.heap.size = Z at *
      have HZ := Lib.hid hZ
      clear hZ
      obtain ⟨hzt, hzA, hz40⟩ := hlkk
      dsimp only at hzt hzA hz40
      have HZT := Lib.hid hzt
      have HZA := Lib.hid hzA
      have hznb := hzt.2.1
      clear hzt hzA
      have hown0 : (wa.alloc (.cells #[] 33)).ownsRow Z 33 4 (.slice (some ⟨wa.heap.size, 0, none⟩) 0 0) 0 [] := own_empty (by omega)
      have hba := (Below.refl wa.heap.size wa).alloc (Nat.le_refl _) (.cells #[] 33)
      have hbw : Z ≤ (wa.alloc (.cells #[] 33)).heap.size := by have := hba.size; omega
      have HRd : Hid (Rd (wa.alloc (.cells #[] 33)) (wa.alloc (.cells #[] 33)).heap.size 4 zA zn (tcells zes)) := Lib.hid ((HZT.out.up ((HRR.out ▸ HB.out : Below w.heap.size w wr).trans (HBA.out.mono (by have := HRR.out; omega))) (by have := HRR.out; omega)).up hba hba.size)
      clear hba
      have g2 := HX.out.cell 2
      simp only [List.getElem?_cons_zero, List.getElem?_cons_succ] at g2
      go_wp2_with (at_builtin; go_must (refine wpList_append_all rfl _ _ 25 rfl Z 33 i0 _ 4 40 Try.underlying25 hi hz0 hz1 hz2 rfl (by decide) _ _ _ rfl hown0 zA zn zc (tcells zes) rfl HZA.out HRd.out (terms_one zes) (by unfold maxLen; omega) (by omega) hbw ?_))
      intro v5 w5 hown5 hg5
      have b5 := (HX.out.alloc (.cells #[] 33)).grown hg5 (own_blk_ne hown0 (HX.out.alloc _) (by decide))
      have B5 := (HBA.out.alloc (by omega) (.cells #[] 33)).grown hg5 hbw (fun k hk => (hown0.lt k hk).1)
      obtain ⟨A5, d5, rfl, hn5⟩ := own_slice hown5
      have z5 := b5.frozen 2
      have g5 := b5.cell 2
      simp only [List.getElem?_cons_zero, List.getElem?_cons_succ] at g5
      have hl5 := b5.lt
      clear hown0 hg5 HBA HX g2 HRd hbw hsa
      have HX5 := Lib.hid b5
      have HB5 := Lib.hid B5
      have HO5 := Lib.hid hown5
      clear b5 B5 hown5
      go_upto_region 7 with (fail)
      have HX6 := Lib.hid (HX5.out.set_ 2 (.slice A5 zn d5))
      have HO6 := Lib.hid (own_setCell_blk HO5.out HX5.out (by decide) 2 (.slice A5 zn d5))
      have HB6 := Lib.hid (HB5.out.setCell (p := ⟨Z, 2, none⟩) (by simp) (.slice A5 zn d5))
      simp only [List.set_cons_succ, List.set_cons_zero] at HX6
      clear HX5 HB5 HO5 z5 g5 hl5
      generalize World.setCell _ _ _ = w6 at *
      have hbz : Below wr.heap.size wr w6 := by rw [HZ.out]; exact HB6.out
      have HBR := Lib.hid (HB.out.trans (HB6.out.mono (by omega)))
      have K1 := Lib.hid (H1.out.below HB6.out (by omega))
      have K2 := Lib.hid (H2.out.below HB6.out (by omega))
      have KO := Lib.hid (own_below HO.out hbz)
      have hownb := own_below HV.out hbz
      have KW : Hid (∀ y ∈ acc, At.own w6 R y.a) := Lib.hid fun y hy => (HW.out y hy).below hbz
      clear hbz HB H1 H2 HO HV HW
      have x0 := HX6.out.cell 0
      have x1 := HX6.out.cell 1
      have x2 := HX6.out.cell 2
      have x3 := HX6.out.cell 3
      have x4 := HX6.out.cell 4
      have x5 := HX6.out.cell 5
      have x6 := HX6.out.cell 6
      have x7 := HX6.out.cell 7
      have x8 := HX6.out.cell 8
      have x9 := HX6.out.cell 9
      have x10 := HX6.out.cell 10
      have x11 := HX6.out.cell 11
      have x12 := HX6.out.cell 12
      have x13 := HX6.out.cell 13
      simp only [List.getElem?_cons_zero, List.getElem?_cons_succ] at x0 x1 x2 x3 x4 x5 x6 x7 x8 x9 x10 x11 x12 x13
      have hl6 := K2.out.lt
      have hm152' := hm152
      go_wp2_with (at_builtin; go_must (refine wpList_append_own _ rfl _ _ 43 rfl R 61 j0 _ 14 152 Try.underlying43 hj hy0 hy1 hy2 rfl (by decide) _ _ _ rfl (hownb.alloc _) ⟨w6.heap.size, 0, none⟩ 1 1 (Li.cells ⟨zk, ⟨zp, A5, zn, d5, zo, zes⟩, zop, zl, zr, zof⟩) rfl rfl (fun j u h => new_cells _ _ _ j u h) (Li.one _) (by unfold maxLen; omega) (by omega) (by simp; omega) ?_))
      intro v7 w7 hown7 hg7 _
      obtain ⟨A7, d7, rfl, hn7⟩ := own_slice hown7
      have a1 := (K1.out.alloc (.cells (Li.cells ⟨zk, ⟨zp, A5, zn, d5, zo, zes⟩, zop, zl, zr, zof⟩).toArray 61)).grown hg7 (own_blk_ne hownb K1.out (by decide))
      have a2 := (K2.out.alloc (.cells (Li.cells ⟨zk, ⟨zp, A5, zn, d5, zo, zes⟩, zop, zl, zr, zof⟩).toArray 61)).grown hg7 (own_blk_ne hownb K2.out (by decide))
      have BL := (HBR.out.alloc (by omega) (.cells (Li.cells ⟨zk, ⟨zp, A5, zn, d5, zo, zes⟩, zop, zl, zr, zof⟩).toArray 61)).grown hg7 (by simp; omega) (fun q hq => (hownb.lt q hq).1)
      have O7 := own_kept_types (KO.out.alloc (.cells (Li.cells ⟨zk, ⟨zp, A5, zn, d5, zo, zes⟩, zop, zl, zr, zof⟩).toArray 61)) (hownb.alloc _) (by decide) hg7
      have W7 : ∀ q ∈ acc ++ [(⟨zk, ⟨zp, A5, zn, d5, zo, zes⟩, zop, zl, zr, zof⟩ : Li)], At.own w7 R q.a := by
        intro q hq
        rcases List.mem_append.1 hq with hq | hq
        · exact own_kept_types (World.ownsRow.alloc (KW.out q hq) (.cells (Li.cells ⟨zk, ⟨zp, A5, zn, d5, zo, zes⟩, zop, zl, zr, zof⟩).toArray 61)) (hownb.alloc _) (by decide) hg7
        · rw [List.mem_singleton.1 hq]
          exact own_kept_types (World.ownsRow.alloc (own_le HO6.out (by omega)) (.cells (Li.cells ⟨zk, ⟨zp, A5, zn, d5, zo, zes⟩, zop, zl, zr, zof⟩).toArray 61)) (hownb.alloc _) (by decide) hg7
      have C7 : (acc ++ [(⟨zk, ⟨zp, A5, zn, d5, zo, zes⟩, zop, zl, zr, zof⟩ : Li)]).map Li.core = (ls.take (k + 1)).map Li.core := by
        rw [HTK.out, List.map_append, List.map_append, HC.out]; rfl
      have V7 : w7.ownsRow R 61 14 (.slice A7 (k + 1) d7) (k + 1) (lcells (acc ++ [(⟨zk, ⟨zp, A5, zn, d5, zo, zes⟩, zop, zl, zr, zof⟩ : Li)])) := by
        rw [lcells_append]; simpa [lcells] using hown7
      have HA1 := Lib.hid a1
      have HA2 := Lib.hid a2
      have HBL := Lib.hid BL
      have HO7 := Lib.hid O7
      have HW7 := Lib.hid W7
      have HC7 := Lib.hid C7
      have HV7 := Lib.hid V7
      clear a1 a2 BL O7 W7 C7 V7 hown7 hownb hg7 K1 K2 KO KW HBR HX6 HO6 HB6 x0 x1 x2 x3 x4 x5 x6 x7 x8 x9 x10 x11 x12 x13 hl6 HTK HC HZT HZA
      go_wp2
      go_roundg (m - (k + 1))
      case measure => have := HG.out; omega
      case rel => exact ⟨k + 1, _, by go_num, by omega, rfl, HBL, HA1, HA2, HO7, HV7, HC7, HW7⟩
    · obtain rfl : k = m := by omega
      have hall : ls.take k = ls := List.take_of_length_le (by have := HN.out; omega)
      rw [hall] at HC
      obtain ⟨Ab, cb, rfl, hnb2⟩ := own_slice HV.out
      have q3 := H1.out.cell 3
      have s3' := H1.out.frozen 3
      have hl1 := H1.out.lt
      simp only [List.getElem?_cons_zero, List.getElem?_cons_succ] at q3
      go_upto_region 10 with (fail)
      have J1 := Lib.hid (H1.out.set_ 3 (.slice Ab k cb))
      have J2 := Lib.hid (H2.out.far (p := ⟨R, 3, none⟩) (by simp) (.slice Ab k cb))
      have JO := Lib.hid (own_setCell_blk HO.out H1.out (by decide) 3 (.slice Ab k cb))
      have JV := Lib.hid (own_setCell_blk HV.out H1.out (by decide) 3 (.slice Ab k cb))
      have JB := Lib.hid (HB.out.setCell (p := ⟨R, 3, none⟩) (Nat.le_refl _) (.slice Ab k cb))
      have JW : Hid (∀ q ∈ acc, At.own (wr.setCell ⟨R, 3, none⟩ (.slice Ab k cb)) R q.a) := Lib.hid fun q hq => own_setCell_blk (HW.out q hq) H1.out (by decide) 3 (.slice Ab k cb)
      simp only [List.set_cons_succ, List.set_cons_zero] at J1
      clear H1 H2 HO HV HB HW q3 s3' hl1
      generalize World.setCell _ _ _ = wr at *
      have q0 := J1.out.cell 0
      have q1 := J1.out.cell 1
      have q2 := J1.out.cell 2
      have q3 := J1.out.cell 3
      have r0 := J2.out.cell 0
      have r1 := J2.out.cell 1
      have r2 := J2.out.cell 2
      have r3 := J2.out.cell 3
      have s0 := J2.out.frozen 0
      have s1 := J2.out.frozen 1
      have s2 := J2.out.frozen 2
      have s3 := J2.out.frozen 3
      have hl2 := J2.out.lt
      have hl3 := J1.out.lt
      simp only [List.getElem?_cons_zero, List.getElem?_cons_succ] at q0 q1 q2 q3 r0 r1 r2 r3
      have D1 := J2.out.set_ 0 (.string p)
      have D2 := D1.set_ 1 (.slice A4 n c4)
      have D3 := D2.set_ 2 (.int .i64 o)
      have D4 := D3.set_ 3 (.slice Ab k cb)
      have set4 : ∀ (e : TypeId) (size m : Nat) (v : Value) (xs : List Value), e ≠ 45 → wr.ownsRow R e size v m xs → ((((wr.setCell ⟨R + 1, 0, none⟩ (.string p)).setCell ⟨R + 1, 1, none⟩ (.slice A4 n c4)).setCell ⟨R + 1, 2, none⟩ (.int .i64 o)).setCell ⟨R + 1, 3, none⟩ (.slice Ab k cb)).ownsRow R e size v m xs :=
        fun e size m v xs hne h => own_setCell_blk (own_setCell_blk (own_setCell_blk (own_setCell_blk h J2.out (Ne.symm hne) 0 _) D1 (Ne.symm hne) 1 _) D2 (Ne.symm hne) 2 _) D3 (Ne.symm hne) 3 _
      have E1 := set4 33 4 n _ _ (by decide) JO.out
      have E2 := set4 61 14 k _ _ (by decide) JV.out
      have E3 : ∀ q ∈ acc, At.own ((((wr.setCell ⟨R + 1, 0, none⟩ (.string p)).setCell ⟨R + 1, 1, none⟩ (.slice A4 n c4)).setCell ⟨R + 1, 2, none⟩ (.int .i64 o)).setCell ⟨R + 1, 3, none⟩ (.slice Ab k cb)) R q.a := fun q hq => set4 33 4 _ _ _ (by decide) (JW.out q hq)
      have E4 := (((JB.out.setCell (p := ⟨R + 1, 0, none⟩) (by simp) (.string p)).setCell (p := ⟨R + 1, 1, none⟩) (by simp) (.slice A4 n c4)).setCell (p := ⟨R + 1, 2, none⟩) (by simp) (.int .i64 o)).setCell (p := ⟨R + 1, 3, none⟩) (by simp) (.slice Ab k cb)
      have p0 := D4.cell 0
      have p1 := D4.cell 1
      have p2 := D4.cell 2
      have p3 := D4.cell 3
      simp at p0 p1 p2 p3
      have HE1 := Lib.hid E1
      have HE2 := Lib.hid E2
      have HE3 := Lib.hid E3
      have HE4 := Lib.hid E4
      clear E1 E2 E3 E4 D1 D2 D3 D4 set4 JB J1 J2 JO JV JW
      go_wp2
      refine bodyPost_ret (v := .agg #[.string p, .slice A4 n c4, .int .i64 o, .slice Ab k cb]) ?_ rfl ⟨⟨⟨p, A4, n, c4, o, es⟩, Ab, k, cb, acc⟩, rfl, ?_, ?_, ?_⟩
      · simp [results, Try.results32, go_sem, p0, p1, p2, p3]
      · simp only [Cl.core, At.core, HC.out]
      · rw [HRR.out]
        exact ⟨HE1.out, HE2.out, HE3.out⟩
      · rw [HRR.out]; exact HE4.out
end Go.Proofs.Ytjcgkplphiedjaa

namespace Go.Proofs.Ytjcgkplphiedjaa
open Go.RowKit Go.Sort

def av (p : ByteArray) (A : Option Addr) (n c : Nat) (o : Int) : Value := .agg #[.string p, .slice A n c, .int .i64 o]
@[simp] theorem run_neqT18 (k i o : Int) (t : ByteArray) (w : World) :
    (binOp .neq 33 (.agg #[.int .i64 k, .int .i64 i, .string t, .int .i64 o]) (.agg #[.int .i64 k, .int .i64 i, .string t, .int .i64 o])).run Try.prog w = .ok (.bool false) w := by
  have e : (k == k && i == i && t.toList == t.toList && o == o) = true := by simp
  rw [run_neq_struct, eqIn44, e]; rfl

set_option maxHeartbeats 1000000 in
theorem atoms18_any (p : ByteArray) (A A' : Option Addr) (n c c' : Nat) (o : Int) (es : List T) (w : World) (hr : Rd w w.heap.size 4 A n (tcells es)) (hr' : Rd w w.heap.size 4 A' n (tcells es)) :
    Calls Try.prog 33 #[av p A n c o, av p A' n c' o] w fun e w' => e = .returned (.bool true) ∧ Below w.heap.size w w' := by
  have HR := Lib.hid hr
  have HR' := Lib.hid hr'
  have hn := hr.2.1
  clear hr hr'
  unfold av
  go_enter Try.func33, Try.ntmps33
  go_wp2
  have hb0 := Lib.hid (((Below.refl w.heap.size w).alloc (Nat.le_refl _) (.cells #[.string p, .slice A n c, .int .i64 o] 27)).alloc (by simp) (.cells #[.string p, .slice A' n c', .int .i64 o] 27))
  have h1 := Lib.hid ((Blk.new w 27 [.string p, .slice A n c, .int .i64 o]).alloc (.cells #[.string p, .slice A' n c', .int .i64 o] 27))
  have h2 := Blk.new (w.alloc (.cells #[.string p, .slice A n c, .int .i64 o] 27)) 27 [.string p, .slice A' n c', .int .i64 o]
  rw [show (w.alloc (.cells #[.string p, .slice A n c, .int .i64 o] 27)).heap.size = w.heap.size + 1 by simp] at h2
  have h2 := Lib.hid h2
  have f1 : ((w.alloc (.cells #[.string p, .slice A n c, .int .i64 o] 27)).alloc (.cells #[.string p, .slice A' n c', .int .i64 o] 27)).cell? ⟨w.heap.size, 1, none⟩ = some (.slice A n c) := h1.out.cell 1
  have f2 : ((w.alloc (.cells #[.string p, .slice A n c, .int .i64 o] 27)).alloc (.cells #[.string p, .slice A' n c', .int .i64 o] 27)).cell? ⟨w.heap.size + 1, 1, none⟩ = some (.slice A' n c') := h2.out.cell 1
  clear h1 h2
  generalize World.alloc _ _ = w1 at *
  generalize hR : w.heap.size = R at *
  have HRR := Lib.hid hR
  clear hR
  go_loopw [5] (fun i wr => ∃ k : Nat, i = .int .i64 k ∧ k ≤ n ∧ Hid (Below R w wr) ∧ wr.cell? ⟨R, 1, none⟩ = some (.slice A n c) ∧ wr.cell? ⟨R + 1, 1, none⟩ = some (.slice A' n c')) (fun i _ => n - (intOf i).toNat)
  case atStart => exact ⟨0, rfl, Nat.zero_le _, hb0, f1, f2⟩
  case round =>
    clear hb0 f1 f2
    obtain ⟨k, rfl, hk, hb, f1, f2⟩ := hrel
    by_cases hlt : k < n
    · obtain ⟨B, off, hk1, rfl, hB, c0, c1, c2, c3⟩ := (HR.out.below hb.out).term k hlt
      obtain ⟨B', off', _, rfl, hB', d0, d1, d2, d3⟩ := (HR'.out.below hb.out).term k hlt
      go_wp2
      go_quiet (fail)
      go_wp2
      go_roundw
      case rel => exact ⟨k + 1, by go_num, by omega, below_drewN hb.out _, f1, f2⟩
      case measure => simp [intOf]; omega
    · go_wp2
      go_ret
      exact ⟨rfl, by have := HRR.out; rw [this]; exact hb.out⟩


set_option maxRecDepth 20000 in
set_option maxHeartbeats 4000000 in
theorem bodies18_any (A A' : Option Addr) (n c c' : Nat) (ls ls' : List Li) (w : World) (hr : Rd w w.heap.size 14 A n (lcells ls)) (hr' : Rd w w.heap.size 14 A' n (lcells ls')) (hok : ∀ x ∈ ls, Li.ok w x) (hok' : ∀ x ∈ ls', Li.ok w x) (hc : ls.map Li.core = ls'.map Li.core) :
    Calls Try.prog 34 #[.slice A n c, .slice A' n c'] w fun e w' => e = .returned (.bool true) ∧ Below w.heap.size w w' := by
  have HR := Lib.hid hr
  have HR' := Lib.hid hr'
  have HK := Lib.hid hok
  have HK' := Lib.hid hok'
  have HC := Lib.hid hc
  have hn := hr.2.1
  clear hr hr' hok hok' hc
  go_enter Try.func34, Try.ntmps34
  have hnn : ((n : Int) != (n : Int)) = false := by simp
  go_wp2
  clear hnn
  go_loopg [5] n (fun gk u5 wr => ∃ k : Nat, u5 = .int .i64 k ∧ k ≤ n ∧ Hid (gk = n - k) ∧ Hid (Below w.heap.size w wr))
  case atStart => exact ⟨0, rfl, Nat.zero_le _, Lib.hid (by omega), Lib.hid (Below.refl _ _)⟩
  case round =>
    obtain ⟨k, rfl, hk, HG, HB⟩ := hrel
    by_cases hlt : k < n
    · obtain ⟨B, off, hk1, rfl, hB, hc⟩ := (HR.out.below HB.out).at Li.cells 14 (fun _ => rfl) (by omega) k hlt
      obtain ⟨B', off', hk1', rfl, hB', hc'⟩ := (HR'.out.below HB.out).at Li.cells 14 (fun _ => rfl) (by omega) k hlt
      have c0 := hc 0 _ (by omega) rfl
      have c1 := hc 1 _ (by omega) rfl
      have c2 := hc 2 _ (by omega) rfl
      have c3 := hc 3 _ (by omega) rfl
      have c4 := hc 4 _ (by omega) rfl
      have c5 := hc 5 _ (by omega) rfl
      have c6 := hc 6 _ (by omega) rfl
      have c7 := hc 7 _ (by omega) rfl
      have c8 := hc 8 _ (by omega) rfl
      have c9 := hc 9 _ (by omega) rfl
      have c10 := hc 10 _ (by omega) rfl
      have c11 := hc 11 _ (by omega) rfl
      have c12 := hc 12 _ (by omega) rfl
      have c13 := hc 13 _ (by omega) rfl
      have d0 := hc' 0 _ (by omega) rfl
      have d1 := hc' 1 _ (by omega) rfl
      have d2 := hc' 2 _ (by omega) rfl
      have d3 := hc' 3 _ (by omega) rfl
      have d4 := hc' 4 _ (by omega) rfl
      have d5 := hc' 5 _ (by omega) rfl
      have d6 := hc' 6 _ (by omega) rfl
      have d7 := hc' 7 _ (by omega) rfl
      have d8 := hc' 8 _ (by omega) rfl
      have d9 := hc' 9 _ (by omega) rfl
      have d10 := hc' 10 _ (by omega) rfl
      have d11 := hc' 11 _ (by omega) rfl
      have d12 := hc' 12 _ (by omega) rfl
      have d13 := hc' 13 _ (by omega) rfl
      rw [Nat.add_zero] at c0 d0
      clear hc hc'
      have hz := HK.out ls[k] (List.getElem_mem hk1)
      have hz' := HK'.out ls'[k] (List.getElem_mem hk1')
      have hcore : ls[k].core = ls'[k].core := by
        have := congrArg (fun l => l[k]?) HC.out
        simpa [hk1, hk1'] using this
      have hsz := HB.out.size
      generalize ls[k] = z at *
      generalize ls'[k] = z' at *
      obtain ⟨zk, ⟨zp, zA, zn, zc, zo, zes⟩, zop, zl, zr, zof⟩ := z
      obtain ⟨yk, ⟨yp, yA, yn, yc, yo, yes⟩, yop, yl, yr, yof⟩ := z'
      simp only [Li.core, At.core, Prod.mk.injEq] at hcore
      obtain ⟨rfl, ⟨rfl, rfl, rfl⟩, rfl, rfl, rfl, rfl⟩ := hcore
      have hzn : zn = yn := by
        have h1 := hz.1.1
        have h2 := hz'.1.1
        dsimp only at h1 h2
        omega
      subst hzn
      have HZ := Lib.hid hz.1
      have HZ' := Lib.hid hz'.1
      clear hz hz'
      have hBw : B' < wr.heap.size := by omega
      go_upto_region 8 with (fail)
      have hba := ((Below.refl wr.heap.size wr).alloc (Nat.le_refl _) (.cells (Li.cells ⟨zk, ⟨zp, zA, zn, zc, zo, zes⟩, zop, zl, zr, zof⟩).toArray 61)).alloc (by simp) (.cells (Li.cells ⟨zk, ⟨zp, yA, zn, yc, zo, zes⟩, zop, zl, zr, zof⟩).toArray 61)
      have hp1 := (Blk.new wr 61 (Li.cells ⟨zk, ⟨zp, zA, zn, zc, zo, zes⟩, zop, zl, zr, zof⟩)).alloc (.cells (Li.cells ⟨zk, ⟨zp, yA, zn, yc, zo, zes⟩, zop, zl, zr, zof⟩).toArray 61)
      have hp2 := Blk.new (wr.alloc (.cells (Li.cells ⟨zk, ⟨zp, zA, zn, zc, zo, zes⟩, zop, zl, zr, zof⟩).toArray 61)) 61 (Li.cells ⟨zk, ⟨zp, yA, zn, yc, zo, zes⟩, zop, zl, zr, zof⟩)
      rw [show (wr.alloc (.cells (Li.cells ⟨zk, ⟨zp, zA, zn, zc, zo, zes⟩, zop, zl, zr, zof⟩).toArray 61)).heap.size = wr.heap.size + 1 by simp] at hp2
      have HB2 := Lib.hid (HB.out.trans (hba.mono hsz))
      have HP1 := Lib.hid hp1
      have HP2 := Lib.hid hp2
      simp only [Li.cells] at HB2 HP1 HP2
      clear hba hp1 hp2 hsz HB c0 d0 c1 d1 c2 d2 c3 d3 c4 d4 c5 d5 c6 d6 c7 d7 c8 d8 c9 d9 c10 d10 c11 d11 c12 d12 c13 d13
      generalize World.alloc (World.alloc _ _) _ = wa at *
      generalize wr.heap.size = P at *
      have x0 := HP1.out.cell 0
      have x1 := HP1.out.cell 1
      have x2 := HP1.out.cell 2
      have x3 := HP1.out.cell 3
      have x4 := HP1.out.cell 4
      have x5 := HP1.out.cell 5
      have x6 := HP1.out.cell 6
      have x7 := HP1.out.cell 7
      have x8 := HP1.out.cell 8
      have x9 := HP1.out.cell 9
      have x10 := HP1.out.cell 10
      have x11 := HP1.out.cell 11
      have x12 := HP1.out.cell 12
      have x13 := HP1.out.cell 13
      have y0 := HP2.out.cell 0
      have y1 := HP2.out.cell 1
      have y2 := HP2.out.cell 2
      have y3 := HP2.out.cell 3
      have y4 := HP2.out.cell 4
      have y5 := HP2.out.cell 5
      have y6 := HP2.out.cell 6
      have y7 := HP2.out.cell 7
      have y8 := HP2.out.cell 8
      have y9 := HP2.out.cell 9
      have y10 := HP2.out.cell 10
      have y11 := HP2.out.cell 11
      have y12 := HP2.out.cell 12
      have y13 := HP2.out.cell 13
      simp only [List.getElem?_cons_zero, List.getElem?_cons_succ] at x0 y0 x1 y1 x2 y2 x3 y3 x4 y4 x5 y5 x6 y6 x7 y7 x8 y8 x9 y9 x10 y10 x11 y11 x12 y12 x13 y13
      go_wp2_with fail
      refine (atoms18_any zp zA yA zn zc yc zo zes wa (HZ.out.up HB2.out HB2.out.size) (HZ'.out.up HB2.out HB2.out.size)).mono ?_
      rintro e w5 ⟨rfl, hb5⟩
      have HB5 := Lib.hid (HB2.out.trans (hb5.mono HB2.out.size))
      clear hb5 HP1 HP2 HB2 x0 y0 x1 y1 x2 y2 x3 y3 x4 y4 x5 y5 x6 y6 x7 y7 x8 y8 x9 y9 x10 y10 x11 y11 x12 y12 x13 y13
      go_wp2
      go_roundg (n - (k + 1))
      case measure => have := HG.out; omega
      case rel => exact ⟨k + 1, by go_num, by omega, Lib.hid rfl, HB5⟩
    · go_wp2
      go_ret
      exact ⟨rfl, HB.out⟩
end Go.Proofs.Ytjcgkplphiedjaa

namespace Go.Proofs.Ytjcgkplphiedjaa
open Go.RowKit Go.Sort

set_option maxRecDepth 20000 in
set_option maxHeartbeats 4000000 in
theorem programs18_any (A A' : Option Addr) (n c c' : Nat) (cs cs' : List Cl) (w : World) (hr : Rd w w.heap.size 4 A n (ccells cs)) (hr' : Rd w w.heap.size 4 A' n (ccells cs')) (hok : ∀ x ∈ cs, Cl.ok w x) (hok' : ∀ x ∈ cs', Cl.ok w x) (hc : cs.map Cl.core = cs'.map Cl.core) :
    Calls Try.prog 17 #[.agg #[.slice A n c], .agg #[.slice A' n c']] w fun e w' => e = .returned (.bool true) ∧ Below w.heap.size w w' := by
  have HR := Lib.hid hr
  have HR' := Lib.hid hr'
  have HK := Lib.hid hok
  have HK' := Lib.hid hok'
  have HC := Lib.hid hc
  have hn := hr.2.1
  clear hr hr' hok hok' hc
  go_enter Try.func17, Try.ntmps17
  have hnn : ((n : Int) != (n : Int)) = false := by simp
  go_upto_region 1 with (fail)
  obtain ⟨hb3, h1, h2, hs3⟩ := two_alloc w 37 37 [.slice A n c] [.slice A' n c']
  generalize World.alloc (World.alloc _ _) _ = w3 at *
  generalize hR : w.heap.size = R at *
  have HRR := Lib.hid hR
  clear hR
  have HB3 := Lib.hid hb3
  have H1 := Lib.hid h1
  have H2 := Lib.hid h2
  clear hb3 h1 h2 hs3
  have f0 := H1.out.cell 0
  have f1 := H2.out.cell 0
  simp only [List.getElem?_cons_zero] at f0 f1
  go_wp2
  clear hnn f0 f1
  go_loopg [5] n (fun gk u5 wr => ∃ k : Nat, u5 = .int .i64 k ∧ k ≤ n ∧ Hid (gk = n - k) ∧ Hid (Below R w wr) ∧ Hid (Blk wr R 37 [.slice A n c]) ∧ Hid (Blk wr (R + 1) 37 [.slice A' n c']))
  case atStart => exact ⟨0, rfl, Nat.zero_le _, Lib.hid (by omega), HB3, H1, H2⟩
  case round =>
    clear HB3 H1 H2
    obtain ⟨k, rfl, hk, HG, HB, H1, H2⟩ := hrel
    have f0 := H1.out.cell 0
    have f1 := H2.out.cell 0
    simp only [List.getElem?_cons_zero] at f0 f1
    by_cases hlt : k < n
    · obtain ⟨B, off, hk1, rfl, hB, hc⟩ := (HR.out.below HB.out).at Cl.cells 4 (fun _ => rfl) (by omega) k hlt
      obtain ⟨B', off', hk1', rfl, hB', hc'⟩ := (HR'.out.below HB.out).at Cl.cells 4 (fun _ => rfl) (by omega) k hlt
      have c0 := hc 0 _ (by omega) rfl
      have c1 := hc 1 _ (by omega) rfl
      have c2 := hc 2 _ (by omega) rfl
      have c3 := hc 3 _ (by omega) rfl
      have d0 := hc' 0 _ (by omega) rfl
      have d1 := hc' 1 _ (by omega) rfl
      have d2 := hc' 2 _ (by omega) rfl
      have d3 := hc' 3 _ (by omega) rfl
      rw [Nat.add_zero] at c0 d0
      clear hc hc'
      have hz : Cl.ok wr cs[k] := (HK.out cs[k] (List.getElem_mem hk1)).up (HRR.out ▸ HB.out)
      have hz' : Cl.ok wr cs'[k] := (HK'.out cs'[k] (List.getElem_mem hk1')).up (HRR.out ▸ HB.out)
      have hcore : cs[k].core = cs'[k].core := by
        have := congrArg (fun l => l[k]?) HC.out
        simpa [hk1, hk1'] using this
      generalize cs[k] = z at *
      generalize cs'[k] = z' at *
      obtain ⟨⟨zp, zA, zn, zc, zo, zes⟩, zB, zm, zd, zls⟩ := z
      obtain ⟨⟨yp, yA, yn, yc, yo, yes⟩, yB, ym, yd, yls⟩ := z'
      simp only [Cl.core, At.core, Prod.mk.injEq] at hcore
      obtain ⟨⟨rfl, rfl, rfl⟩, hlc⟩ := hcore
      have hzn : zn = yn := by
        have h1 := hz.1.1.1
        have h2 := hz'.1.1.1
        dsimp only at h1 h2
        omega
      subst hzn
      have hzm : zm = ym := by
        have h1 := hz.2.1.1
        have h2 := hz'.2.1.1
        have h3 := congrArg List.length hlc
        rw [lcells_length] at h1 h2
        simp only [List.length_map] at h3
        dsimp only at h1 h2
        omega
      subst hzm
      have HZ := Lib.hid hz
      have HZ' := Lib.hid hz'
      have HLC := Lib.hid hlc
      clear hz hz' hlc
      go_upto_region 6 with (fail)
      have kf0 := cell_regrown f0
      have kf1 := cell_regrown f1
      have kc0 := cell_regrown c0
      have kc1 := cell_regrown c1
      have kc2 := cell_regrown c2
      have kc3 := cell_regrown c3
      have kd0 := cell_regrown d0
      have kd1 := cell_regrown d1
      have kd2 := cell_regrown d2
      have kd3 := cell_regrown d3
      have cA : ∀ d os, Calls Try.prog 33 #[.agg #[.string zp, .slice zA zn zc, .int .i64 zo], .agg #[.string zp, .slice yA zn yc, .int .i64 zo]] (grow (redrawn wr d) os) fun e w'' => e = .returned (.bool true) ∧ ∃ p : Regrown, w'' = grow (redrawn wr p.d) p.os :=
        fun d os => Calls.regrown_of (atoms18_any zp zA yA zn zc yc zo zes _ (HZ.out.1.1.up (below_regrown wr d os) (below_regrown wr d os).size) (HZ'.out.1.1.up (below_regrown wr d os) (below_regrown wr d os).size))
      have cB : ∀ d os, Calls Try.prog 34 #[.slice zB zm zd, .slice yB zm yd] (grow (redrawn wr d) os) fun e w'' => e = .returned (.bool true) ∧ ∃ p : Regrown, w'' = grow (redrawn wr p.d) p.os :=
        fun d os => Calls.regrown_of (bodies18_any zB yB zm zd yd zls yls _ (HZ.out.2.1.up (below_regrown wr d os) (below_regrown wr d os).size) (HZ'.out.2.1.up (below_regrown wr d os) (below_regrown wr d os).size)
          (fun x hx => At.ok.up (HZ.out.2.2.2 x hx) (below_regrown wr d os)) (fun x hx => At.ok.up (HZ'.out.2.2.2 x hx) (below_regrown wr d os)) HLC.out)
      clear f0 f1 c0 c1 c2 c3 d0 d1 d2 d3
      refine wp_region_quiet_below (by kernel_rfl) (by kernel_rfl) ?_
      repeat (go_big_quiet_step (first | exact cA _ _ | exact cB _ _))
      refine wpQuiet_nil ?_
      intro w6 hw6
      obtain ⟨⟨dq, osq⟩, rfl⟩ := hw6
      have hl1 := H2.out.lt
      have HB6 := Lib.hid (HB.out.trans ((below_regrown wr dq osq).mono (by omega)))
      have H16 := Lib.hid (H1.out.below (below_regrown wr dq osq) (by omega))
      have H26 := Lib.hid (H2.out.below (below_regrown wr dq osq) hl1)
      clear kf0 kf1 kc0 kc1 kc2 kc3 kd0 kd1 kd2 kd3 cA cB hl1
      go_wp2
      go_roundg (n - (k + 1))
      case measure => have := HG.out; omega
      case rel => exact ⟨k + 1, by go_num, by omega, Lib.hid rfl, HB6, H16, H26⟩
    · go_wp2
      go_ret
      exact ⟨rfl, by rw [HRR.out]; exact HB.out⟩
end Go.Proofs.Ytjcgkplphiedjaa
