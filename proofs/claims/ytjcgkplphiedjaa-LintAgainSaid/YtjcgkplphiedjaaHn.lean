/- The law of a clause that is put in again: its walk, first half: the two programs. -/
import Derived.Test.YtjcgkplphiedjaaHi
import Derived.Test.YtjcgkplphiedjaaHl
import Derived.Test.YtjcgkplphiedjaaHm
import Derived.Test.YtjcgkplphiedjaaHf
import Derived.Test.YtjcgkplphiedjaaHd
import Derived.Test.YtjcgkplphiedjaaHa
import Derived.Test.YtjcgkplphiedjaaHb
namespace Go.Proofs.Ytjcgkplphiedjaa
open Go.RowKit Go.Sort

def p0S : ByteArray := ⟨#[112, 48]⟩
def p0C : Cl := ⟨⟨p0S, none, 0, 0, 0, []⟩, none, 0, 0, []⟩
theorem p0_bare : bareC p0S p0C := ⟨rfl, rfl, rfl⟩
theorem p0_good : goodC p0C := by
  refine ⟨⟨?_, by simp [p0C], by simp [p0C], by show p0S.size ≤ 2; decide⟩, by simp [p0C], by simp [p0C]⟩
  show isNameS p0S = true
  exact name_two (a := 112) (b := 48) (by omega) (by omega) (by omega) (by omega)
theorem p0_own (w : World) (R : Nat) : Cl.own w R p0C := ⟨World.ownsRow_nil _ _ _ _, World.ownsRow_nil _ _ _ _, by simp [p0C]⟩
theorem goodT_short {t : T} (h : goodT t) : t.k = 4 → t.t.size ≤ 64 := fun hk => by
  have h1 := (termE_var h.1 hk).2
  unfold isVarS at h1
  simp only [Bool.and_eq_true, decide_eq_true_eq] at h1
  omega
theorem zT_short : zT.k = 4 → zT.t.size ≤ 64 := fun h => by cases h
theorem goodA_short {y : At} (h : goodA y) : shortT y.es := fun e he => goodT_short (h.2.2.1 e he)
theorem goodC_short {y : Cl} (h : goodC y) : shortC y := by
  refine ⟨goodA_short h.1, fun l hl => ?_⟩
  rcases h.2.2 l hl with ⟨_, _, h2, h3, h4⟩ | ⟨_, _, _, h3, h4, h5⟩
  · refine ⟨goodA_short h4, fun e he => ?_⟩
    rcases List.mem_cons.1 he with rfl | he
    · rw [h2]; exact zT_short
    · rw [List.mem_singleton.1 he, h3]; exact zT_short
  · refine ⟨(by rw [h3]; intro e he; cases he), fun e he => ?_⟩
    rcases List.mem_cons.1 he with rfl | he
    · exact goodT_short h4
    · rw [List.mem_singleton.1 he]; exact goodT_short h5
theorem ren_fine {t : T} (hs : t.k = 4 → t.t.size ≤ 64) (hf : t.fine) (off : Int) : (t.ren off).fine := by
  unfold T.fine T.ren
  dsimp only
  by_cases hc : t.k = 4 ∧ t.t ≠ uS
  · rw [if_pos hc, toList_size, toList_append, zS_list, List.length_append, ← toList_size]
    have := hs hc.1
    simp only [List.length_singleton]
    omega
  · rw [if_neg hc]; exact hf
theorem goodC_ren_fine {y : Cl} (h : goodC y) (off : Int) : (y.ren off).fines ∧ (y.ren off).ints := by
  obtain ⟨hf, hi⟩ := goodC_fine h
  have hs := goodC_short h
  have at_ : ∀ a : At, a.fine → shortT a.es → (a.ren off).fine := fun a hfa hsa => ⟨hfa.1, fun e he => by
    obtain ⟨t, ht, rfl⟩ := List.mem_map.1 he
    exact ren_fine (hsa t ht) (hfa.2 t ht) off⟩
  have ai : ∀ a : At, a.ints → (a.ren off).ints := fun a hia e he => by
    obtain ⟨t, ht, rfl⟩ := List.mem_map.1 he
    exact hia t ht
  refine ⟨⟨at_ _ hf.1 hs.1, fun l hl => ?_⟩, ⟨ai _ hi.1, fun l hl => ?_⟩⟩
  · obtain ⟨x, hx, rfl⟩ := List.mem_map.1 hl
    have h1 := hf.2 x hx
    have h2 := hs.2 x hx
    exact ⟨at_ _ h1.1 h2.1, ren_fine (h2.2 x.l (by simp)) h1.2.1 off, ren_fine (h2.2 x.r (by simp)) h1.2.2 off⟩
  · obtain ⟨x, hx, rfl⟩ := List.mem_map.1 hl
    have h1 := hi.2 x hx
    exact ⟨ai _ h1.1, h1.2.1, h1.2.2⟩
theorem core_one {x y : Cl} (h : y.core = x.core) : [y].map Cl.core = [x].map Cl.core := by simp [h]
theorem madeO_ren {w : World} {R : Nat} {x y : Cl} {off : Int} (h : goodC x) (ho : Cl.own w R y) (hc : y.core = (x.ren off).core) : MadeO w R y := by
  obtain ⟨hf, hi⟩ := goodC_ren_fine h off
  have he : clauseE y = 0 := (clauseE_core hc).trans (goodC_ren h off)
  have hyn : y.ls.length = y.n := by have := (own_rd ho.b).1; rw [lcells_length] at this; omega
  have hh : y.h.core = (x.ren off).h.core := congrArg (fun p => p.1) hc
  have hl : y.ls.map Li.core = (x.ren off).ls.map Li.core := congrArg (fun p => p.2) hc
  have e1 : y.h.es = (x.ren off).h.es := congrArg (fun p => p.2.2) hh
  have l16 := (clause_small he).2
  refine ⟨ho, ?_, fun z hz => ?_, by omega, core_fines (core_one hc) (by simpa using hf) y (by simp), core_ints (core_one hc) (by simpa using hi) y (by simp), he⟩
  · rw [e1]
    show (x.h.es.map (T.ren off)).length * 40 ≤ _
    rw [List.length_map]; have := h.1.2.1; omega
  · obtain ⟨u, hu, eu⟩ := lis_core_mem hl hz
    obtain ⟨v, hv, rfl⟩ := List.mem_map.1 hu
    have e2 : z.a.es = (v.ren off).a.es := congrArg (fun p => p.2.1.2.2) eu.symm
    rw [e2]
    show (v.a.es.map (T.ren off)).length * 40 ≤ _
    rw [List.length_map]
    rcases h.2.2 v hv with ⟨_, _, _, _, h4⟩ | ⟨_, _, _, h3, _⟩
    · have := h4.2.1; omega
    · rw [h3]; simp
theorem blk_rd {w : World} {Z : Nat} {y : Cl} (h : Blk w Z 45 y.cells) : Rd w w.heap.size 4 (some ⟨Z, 0, none⟩) 1 (ccells [y]) :=
  ⟨by simp [ccells, Cl.cells], by omega, fun _ => ⟨Z, 0, rfl, h.lt, fun j u hu => by
    have hc : ccells [y] = y.cells := by simp [ccells]
    rw [hc] at hu
    rw [Nat.zero_add]
    exact (h.cell j).trans hu⟩⟩
theorem below_drew' (w : World) : Below w.heap.size w w.drew := ⟨rfl, rfl, rfl, Nat.le_refl _, fun _ _ => rfl⟩
theorem cls_one (l : List Cl) : ∀ u ∈ ccells l, u.oneCell' = true := by
  intro u hu
  obtain ⟨x, _, hu⟩ := List.mem_flatMap.1 hu
  exact Cl.one x u hu

/-- What stands when both programs are made. -/
structure Both (w0 w : World) (R P : Nat) (Aq : Option Addr) (nq cq : Nat) (A9 : Option Addr) (c9 : Nat) (Q : List Cl) (y : Cl) : Prop where
  b : Below R w0 w
  q : Blk w (R + 1) 37 [.slice Aq nq cq]
  p : Blk w P 37 [.slice A9 (nq + 1) c9]
  rq : Rd w w.heap.size 4 Aq nq (ccells Q)
  rp : Rd w w.heap.size 4 A9 (nq + 1) (ccells (Q ++ [y]))
  mq : ∀ x ∈ Q, MadeO w R x
  my : MadeO w R y
  s : R ≤ w.heap.size
theorem Both.up {w0 w w' : World} {R P : Nat} {Aq : Option Addr} {nq cq : Nat} {A9 : Option Addr} {c9 : Nat} {Q : List Cl} {y : Cl} (h : Both w0 w R P Aq nq cq A9 c9 Q y) (hb : Below w.heap.size w w') : Both w0 w' R P Aq nq cq A9 c9 Q y :=
  ⟨h.b.trans (hb.mono h.s), h.q.below hb h.q.lt, h.p.below hb h.p.lt, h.rq.up hb hb.size, h.rp.up hb hb.size, fun x hx => (h.mq x hx).below hb, h.my.below hb, Nat.le_trans h.s hb.size⟩
theorem again_plain {Q : List Cl} {kk : Nat} (hk : kk < Q.length) {y : Cl} {off : Int} (hg : ∀ x ∈ Q, goodC x) (hl : Q.length ≤ 511) (hy : y.core = (Q[kk].ren off).core) (hp : p0C ∈ Q) :
    (∃ j rest, lookF (Q ++ [y]) = lookF Q ++ (⟨1, Q.length, j, off, noS⟩ : Fd) :: rest ∧ 0 ≤ j ∧ j ≤ (kk : Int) ∧ ∀ f ∈ rest, f.c = Q.length) ∧ (trimF (Q ++ [y])).map Cl.core = (trimF Q).map Cl.core ∧ 0 < (trimF Q).length := by
  have he : ∀ x ∈ Q, clauseE x = 0 := fun x hx => goodC_err (hg x hx)
  have hc := hg _ (List.getElem_mem hk)
  have hz := goodC_ren hc off
  have hk' : Q[kk]? = some Q[kk] := List.getElem?_eq_getElem hk
  have hcore : (Q ++ [y]).map Cl.core = (Q ++ [Q[kk].ren off]).map Cl.core := by simp [hy]
  refine ⟨?_, ?_, trim_some (by omega) he hp p0_bare⟩
  · obtain ⟨j, rest, h1, h2, h3, h4⟩ := look_again hl he hz hk' (Twin.ren (goodC_err hc) hz) (fun s => by
      show ((Q[kk].ls.map (Li.ren off)).any (askB s)) = _
      rw [List.any_map]; rfl) (again_ren off Q[kk])
    exact ⟨j, rest, by rw [lookF_core hcore]; exact h1, h2, h3, h4⟩
  · rw [trimF_core hcore, trim_again hl he hz hk']
theorem len_core {a b : List Cl} (h : a.map Cl.core = b.map Cl.core) : a.length = b.length := by
  have := congrArg List.length h
  simpa using this

theorem idleLs_sub {ls : List Li} {z : Li} (h : z ∈ idleLs ls) : z ∈ ls := (List.mem_filter.1 h).1
theorem keptOne_sub {l : List Cl} {i : Nat} {x : Cl} (h : x ∈ keptOne l i) : x ∈ l := by
  unfold keptOne at h
  split at h
  · rename_i y hy
    split at h
    · rw [List.mem_singleton.1 h]; exact List.mem_of_getElem? hy
    · cases h
  · cases h
theorem trimN_sub {l : List Cl} : ∀ {i : Nat} {x : Cl}, x ∈ trimN l i → x ∈ l
  | 0, _, h => by cases h
  | i + 1, x, h => by
    rw [trimN] at h
    rcases List.mem_append.1 h with h | h
    · exact trimN_sub h
    · exact keptOne_sub h
/-- Each clause that is left has the head of one that was there, and some of its literals. -/
theorem trimF_sub {cs : List Cl} {x : Cl} (h : x ∈ trimF cs) : ∃ y ∈ cs, x.h = y.h ∧ ((x.ls = y.ls ∧ x.n = y.n) ∨ (x.ls = idleLs y.ls)) := by
  unfold trimF at h
  split at h
  · have h1 := trimN_sub h
    unfold trimL at h1
    obtain ⟨y, hy, rfl⟩ := List.mem_map.1 (List.mem_filter.1 h1).1
    exact ⟨y, hy, rfl, .inr rfl⟩
  · exact ⟨x, h, rfl, .inl ⟨rfl, rfl⟩⟩
theorem trim_oks {w w0 : World} {R : Nat} {cs cs' : List Cl} (h : cs'.map Cl.core = (trimF cs).map Cl.core) (ho : ∀ x ∈ cs', Cl.own w R x) (hk : ∀ x ∈ cs, Cl.ok w0 x) : ∀ x ∈ cs', Cl.ok w x := fun x hx => by
  obtain ⟨y, hy, e⟩ := core_mem h hx
  obtain ⟨z, hz, hh, hl⟩ := trimF_sub hy
  have hzo := hk z hz
  have e1 : x.h.core = z.h.core := (congrArg (fun p => p.1) e.symm).trans (congrArg At.core hh)
  have e2 : x.ls.map Li.core = y.ls.map Li.core := congrArg (fun p => p.2) e.symm
  have hsub : ∀ u ∈ y.ls, u ∈ z.ls := fun u hu => by
    rcases hl with ⟨hl, _⟩ | hl
    · rw [hl] at hu; exact hu
    · rw [hl] at hu; exact idleLs_sub hu
  have hlen : y.ls.length ≤ z.ls.length := by
    rcases hl with ⟨hl, _⟩ | hl
    · rw [hl]; exact Nat.le_refl _
    · rw [hl]; exact List.length_filter_le _ _
  have h1 : x.ls.length = y.ls.length := by have := congrArg List.length e2; simpa using this
  have h2 : x.ls.length = x.n := by have := (own_rd (ho x hx).b).1; rw [lcells_length] at this; omega
  have h3 : z.ls.length = z.n := by have := hzo.2.1.1; rw [lcells_length] at this; omega
  have h4 := hzo.2.2.1
  refine ⟨(ho x hx).h.ok (core_sizes e1 hzo.1), own_rd (ho x hx).b, by omega, fun u hu => ?_⟩
  obtain ⟨v, hv, e3⟩ := lis_core_mem e2 hu
  exact ((ho x hx).l u hu).ok (core_sizes (congrArg (fun p => p.2.1) e3.symm) (hzo.2.2.2 v (hsub v hv)))


set_option maxRecDepth 200000 in
set_option maxHeartbeats 32000000 in
theorem LintAgain_walk (A : Option Addr) (n c : Nat) (kin off : Int) (cs : List Cl) (w : World) (hr : Rd w w.heap.size 4 A n (ccells cs)) (hok : ∀ x ∈ cs, Cl.ok w x) (hf : ∀ x ∈ cs, x.fines) :
    Calls Try.prog 5 #[.agg #[.slice A n c], .int .i64 kin, .int .i64 off] w fun e w' => e = .returned (.bool true) ∧ Below w.heap.size w w' := by
  obtain ⟨j0, hj, hy0, hy1, hy2⟩ := info_parts Try.info45
  have HL := Lib.hid hr
  have HK := Lib.hid hok
  have HFI := Lib.hid hf
  have hnb := hr.2.1
  clear hr hok hf
  go_enter Try.func5, Try.ntmps5
  go_upto_region 2 with (fail)
  obtain ⟨hb3, h1, h2, hs3⟩ := two_alloc w 37 37 [.slice A n c] [.slice none 0 0]
  generalize World.alloc (World.alloc _ _) _ = w3 at *
  generalize hR : w.heap.size = R at *
  have HRR := Lib.hid hR
  clear hR
  have HB3 := Lib.hid hb3
  have H1 := Lib.hid h1
  have H2 := Lib.hid h2
  clear hb3 h1 h2 hs3
  go_upto_region 3 with (fail)
  go_loopg [8] (min n 510) (fun gk u8 wr => ∃ (i : Nat) (acc : List Cl) (vb : Value), u8 = .int .i64 i ∧ i ≤ n ∧ i ≤ 510 ∧ Hid (gk = min n 510 - i) ∧ Hid (acc.length = i) ∧ Hid (Below R w wr) ∧ Hid (Blk wr R 37 [.slice A n c]) ∧
    Hid (Blk wr (R + 1) 37 [vb]) ∧ Hid (wr.ownsRow R 45 4 vb i (ccells acc)) ∧ Hid (∀ y ∈ acc, goodC y ∧ Cl.own wr R y))
  case atStart => exact ⟨0, [], .slice none 0 0, rfl, Nat.zero_le _, Nat.zero_le _, Lib.hid (by omega), Lib.hid rfl, HB3, H1, H2, Lib.hid (World.ownsRow_nil _ _ _ _), Lib.hid (by simp)⟩
  case round =>
    clear HB3 H1 H2
    obtain ⟨i, acc, vb, rfl, hin, hi5, HG, HQ, HB, H1, H2, HV, HW⟩ := hrel
    have f0 := (H1.out.cell 0).trans rfl
    by_cases hlt : i < n ∧ i < 510
    · obtain ⟨hln, hl5⟩ := hlt
      have t1 : decide ((i : Int) < (n : Int)) = true := decide_eq_true (by omega)
      have t2 : decide ((i : Int) < 510) = true := decide_eq_true (by omega)
      obtain ⟨B', off', hk1, rfl, hB, hc⟩ := (HL.out.below HB.out).at Cl.cells 4 (fun _ => rfl) (by omega) i hln
      have c0 := hc 0 _ (by omega) rfl
      have c1 := hc 1 _ (by omega) rfl
      have c2 := hc 2 _ (by omega) rfl
      have c3 := hc 3 _ (by omega) rfl
      rw [Nat.add_zero] at c0
      clear hc
      have hlkk := HK.out cs[i] (List.getElem_mem hk1)
      have HZF := Lib.hid (HFI.out cs[i] (List.getElem_mem hk1))
      generalize cs[i] = z at *
      have HZ : Hid (Cl.ok wr z) := Lib.hid (hlkk.up (HRR.out ▸ HB.out))
      clear hlkk
      go_upto_region 5 with (fail)
      clear f0 t1 t2
      have hs0 : R + 1 < wr.heap.size := H2.out.lt
      have hbd : Below wr.heap.size wr wr.drew := (Below.refl _ _).drew
      have HBd : Hid (Below R w wr.drew) := Lib.hid HB.out.drew
      have H1d := Lib.hid H1.out.drew
      have H2d := Lib.hid H2.out.drew
      have HVd : Hid (wr.drew.ownsRow R 45 4 vb i (ccells acc)) := Lib.hid HV.out.drew
      have HWd : Hid (∀ y ∈ acc, goodC y ∧ Cl.own wr.drew R y) := Lib.hid fun y hy => ⟨(HW.out y hy).1, (HW.out y hy).2.below hbd⟩
      have HZd : Hid (Cl.ok wr.drew z) := Lib.hid (HZ.out.up hbd)
      have e0 : wr.drew.cell? ⟨B', off' + i * 4, none⟩ = some (.string z.h.p) := c0
      have e1 : wr.drew.cell? ⟨B', off' + i * 4 + 1, none⟩ = some (.slice z.h.A z.h.n z.h.c) := c1
      have e2 : wr.drew.cell? ⟨B', off' + i * 4 + 2, none⟩ = some (.int .i64 z.h.o) := c2
      have e3 : wr.drew.cell? ⟨B', off' + i * 4 + 3, none⟩ = some (.slice z.A z.n z.c) := c3
      have hs1 : R + 1 < wr.drew.heap.size := hs0
      clear c0 c1 c2 c3 hbd HB H1 H2 HV HW HZ hs0
      generalize hdw : wr.drew = wd at *
      obtain ⟨C, hCi⟩ : ∃ C : World → Prop, ∀ w', C w' ↔ (w'.cell? ⟨R + 1, 0, none⟩ = some vb ∧ w'.cell? ⟨R, 0, none⟩ = some (.slice (some ⟨B', off', none⟩) n c) ∧ w'.cell? ⟨B', off' + i * 4, none⟩ = some (.string z.h.p) ∧
        w'.cell? ⟨B', off' + i * 4 + 1, none⟩ = some (.slice z.h.A z.h.n z.h.c) ∧ w'.cell? ⟨B', off' + i * 4 + 2, none⟩ = some (.int .i64 z.h.o) ∧ w'.cell? ⟨B', off' + i * 4 + 3, none⟩ = some (.slice z.A z.n z.c)) := ⟨_, fun _ => Iff.rfl⟩
      have q3 := H2d.out.cell 0
      have q1 := H1d.out.cell 0
      simp only [List.getElem?_cons_zero] at q3 q1
      have hC : C wd := (hCi _).2 ⟨q3, q1, e0, e1, e2, e3⟩
      have HCb : Hid (∀ w', Below wd.heap.size wd w' → C w') := Lib.hid fun w' hb => (hCi _).2 ⟨cell_later hb q3, cell_later hb q1, cell_later hb e0, cell_later hb e1, cell_later hb e2, cell_later hb e3⟩
      have HCg : Hid (∀ w', Below R w w' → Blk w' R 37 [.slice (some ⟨B', off', none⟩) n c] → Blk w' (R + 1) 37 [vb] → C w') := Lib.hid fun w' hb b1 b3 => (hCi _).2
        ⟨b3.cell 0, b1.cell 0, (hb.cell hB).trans ((HBd.out.cell hB).symm.trans e0), (hb.cell hB).trans ((HBd.out.cell hB).symm.trans e1), (hb.cell hB).trans ((HBd.out.cell hB).symm.trans e2), (hb.cell hB).trans ((HBd.out.cell hB).symm.trans e3)⟩
      have k3 : ∀ p : WC C, p.w.cell? ⟨R + 1, 0, none⟩ = some vb := fun p => ((hCi _).1 p.h).1
      have k1 : ∀ p : WC C, p.w.cell? ⟨R, 0, none⟩ = some (.slice (some ⟨B', off', none⟩) n c) := fun p => ((hCi _).1 p.h).2.1
      have g0 : ∀ p : WC C, p.w.cell? ⟨B', off' + i * 4, none⟩ = some (.string z.h.p) := fun p => ((hCi _).1 p.h).2.2.1
      have g1 : ∀ p : WC C, p.w.cell? ⟨B', off' + i * 4 + 1, none⟩ = some (.slice z.h.A z.h.n z.h.c) := fun p => ((hCi _).1 p.h).2.2.2.1
      have g2 : ∀ p : WC C, p.w.cell? ⟨B', off' + i * 4 + 2, none⟩ = some (.int .i64 z.h.o) := fun p => ((hCi _).1 p.h).2.2.2.2.1
      have g3 : ∀ p : WC C, p.w.cell? ⟨B', off' + i * 4 + 3, none⟩ = some (.slice z.A z.n z.c) := fun p => ((hCi _).1 p.h).2.2.2.2.2
      have kn : Nonempty (WC C) := ⟨⟨_, hC⟩⟩
      clear hCi e0 e1 e2 e3 q3 q1
      refine wp_region_front' C [0, 1, 2, 3, 4, 5, 6] [7, 8, 9, 10, 11] (fun j => decide (j < 11)) (by kernel_rfl) (fun _ _ d _ _ h => by cases d <;> exact h) (by kernel_rfl) (hdw ▸ hC) ?_
      simp only [List.map_cons, List.map_nil, List.getD_cons_zero, List.getD_cons_succ]
      repeat (go_big_quiet_step (fail))
      refine wpQuiet_nil ?_
      clear k3 k1 g0 g1 g2 g3 kn hC
      rw [hdw]
      clear hdw
      refine wpTail_cons ?_
      have kz := clause_any z wd HZd.out HZF.out
      simp only [Cl.cells] at kz
      go_wp2_with fail
      refine kz.mono ?_
      rintro e w5 ⟨y, rfl, hgy, hoy, hb5⟩
      obtain ⟨⟨yp, yA, yn, yc, yo, yes⟩, yB, ym, yd, yls⟩ := y
      dsimp only
      have hs5 : R + 1 < w5.heap.size := by have := hb5.size; omega
      have K1 := Lib.hid (H1d.out.below hb5 (by omega))
      have K2 := Lib.hid (H2d.out.below hb5 (by omega))
      have KB := Lib.hid (HBd.out.trans (hb5.mono (by omega)))
      have hown := own_below HVd.out hb5
      have KW : Hid (∀ y ∈ acc, goodC y ∧ Cl.own w5 R y) := Lib.hid fun y hy => ⟨(HWd.out y hy).1, (HWd.out y hy).2.below hb5⟩
      have KY := Lib.hid (Cl.own.le hoy (show R ≤ wd.heap.size by omega))
      have KC := Lib.hid hgy
      have HC5 := Lib.hid (HCb.out _ hb5)
      have HC6 := Lib.hid (HCb.out _ (hb5.alloc hb5.size (.cells (Cl.cells ⟨⟨yp, yA, yn, yc, yo, yes⟩, yB, ym, yd, yls⟩).toArray 45)))
      clear hb5 hoy hgy H1d H2d HBd HVd HWd HZd HCb kz
      go_wp2
      refine tailQ_normal (fun _ => HC5.out) ?_
      refine wpTail_cons ?_
      go_wp2
      refine tailQ_normal (fun _ => HC6.out) ?_
      refine wpTail_cons ?_
      refine wpList_append_own _ rfl _ _ 35 rfl R 45 j0 _ 4 72 Try.underlying35 hj hy0 hy1 hy2 rfl (by decide) _ _ _ rfl (hown.alloc _) ⟨w5.heap.size, 0, none⟩ 1 1 (Cl.cells ⟨⟨yp, yA, yn, yc, yo, yes⟩, yB, ym, yd, yls⟩) rfl rfl (fun j u h => new_cells _ _ _ j u h) (Cl.one _) (by unfold maxLen; omega) (by omega) (by simp; omega) ?_
      intro v7 w7 hown7 hg7 _
      obtain ⟨A7, d7, rfl, hn7⟩ := own_slice hown7
      have a1 := (K1.out.alloc (.cells (Cl.cells ⟨⟨yp, yA, yn, yc, yo, yes⟩, yB, ym, yd, yls⟩).toArray 45)).grown hg7 (own_blk_ne hown K1.out (by decide))
      have a3 := (K2.out.alloc (.cells (Cl.cells ⟨⟨yp, yA, yn, yc, yo, yes⟩, yB, ym, yd, yls⟩).toArray 45)).grown hg7 (own_blk_ne hown K2.out (by decide))
      have hba := (Below.refl w5.heap.size w5).alloc (Nat.le_refl _) (.cells (Cl.cells ⟨⟨yp, yA, yn, yc, yo, yes⟩, yB, ym, yd, yls⟩).toArray 45)
      have BL := (KB.out.alloc (by omega) (.cells (Cl.cells ⟨⟨yp, yA, yn, yc, yo, yes⟩, yB, ym, yd, yls⟩).toArray 45)).grown hg7 (by simp; omega) (fun q hq => (hown.lt q hq).1)
      have W7 : ∀ q ∈ acc ++ [(⟨⟨yp, yA, yn, yc, yo, yes⟩, yB, ym, yd, yls⟩ : Cl)], goodC q ∧ Cl.own w7 R q := by
        intro q hq
        rcases List.mem_append.1 hq with hq | hq
        · exact ⟨(KW.out q hq).1, ((KW.out q hq).2.below hba).kept (hown.alloc _) hg7⟩
        · rw [List.mem_singleton.1 hq]
          exact ⟨KC.out, (KY.out.below hba).kept (hown.alloc _) hg7⟩
      have V7 : w7.ownsRow R 45 4 (.slice A7 (i + 1) d7) (i + 1) (ccells (acc ++ [(⟨⟨yp, yA, yn, yc, yo, yes⟩, yB, ym, yd, yls⟩ : Cl)])) := by
        rw [ccells_append]; simpa [ccells] using hown7
      have hC7 := Lib.hid (HCg.out w7 BL a1 a3)
      have z3 := a3.frozen 0
      have y3 := (a3.cell 0).trans rfl
      have hl7 := a3.lt
      have HA1 := Lib.hid a1
      have HA3 := Lib.hid a3
      have HBL := Lib.hid BL
      have HW7 := Lib.hid W7
      have HV7 := Lib.hid V7
      clear a1 a3 BL W7 V7 hown7 hown hg7 hba K1 K2 KW KB KY KC HC5 HC6 HCg
      go_wp2
      refine tailQ_normal (fun _ => hC7.out) ?_
      refine wpTail_cons ?_
      go_wp2
      refine tailQ_normal (fun _ => hC7.out) ?_
      refine wpTail_cons ?_
      go_wp2
      refine tailQ_normal (fun h => by cases h) ?_
      refine wpTail_nil ?_
      have HG1 := Lib.hid (HA1.out.far (p := ⟨R + 1, 0, none⟩) (by simp) (.slice A7 (i + 1) d7))
      have HG3 := Lib.hid (HA3.out.set_ 0 (.slice A7 (i + 1) d7))
      have HVG := Lib.hid (own_setCell_blk HV7.out HA3.out (by decide) 0 (.slice A7 (i + 1) d7))
      have HBG := Lib.hid (HBL.out.setCell (p := ⟨R + 1, 0, none⟩) (by simp) (.slice A7 (i + 1) d7))
      have HWG : Hid (∀ q ∈ acc ++ [(⟨⟨yp, yA, yn, yc, yo, yes⟩, yB, ym, yd, yls⟩ : Cl)], goodC q ∧ Cl.own (w7.setCell ⟨R + 1, 0, none⟩ (.slice A7 (i + 1) d7)) R q) := Lib.hid fun q hq => ⟨(HW7.out q hq).1, (HW7.out q hq).2.set HA3.out (by decide) (by decide) 0 _⟩
      have HQG : Hid ((acc ++ [(⟨⟨yp, yA, yn, yc, yo, yes⟩, yB, ym, yd, yls⟩ : Cl)]).length = i + 1) := Lib.hid (by rw [List.length_append, HQ.out]; rfl)
      simp only [List.set_cons_zero] at HG3
      clear HA1 HA3 HBL HV7 HW7 z3 y3 hl7 hC7
      generalize World.setCell _ _ _ = w8 at *
      go_wp2
      go_roundg (min n 510 - (i + 1))
      case measure => have := HG.out; omega
      case rel => exact ⟨i + 1, _, _, by go_num, by omega, by omega, Lib.hid rfl, HQG, HBG, HG1, HG3, HVG, HWG⟩
    · go_upto_region 3 with (fail)
      go_cut [24] (fun v24 wx => v24 = .bool false ∧ wx = wr)
      case first =>
        by_cases hln : i < n
        · have t1 : decide ((i : Int) < (n : Int)) = true := decide_eq_true (by omega)
          have t2 : decide ((i : Int) < 510) = false := decide_eq_false (by omega)
          go_wp2
          go_meet
          exact ⟨rfl, rfl⟩
        · have t1 : decide ((i : Int) < (n : Int)) = false := decide_eq_false (by omega)
          go_wp2
          go_meet
          exact ⟨rfl, rfl⟩
      case rest =>
        obtain ⟨rfl, rfl⟩ := hcut
        have HI5 := Lib.hid hi5
        clear f0 hlt HG hin H1 HL HK HFI hnb
        have hsr : R + 1 < wc.heap.size := H2.out.lt
        have q0 := (H2.out.cell 0).trans rfl
        have hown := HV.out
        go_wp2_with (at_builtin; go_must (refine wpList_append_own _ rfl _ _ 35 rfl R 45 j0 _ 4 72 Try.underlying35 hj hy0 hy1 hy2 rfl (by decide) _ _ _ rfl (hown.alloc _) ⟨wc.heap.size, 0, none⟩ 1 1 (Cl.cells p0C) rfl rfl (fun j u h => new_cells _ _ _ j u h) (Cl.one _) (by unfold maxLen; omega) (by omega) (by simp; omega) ?_))
        intro v9 w9 hown9 hg9 _
        obtain ⟨Aq, cq, rfl, hnq⟩ := own_slice hown9
        have hba := (Below.refl wc.heap.size wc).alloc (Nat.le_refl _) (.cells (Cl.cells p0C).toArray 45)
        have a2 := (H2.out.alloc (.cells (Cl.cells p0C).toArray 45)).grown hg9 (own_blk_ne hown H2.out (by decide))
        have BL := (HB.out.alloc (by omega) (.cells (Cl.cells p0C).toArray 45)).grown hg9 (by simp; omega) (fun q hq => (hown.lt q hq).1)
        have W9 : ∀ q ∈ acc ++ [p0C], goodC q ∧ Cl.own w9 R q := by
          intro q hq
          rcases List.mem_append.1 hq with hq | hq
          · exact ⟨(HW.out q hq).1, ((HW.out q hq).2.below hba).kept (hown.alloc _) hg9⟩
          · rw [List.mem_singleton.1 hq]
            exact ⟨p0_good, p0_own _ _⟩
        have V9 : w9.ownsRow R 45 4 (.slice Aq (i + 1) cq) (i + 1) (ccells (acc ++ [p0C])) := by
          rw [ccells_append]; simpa [ccells] using hown9
        have z3 := a2.frozen 0
        have y3 := (a2.cell 0).trans rfl
        have hl7 := a2.lt
        have HA2 := Lib.hid a2
        have HBL := Lib.hid BL
        have HW9 := Lib.hid W9
        have HV9 := Lib.hid V9
        have HQL : Hid ((acc ++ [p0C]).length = i + 1) := Lib.hid (by rw [List.length_append, HQ.out]; rfl)
        have HP0 : Hid (p0C ∈ acc ++ [p0C]) := Lib.hid (by simp)
        clear a2 BL W9 V9 hown9 hown hg9 hba H2 HB HW HV q0 hsr HQ
        go_upto_region 7 with (fail)
        have H2 := Lib.hid (HA2.out.set_ 0 (.slice Aq (i + 1) cq))
        have HQ := Lib.hid (own_setCell_blk HV9.out HA2.out (by decide) 0 (.slice Aq (i + 1) cq))
        have HB := Lib.hid (HBL.out.setCell (p := ⟨R + 1, 0, none⟩) (by simp) (.slice Aq (i + 1) cq))
        have HM : Hid (∀ q ∈ acc ++ [p0C], goodC q ∧ Cl.own (w9.setCell ⟨R + 1, 0, none⟩ (.slice Aq (i + 1) cq)) R q) := Lib.hid fun q hq => ⟨(HW9.out q hq).1, (HW9.out q hq).2.set HA2.out (by decide) (by decide) 0 _⟩
        simp only [List.set_cons_zero] at H2
        clear HA2 HBL HW9 HV9 z3 y3 hl7
        generalize World.setCell _ _ _ = w4 at *
        generalize acc ++ [p0C] = Q at *
        obtain ⟨nq, hnqe⟩ : ∃ nq, nq = i + 1 := ⟨_, rfl⟩
        have hnq511 : nq ≤ 511 := by omega
        have hnq1 : 1 ≤ nq := by omega
        have hcast : ((i : Int) + 1) = (nq : Int) := by omega
        rw [← hnqe] at H2 HQ HQL hnq ⊢
        clear hnqe hcast hi5 HI5
        have f0 := (H2.out.cell 0).trans rfl
        have km := mod_any kin nq w4 (by omega) (by omega)
        have hsr : R + 1 < w4.heap.size := H2.out.lt
        go_wp2_with fail
        refine km.mono ?_
        rintro e w5 ⟨kz, rfl, hk0, hk1, hb5⟩
        obtain ⟨kk, rfl⟩ : ∃ kk : Nat, kz = kk := ⟨kz.toNat, by omega⟩
        have hkk : kk < nq := by omega
        have HB := Lib.hid (HB.out.trans (hb5.mono (by omega)))
        have H2 := Lib.hid (H2.out.below hb5 H2.out.lt)
        have HQ := Lib.hid (own_below HQ.out hb5)
        have HM : Hid (∀ q ∈ Q, goodC q ∧ Cl.own w5 R q) := Lib.hid fun q hq => ⟨(HM.out q hq).1, (HM.out q hq).2.below hb5⟩
        clear km hb5 f0 hsr
        have hkl : kk < Q.length := by have := HQL.out; omega
        have HX : Hid (Q[kk]? = some Q[kk]) := Lib.hid (List.getElem?_eq_getElem hkl)
        have HXM := Lib.hid (List.getElem_mem hkl)
        go_upto_region 8 with (fail)
        go_cut [9] (fun v9 wx => ∃ (P : Nat) (A9 : Option Addr) (c9 : Nat) (y : Cl), v9 = .pointer (some ⟨P, 0, none⟩) ∧ y.core = (Q[kk].ren off).core ∧ Both w wx R P Aq nq cq A9 c9 Q y)
        case first =>
          have HAq : Hid (Aq = none → cq = 0) := Lib.hid (fun h => by subst h; exact own_none HQ.out)
          obtain ⟨gq, _, rfl, hgl, hcc⟩ := own_at HQ.out kk hkk
          have HCL : Hid (∀ W : World, W.ownsRow R 45 4 (.slice (some ⟨gq, 0, none⟩) nq cq) nq (ccells Q) → ∀ j u, j < 4 → Q[kk].cells[j]? = some u → W.cell? ⟨gq, kk * 4 + j, none⟩ = some u) := Lib.hid (fun W h j u hj hu => by
            obtain ⟨g6, _, hA, _, hc6⟩ := own_at h kk hkk
            injection hA with hA; injection hA with hA; subst hA
            exact hc6 j u hj hu)
          clear hcc
          generalize Q[kk] = z at *
          have HZG := Lib.hid ((HM.out z HXM.out).1)
          have HR8 : Hid (R + 1 < w5.drew.heap.size) := Lib.hid H2.out.lt
          have HGQ : Hid (gq < w5.drew.heap.size) := Lib.hid hgl
          have HB : Hid (Below R w w5.drew) := Lib.hid HB.out.drew
          have H2 := Lib.hid H2.out.drew
          have HQ : Hid (w5.drew.ownsRow R 45 4 (.slice (some ⟨gq, 0, none⟩) nq cq) nq (ccells Q)) := Lib.hid HQ.out.drew
          have HM : Hid (∀ q ∈ Q, goodC q ∧ Cl.own w5.drew R q) := Lib.hid fun q hq => ⟨(HM.out q hq).1, (HM.out q hq).2.below (below_drew' w5)⟩
          generalize hdw : w5.drew = x0 at *
          generalize hR8e : x0.heap.size = R8 at *
          have hR8 : R8 ≤ x0.heap.size := by rw [hR8e]; exact Nat.le_refl _
          have hRs : R ≤ x0.heap.size := by have := HR8.out; omega
          have HRR8 : Hid (R ≤ R8) := Lib.hid (by have := HR8.out; omega)
          clear hR8e hgl
          have hq0 := (H2.out.cell 0).trans rfl
          obtain ⟨C, hCi⟩ : ∃ C : World → Prop, ∀ w', C w' ↔ (Blk w' (R + 1) 37 [.slice (some ⟨gq, 0, none⟩) nq cq] ∧ w'.ownsRow R 45 4 (.slice (some ⟨gq, 0, none⟩) nq cq) nq (ccells Q)) := ⟨_, fun _ => Iff.rfl⟩
          have k0 : ∀ q : WC C, q.w.cell? ⟨R + 1, 0, none⟩ = some (.slice (some ⟨gq, 0, none⟩) nq cq) := fun q => ((hCi _).1 q.h).1.cell 0
          have k1 : ∀ q : WC C, q.w.cell? ⟨gq, kk * 4, none⟩ = some (.string z.h.p) := fun q => HCL.out q.w ((hCi _).1 q.h).2 0 _ (by omega) rfl
          have k2 : ∀ q : WC C, q.w.cell? ⟨gq, kk * 4 + 1, none⟩ = some (.slice z.h.A z.h.n z.h.c) := fun q => HCL.out q.w ((hCi _).1 q.h).2 1 _ (by omega) rfl
          have k3 : ∀ q : WC C, q.w.cell? ⟨gq, kk * 4 + 2, none⟩ = some (.int .i64 z.h.o) := fun q => HCL.out q.w ((hCi _).1 q.h).2 2 _ (by omega) rfl
          have k4 : ∀ q : WC C, q.w.cell? ⟨gq, kk * 4 + 3, none⟩ = some (.slice z.A z.n z.c) := fun q => HCL.out q.w ((hCi _).1 q.h).2 3 _ (by omega) rfl
          have kn : Nonempty (WC C) := ⟨⟨_, (hCi _).2 ⟨H2.out, HQ.out⟩⟩⟩
          clear hq0
          refine wp_region_frontN C [1, 2, 4, 5, 6, 7, 8, 9] 8 (fun j => decide (j < 15)) (by kernel_rfl) (fun _ _ d _ _ h => by cases d <;> exact h) (by kernel_rfl) (hdw ▸ (hCi _).2 ⟨H2.out, HQ.out⟩) ?_
          simp only [List.map_cons, List.map_nil, List.getD_cons_zero, List.getD_cons_succ]
          repeat (go_big_quiet_step (fail))
          refine wpQuiet_nil ?_
          clear k0 k1 k2 k3 k4 kn
          rw [hdw]
          clear hdw
          have HCi := Lib.hid hCi
          clear hCi
          refine wpN_two (i := 0) (j := 14) (by kernel_rfl) rfl rfl ?_ ?_
          · go_wp2
            have hbl := (Below.refl x0.heap.size x0).alloc (Nat.le_refl _) (.cells #[] 45)
            have HE : Hid ((x0.alloc (.cells #[] 45)).ownsRow R8 45 4 (.slice (some ⟨x0.heap.size, 0, none⟩) 0 0) 0 []) := Lib.hid (own_empty hR8)
            replace HB := Lib.hid (HB.out.trans (hbl.mono hRs))
            replace H2 := Lib.hid (H2.out.below hbl H2.out.lt)
            replace HQ := Lib.hid (own_below HQ.out hbl)
            replace HM : Hid (∀ q ∈ Q, goodC q ∧ Cl.own (x0.alloc (.cells #[] 45)) R q) := Lib.hid fun q hq => ⟨(HM.out q hq).1, (HM.out q hq).2.below hbl⟩
            replace hR8 : R8 ≤ (x0.alloc (.cells #[] 45)).heap.size := Nat.le_trans hR8 hbl.size
            replace hRs : R ≤ (x0.alloc (.cells #[] 45)).heap.size := Nat.le_trans hRs hbl.size
            clear hbl
            refine tailN_normal ((HCi.out _).2 ⟨H2.out, HQ.out⟩) ?_
            generalize World.alloc _ _ = x1 at *
            generalize x0.heap.size = Ex1 at *
            refine wpN_two (i := 3) (j := 14) (by kernel_rfl) rfl rfl ?_ ?_
            · refine wpList_append_all rfl _ _ 35 rfl R8 45 j0 _ 4 72 Try.underlying35 hj hy0 hy1 hy2 rfl (by decide) _ _ _ rfl HE.out (some ⟨gq, 0, none⟩) nq cq (ccells Q) rfl HAq.out (own_rd HQ.out) (cls_one _) (by unfold maxLen; omega) (by omega) hR8 ?_
              intro v3 x2 hE hg
              rw [List.nil_append, Nat.zero_add] at hE
              replace HB := Lib.hid (HB.out.grown hg hRs (fun q hq => Nat.le_trans HRR8.out (HE.out.lt q hq).1))
              replace HM : Hid (∀ q ∈ Q, goodC q ∧ Cl.own x2 R q) := Lib.hid fun q hq => ⟨(HM.out q hq).1, (HM.out q hq).2.kept HE.out hg⟩
              replace HQ := Lib.hid (HQ.out.kept hg (.inr (fun e => by
                have h2 := (HE.out.lt gq e.symm).1
                have h3 := HGQ.out
                omega)))
              replace H2 := Lib.hid (H2.out.grown hg (own_blk_ne HE.out H2.out (by decide)))
              replace hR8 : R8 ≤ x2.heap.size := Nat.le_trans hR8 hg.size
              replace hRs : R ≤ x2.heap.size := Nat.le_trans hRs hg.size
              replace HE := Lib.hid hE
              clear hE hg
              go_wp2
              refine tailN_normal ((HCi.out _).2 ⟨H2.out, HQ.out⟩) ?_
              refine wpN_two (i := 10) (j := 14) (by kernel_rfl) rfl rfl ?_ ?_
              · have kr := renC_any z off x2 (goodC_made (HM.out z HXM.out).1 (HM.out z HXM.out).2).ok (goodC_short HZG.out)
                simp only [Cl.cells] at kr
                go_wp2_with fail
                refine kr.mono ?_
                rintro e x3 ⟨⟨⟨yp, yA, yn, yc, yo, yes⟩, yB, ym, yd, yls⟩, rfl, hyc, hyo, hbl⟩
                have HYC := Lib.hid hyc
                have HY := Lib.hid (hyo.le hRs)
                replace HB := Lib.hid (HB.out.trans (hbl.mono hRs))
                replace H2 := Lib.hid (H2.out.below hbl H2.out.lt)
                replace HQ := Lib.hid (own_below HQ.out hbl)
                replace HM : Hid (∀ q ∈ Q, goodC q ∧ Cl.own x3 R q) := Lib.hid fun q hq => ⟨(HM.out q hq).1, (HM.out q hq).2.below hbl⟩
                replace hR8 : R8 ≤ x3.heap.size := Nat.le_trans hR8 hbl.size
                replace hRs : R ≤ x3.heap.size := Nat.le_trans hRs hbl.size
                replace HE := Lib.hid (own_below HE.out hbl)
                clear hbl kr hyc hyo
                dsimp only
                go_wp2
                refine tailN_normal ((HCi.out _).2 ⟨H2.out, HQ.out⟩) ?_
                refine wpN_two (i := 11) (j := 14) (by kernel_rfl) rfl rfl ?_ ?_
                · go_wp2
                  have hbl := (Below.refl x3.heap.size x3).alloc (Nat.le_refl _) (.cells #[.string yp, .slice yA yn yc, .int .i64 yo, .slice yB ym yd] 45)
                  have HZ : Hid (Blk (x3.alloc (.cells #[.string yp, .slice yA yn yc, .int .i64 yo, .slice yB ym yd] 45)) x3.heap.size 45 (Cl.cells ⟨⟨yp, yA, yn, yc, yo, yes⟩, yB, ym, yd, yls⟩)) := Lib.hid (Blk.new x3 45 (Cl.cells ⟨⟨yp, yA, yn, yc, yo, yes⟩, yB, ym, yd, yls⟩))
                  replace HB := Lib.hid (HB.out.trans (hbl.mono hRs))
                  replace H2 := Lib.hid (H2.out.below hbl H2.out.lt)
                  replace HQ := Lib.hid (own_below HQ.out hbl)
                  replace HM : Hid (∀ q ∈ Q, goodC q ∧ Cl.own (x3.alloc (.cells #[.string yp, .slice yA yn yc, .int .i64 yo, .slice yB ym yd] 45)) R q) := Lib.hid fun q hq => ⟨(HM.out q hq).1, (HM.out q hq).2.below hbl⟩
                  replace hR8 : R8 ≤ (x3.alloc (.cells #[.string yp, .slice yA yn yc, .int .i64 yo, .slice yB ym yd] 45)).heap.size := Nat.le_trans hR8 hbl.size
                  replace hRs : R ≤ (x3.alloc (.cells #[.string yp, .slice yA yn yc, .int .i64 yo, .slice yB ym yd] 45)).heap.size := Nat.le_trans hRs hbl.size
                  replace HE := Lib.hid (own_below HE.out hbl)
                  replace HY := Lib.hid (HY.out.below hbl)
                  clear hbl
                  refine tailN_normal ((HCi.out _).2 ⟨H2.out, HQ.out⟩) ?_
                  generalize hwa : World.alloc _ _ = x4 at *
                  clear hwa
                  generalize x3.heap.size = Zx4 at *
                  refine wpN_two (i := 12) (j := 14) (by kernel_rfl) rfl rfl ?_ ?_
                  · refine wpList_append_all rfl _ _ 35 rfl R8 45 j0 _ 4 72 Try.underlying35 hj hy0 hy1 hy2 rfl (by decide) _ _ _ rfl HE.out (some ⟨Zx4, 0, none⟩) 1 1 (ccells [⟨⟨yp, yA, yn, yc, yo, yes⟩, yB, ym, yd, yls⟩]) rfl (fun h => by cases h) (blk_rd HZ.out) (cls_one _) (by unfold maxLen; omega) (by omega) hR8 ?_
                    intro v62 x5 hE hg
                    obtain ⟨A9, c9, rfl, hn9⟩ := own_slice hE
                    rw [← ccells_append] at hE
                    replace HB := Lib.hid (HB.out.grown hg hRs (fun q hq => Nat.le_trans HRR8.out (HE.out.lt q hq).1))
                    replace HM : Hid (∀ q ∈ Q, goodC q ∧ Cl.own x5 R q) := Lib.hid fun q hq => ⟨(HM.out q hq).1, (HM.out q hq).2.kept HE.out hg⟩
                    replace HQ := Lib.hid (HQ.out.kept hg (.inr (fun e => by
                      have h2 := (HE.out.lt gq e.symm).1
                      have h3 := HGQ.out
                      omega)))
                    replace H2 := Lib.hid (H2.out.grown hg (own_blk_ne HE.out H2.out (by decide)))
                    replace HY := Lib.hid (HY.out.kept HE.out hg)
                    replace hR8 : R8 ≤ x5.heap.size := Nat.le_trans hR8 hg.size
                    replace hRs : R ≤ x5.heap.size := Nat.le_trans hRs hg.size
                    replace HE := Lib.hid hE
                    clear hE hg HZ
                    go_wp2
                    refine tailN_normal ((HCi.out _).2 ⟨H2.out, HQ.out⟩) ?_
                    refine wpN_two (i := 13) (j := 14) (by kernel_rfl) rfl rfl ?_ ?_
                    · go_wp2
                      refine tailN_normal ((HCi.out _).2 ⟨H2.out, HQ.out⟩) ?_
                      refine wpN_one (i := 14) (by kernel_rfl) rfl ?_
                      go_wp2
                      have hbl := (Below.refl x5.heap.size x5).alloc (Nat.le_refl _) (.cells #[.slice none 0 0] 37)
                      have HP := Lib.hid (Blk.new x5 37 [.slice none 0 0])
                      have hP : R + 2 ≤ x5.heap.size := by have := H2.out.lt; omega
                      replace HB := Lib.hid (HB.out.trans (hbl.mono hRs))
                      replace H2 := Lib.hid (H2.out.below hbl H2.out.lt)
                      replace HQ := Lib.hid (own_below HQ.out hbl)
                      replace HM : Hid (∀ q ∈ Q, goodC q ∧ Cl.own (x5.alloc (.cells #[.slice none 0 0] 37)) R q) := Lib.hid fun q hq => ⟨(HM.out q hq).1, (HM.out q hq).2.below hbl⟩
                      replace hR8 : R8 ≤ (x5.alloc (.cells #[.slice none 0 0] 37)).heap.size := Nat.le_trans hR8 hbl.size
                      replace hRs : R ≤ (x5.alloc (.cells #[.slice none 0 0] 37)).heap.size := Nat.le_trans hRs hbl.size
                      replace HE := Lib.hid (own_below HE.out hbl)
                      replace HY := Lib.hid (HY.out.below hbl)
                      clear hbl
                      refine tailN_normal ((HCi.out _).2 ⟨H2.out, HQ.out⟩) ?_
                      generalize World.alloc _ _ = x7 at *
                      generalize x5.heap.size = Px7 at *
                      refine wpN_one (i := 15) (by kernel_rfl) rfl ?_
                      have s0 := HP.out.frozen 0
                      have r0 := (HP.out.cell 0).trans rfl
                      have hlp := HP.out.lt
                      go_wp2
                      refine ⟨fun h => absurd h (by decide), ?_⟩
                      refine wpN_none (by kernel_rfl) ?_
                      have E1 := Lib.hid (HB.out.setCell (p := ⟨Px7, 0, none⟩) (by show R ≤ Px7; omega) (.slice A9 (nq + 1) c9))
                      have E2 := Lib.hid (H2.out.far (p := ⟨Px7, 0, none⟩) (by show R + 1 ≠ Px7; omega) (.slice A9 (nq + 1) c9))
                      have E3 := Lib.hid (HP.out.set_ 0 (.slice A9 (nq + 1) c9))
                      have E4 := Lib.hid (own_setCell_blk HQ.out HP.out (by decide) 0 (.slice A9 (nq + 1) c9))
                      have E5 := Lib.hid (own_setCell_blk HE.out HP.out (by decide) 0 (.slice A9 (nq + 1) c9))
                      have E6 : Hid (∀ q ∈ Q, MadeO (x7.setCell ⟨Px7, 0, none⟩ (.slice A9 (nq + 1) c9)) R q) := Lib.hid fun q hq => goodC_made (HM.out q hq).1 ((HM.out q hq).2.set HP.out (by decide) (by decide) 0 _)
                      have E7 : Hid (MadeO (x7.setCell ⟨Px7, 0, none⟩ (.slice A9 (nq + 1) c9)) R ⟨⟨yp, yA, yn, yc, yo, yes⟩, yB, ym, yd, yls⟩) := Lib.hid (madeO_ren HZG.out (HY.out.set HP.out (by decide) (by decide) 0 _) HYC.out)
                      have E8 : Hid (R ≤ (x7.setCell ⟨Px7, 0, none⟩ (.slice A9 (nq + 1) c9)).heap.size) := Lib.hid (by simpa [World.setCell] using hRs)
                      simp only [List.set_cons_zero] at E3
                      clear HB H2 HP HQ HE HM HY s0 r0 hlp
                      generalize World.setCell _ _ _ = wz at *
                      go_wp2
                      go_meet
                      exact ⟨Px7, A9, c9, ⟨⟨yp, yA, yn, yc, yo, yes⟩, yB, ym, yd, yls⟩, rfl, HYC.out, E1.out, E2.out, E3.out, own_rd E4.out, own_rd E5.out, E6.out, E7.out, E8.out⟩
                    · go_wp2
                      have hbl := (Below.refl x5.heap.size x5).alloc (Nat.le_refl _) (.cells #[.slice none 0 0] 37)
                      have HP := Lib.hid (Blk.new x5 37 [.slice none 0 0])
                      have hP : R + 2 ≤ x5.heap.size := by have := H2.out.lt; omega
                      replace HB := Lib.hid (HB.out.trans (hbl.mono hRs))
                      replace H2 := Lib.hid (H2.out.below hbl H2.out.lt)
                      replace HQ := Lib.hid (own_below HQ.out hbl)
                      replace HM : Hid (∀ q ∈ Q, goodC q ∧ Cl.own (x5.alloc (.cells #[.slice none 0 0] 37)) R q) := Lib.hid fun q hq => ⟨(HM.out q hq).1, (HM.out q hq).2.below hbl⟩
                      replace hR8 : R8 ≤ (x5.alloc (.cells #[.slice none 0 0] 37)).heap.size := Nat.le_trans hR8 hbl.size
                      replace hRs : R ≤ (x5.alloc (.cells #[.slice none 0 0] 37)).heap.size := Nat.le_trans hRs hbl.size
                      replace HE := Lib.hid (own_below HE.out hbl)
                      replace HY := Lib.hid (HY.out.below hbl)
                      clear hbl
                      refine tailN_normal ((HCi.out _).2 ⟨H2.out, HQ.out⟩) ?_
                      generalize World.alloc _ _ = x8 at *
                      generalize x5.heap.size = Px8 at *
                      refine wpN_one (i := 13) (by kernel_rfl) rfl ?_
                      go_wp2
                      refine tailN_normal ((HCi.out _).2 ⟨H2.out, HQ.out⟩) ?_
                      refine wpN_one (i := 15) (by kernel_rfl) rfl ?_
                      have s0 := HP.out.frozen 0
                      have r0 := (HP.out.cell 0).trans rfl
                      have hlp := HP.out.lt
                      go_wp2
                      refine ⟨fun h => absurd h (by decide), ?_⟩
                      refine wpN_none (by kernel_rfl) ?_
                      have E1 := Lib.hid (HB.out.setCell (p := ⟨Px8, 0, none⟩) (by show R ≤ Px8; omega) (.slice A9 (nq + 1) c9))
                      have E2 := Lib.hid (H2.out.far (p := ⟨Px8, 0, none⟩) (by show R + 1 ≠ Px8; omega) (.slice A9 (nq + 1) c9))
                      have E3 := Lib.hid (HP.out.set_ 0 (.slice A9 (nq + 1) c9))
                      have E4 := Lib.hid (own_setCell_blk HQ.out HP.out (by decide) 0 (.slice A9 (nq + 1) c9))
                      have E5 := Lib.hid (own_setCell_blk HE.out HP.out (by decide) 0 (.slice A9 (nq + 1) c9))
                      have E6 : Hid (∀ q ∈ Q, MadeO (x8.setCell ⟨Px8, 0, none⟩ (.slice A9 (nq + 1) c9)) R q) := Lib.hid fun q hq => goodC_made (HM.out q hq).1 ((HM.out q hq).2.set HP.out (by decide) (by decide) 0 _)
                      have E7 : Hid (MadeO (x8.setCell ⟨Px8, 0, none⟩ (.slice A9 (nq + 1) c9)) R ⟨⟨yp, yA, yn, yc, yo, yes⟩, yB, ym, yd, yls⟩) := Lib.hid (madeO_ren HZG.out (HY.out.set HP.out (by decide) (by decide) 0 _) HYC.out)
                      have E8 : Hid (R ≤ (x8.setCell ⟨Px8, 0, none⟩ (.slice A9 (nq + 1) c9)).heap.size) := Lib.hid (by simpa [World.setCell] using hRs)
                      simp only [List.set_cons_zero] at E3
                      clear HB H2 HP HQ HE HM HY s0 r0 hlp
                      generalize World.setCell _ _ _ = wz at *
                      go_wp2
                      go_meet
                      exact ⟨Px8, A9, c9, ⟨⟨yp, yA, yn, yc, yo, yes⟩, yB, ym, yd, yls⟩, rfl, HYC.out, E1.out, E2.out, E3.out, own_rd E4.out, own_rd E5.out, E6.out, E7.out, E8.out⟩
                  · go_wp2
                    have hbl := (Below.refl x4.heap.size x4).alloc (Nat.le_refl _) (.cells #[.slice none 0 0] 37)
                    have HP := Lib.hid (Blk.new x4 37 [.slice none 0 0])
                    have hP : R + 2 ≤ x4.heap.size := by have := H2.out.lt; omega
                    replace HB := Lib.hid (HB.out.trans (hbl.mono hRs))
                    replace H2 := Lib.hid (H2.out.below hbl H2.out.lt)
                    replace HQ := Lib.hid (own_below HQ.out hbl)
                    replace HM : Hid (∀ q ∈ Q, goodC q ∧ Cl.own (x4.alloc (.cells #[.slice none 0 0] 37)) R q) := Lib.hid fun q hq => ⟨(HM.out q hq).1, (HM.out q hq).2.below hbl⟩
                    replace hR8 : R8 ≤ (x4.alloc (.cells #[.slice none 0 0] 37)).heap.size := Nat.le_trans hR8 hbl.size
                    replace hRs : R ≤ (x4.alloc (.cells #[.slice none 0 0] 37)).heap.size := Nat.le_trans hRs hbl.size
                    replace HE := Lib.hid (own_below HE.out hbl)
                    replace HY := Lib.hid (HY.out.below hbl)
                    replace HZ := Lib.hid (HZ.out.below hbl HZ.out.lt)
                    clear hbl
                    refine tailN_normal ((HCi.out _).2 ⟨H2.out, HQ.out⟩) ?_
                    generalize World.alloc _ _ = x10 at *
                    generalize x4.heap.size = Px10 at *
                    refine wpN_one (i := 12) (by kernel_rfl) rfl ?_
                    refine wpList_append_all rfl _ _ 35 rfl R8 45 j0 _ 4 72 Try.underlying35 hj hy0 hy1 hy2 rfl (by decide) _ _ _ rfl HE.out (some ⟨Zx4, 0, none⟩) 1 1 (ccells [⟨⟨yp, yA, yn, yc, yo, yes⟩, yB, ym, yd, yls⟩]) rfl (fun h => by cases h) (blk_rd HZ.out) (cls_one _) (by unfold maxLen; omega) (by omega) hR8 ?_
                    intro v62 x11 hE hg
                    obtain ⟨A9, c9, rfl, hn9⟩ := own_slice hE
                    rw [← ccells_append] at hE
                    replace HB := Lib.hid (HB.out.grown hg hRs (fun q hq => Nat.le_trans HRR8.out (HE.out.lt q hq).1))
                    replace HM : Hid (∀ q ∈ Q, goodC q ∧ Cl.own x11 R q) := Lib.hid fun q hq => ⟨(HM.out q hq).1, (HM.out q hq).2.kept HE.out hg⟩
                    replace HQ := Lib.hid (HQ.out.kept hg (.inr (fun e => by
                      have h2 := (HE.out.lt gq e.symm).1
                      have h3 := HGQ.out
                      omega)))
                    replace H2 := Lib.hid (H2.out.grown hg (own_blk_ne HE.out H2.out (by decide)))
                    replace HP := Lib.hid (HP.out.grown hg (own_blk_ne HE.out HP.out (by decide)))
                    replace HY := Lib.hid (HY.out.kept HE.out hg)
                    replace hR8 : R8 ≤ x11.heap.size := Nat.le_trans hR8 hg.size
                    replace hRs : R ≤ x11.heap.size := Nat.le_trans hRs hg.size
                    replace HE := Lib.hid hE
                    clear hE hg HZ
                    go_wp2
                    refine tailN_normal ((HCi.out _).2 ⟨H2.out, HQ.out⟩) ?_
                    refine wpN_one (i := 13) (by kernel_rfl) rfl ?_
                    go_wp2
                    refine tailN_normal ((HCi.out _).2 ⟨H2.out, HQ.out⟩) ?_
                    refine wpN_one (i := 15) (by kernel_rfl) rfl ?_
                    have s0 := HP.out.frozen 0
                    have r0 := (HP.out.cell 0).trans rfl
                    have hlp := HP.out.lt
                    go_wp2
                    refine ⟨fun h => absurd h (by decide), ?_⟩
                    refine wpN_none (by kernel_rfl) ?_
                    have E1 := Lib.hid (HB.out.setCell (p := ⟨Px10, 0, none⟩) (by show R ≤ Px10; omega) (.slice A9 (nq + 1) c9))
                    have E2 := Lib.hid (H2.out.far (p := ⟨Px10, 0, none⟩) (by show R + 1 ≠ Px10; omega) (.slice A9 (nq + 1) c9))
                    have E3 := Lib.hid (HP.out.set_ 0 (.slice A9 (nq + 1) c9))
                    have E4 := Lib.hid (own_setCell_blk HQ.out HP.out (by decide) 0 (.slice A9 (nq + 1) c9))
                    have E5 := Lib.hid (own_setCell_blk HE.out HP.out (by decide) 0 (.slice A9 (nq + 1) c9))
                    have E6 : Hid (∀ q ∈ Q, MadeO (x11.setCell ⟨Px10, 0, none⟩ (.slice A9 (nq + 1) c9)) R q) := Lib.hid fun q hq => goodC_made (HM.out q hq).1 ((HM.out q hq).2.set HP.out (by decide) (by decide) 0 _)
                    have E7 : Hid (MadeO (x11.setCell ⟨Px10, 0, none⟩ (.slice A9 (nq + 1) c9)) R ⟨⟨yp, yA, yn, yc, yo, yes⟩, yB, ym, yd, yls⟩) := Lib.hid (madeO_ren HZG.out (HY.out.set HP.out (by decide) (by decide) 0 _) HYC.out)
                    have E8 : Hid (R ≤ (x11.setCell ⟨Px10, 0, none⟩ (.slice A9 (nq + 1) c9)).heap.size) := Lib.hid (by simpa [World.setCell] using hRs)
                    simp only [List.set_cons_zero] at E3
                    clear HB H2 HP HQ HE HM HY s0 r0 hlp
                    generalize World.setCell _ _ _ = wz at *
                    go_wp2
                    go_meet
                    exact ⟨Px10, A9, c9, ⟨⟨yp, yA, yn, yc, yo, yes⟩, yB, ym, yd, yls⟩, rfl, HYC.out, E1.out, E2.out, E3.out, own_rd E4.out, own_rd E5.out, E6.out, E7.out, E8.out⟩
                · go_wp2
                  have hbl := (Below.refl x3.heap.size x3).alloc (Nat.le_refl _) (.cells #[.slice none 0 0] 37)
                  have HP := Lib.hid (Blk.new x3 37 [.slice none 0 0])
                  have hP : R + 2 ≤ x3.heap.size := by have := H2.out.lt; omega
                  replace HB := Lib.hid (HB.out.trans (hbl.mono hRs))
                  replace H2 := Lib.hid (H2.out.below hbl H2.out.lt)
                  replace HQ := Lib.hid (own_below HQ.out hbl)
                  replace HM : Hid (∀ q ∈ Q, goodC q ∧ Cl.own (x3.alloc (.cells #[.slice none 0 0] 37)) R q) := Lib.hid fun q hq => ⟨(HM.out q hq).1, (HM.out q hq).2.below hbl⟩
                  replace hR8 : R8 ≤ (x3.alloc (.cells #[.slice none 0 0] 37)).heap.size := Nat.le_trans hR8 hbl.size
                  replace hRs : R ≤ (x3.alloc (.cells #[.slice none 0 0] 37)).heap.size := Nat.le_trans hRs hbl.size
                  replace HE := Lib.hid (own_below HE.out hbl)
                  replace HY := Lib.hid (HY.out.below hbl)
                  clear hbl
                  refine tailN_normal ((HCi.out _).2 ⟨H2.out, HQ.out⟩) ?_
                  generalize World.alloc _ _ = x13 at *
                  generalize x3.heap.size = Px13 at *
                  refine wpN_one (i := 11) (by kernel_rfl) rfl ?_
                  go_wp2
                  have hbl := (Below.refl x13.heap.size x13).alloc (Nat.le_refl _) (.cells #[.string yp, .slice yA yn yc, .int .i64 yo, .slice yB ym yd] 45)
                  have HZ : Hid (Blk (x13.alloc (.cells #[.string yp, .slice yA yn yc, .int .i64 yo, .slice yB ym yd] 45)) x13.heap.size 45 (Cl.cells ⟨⟨yp, yA, yn, yc, yo, yes⟩, yB, ym, yd, yls⟩)) := Lib.hid (Blk.new x13 45 (Cl.cells ⟨⟨yp, yA, yn, yc, yo, yes⟩, yB, ym, yd, yls⟩))
                  replace HB := Lib.hid (HB.out.trans (hbl.mono hRs))
                  replace H2 := Lib.hid (H2.out.below hbl H2.out.lt)
                  replace HQ := Lib.hid (own_below HQ.out hbl)
                  replace HM : Hid (∀ q ∈ Q, goodC q ∧ Cl.own (x13.alloc (.cells #[.string yp, .slice yA yn yc, .int .i64 yo, .slice yB ym yd] 45)) R q) := Lib.hid fun q hq => ⟨(HM.out q hq).1, (HM.out q hq).2.below hbl⟩
                  replace hR8 : R8 ≤ (x13.alloc (.cells #[.string yp, .slice yA yn yc, .int .i64 yo, .slice yB ym yd] 45)).heap.size := Nat.le_trans hR8 hbl.size
                  replace hRs : R ≤ (x13.alloc (.cells #[.string yp, .slice yA yn yc, .int .i64 yo, .slice yB ym yd] 45)).heap.size := Nat.le_trans hRs hbl.size
                  replace HP := Lib.hid (HP.out.below hbl HP.out.lt)
                  replace HE := Lib.hid (own_below HE.out hbl)
                  replace HY := Lib.hid (HY.out.below hbl)
                  clear hbl
                  refine tailN_normal ((HCi.out _).2 ⟨H2.out, HQ.out⟩) ?_
                  generalize hwa : World.alloc _ _ = x14 at *
                  clear hwa
                  generalize x13.heap.size = Zx14 at *
                  refine wpN_one (i := 12) (by kernel_rfl) rfl ?_
                  refine wpList_append_all rfl _ _ 35 rfl R8 45 j0 _ 4 72 Try.underlying35 hj hy0 hy1 hy2 rfl (by decide) _ _ _ rfl HE.out (some ⟨Zx14, 0, none⟩) 1 1 (ccells [⟨⟨yp, yA, yn, yc, yo, yes⟩, yB, ym, yd, yls⟩]) rfl (fun h => by cases h) (blk_rd HZ.out) (cls_one _) (by unfold maxLen; omega) (by omega) hR8 ?_
                  intro v62 x15 hE hg
                  obtain ⟨A9, c9, rfl, hn9⟩ := own_slice hE
                  rw [← ccells_append] at hE
                  replace HB := Lib.hid (HB.out.grown hg hRs (fun q hq => Nat.le_trans HRR8.out (HE.out.lt q hq).1))
                  replace HM : Hid (∀ q ∈ Q, goodC q ∧ Cl.own x15 R q) := Lib.hid fun q hq => ⟨(HM.out q hq).1, (HM.out q hq).2.kept HE.out hg⟩
                  replace HQ := Lib.hid (HQ.out.kept hg (.inr (fun e => by
                    have h2 := (HE.out.lt gq e.symm).1
                    have h3 := HGQ.out
                    omega)))
                  replace H2 := Lib.hid (H2.out.grown hg (own_blk_ne HE.out H2.out (by decide)))
                  replace HP := Lib.hid (HP.out.grown hg (own_blk_ne HE.out HP.out (by decide)))
                  replace HY := Lib.hid (HY.out.kept HE.out hg)
                  replace hR8 : R8 ≤ x15.heap.size := Nat.le_trans hR8 hg.size
                  replace hRs : R ≤ x15.heap.size := Nat.le_trans hRs hg.size
                  replace HE := Lib.hid hE
                  clear hE hg HZ
                  go_wp2
                  refine tailN_normal ((HCi.out _).2 ⟨H2.out, HQ.out⟩) ?_
                  refine wpN_one (i := 13) (by kernel_rfl) rfl ?_
                  go_wp2
                  refine tailN_normal ((HCi.out _).2 ⟨H2.out, HQ.out⟩) ?_
                  refine wpN_one (i := 15) (by kernel_rfl) rfl ?_
                  have s0 := HP.out.frozen 0
                  have r0 := (HP.out.cell 0).trans rfl
                  have hlp := HP.out.lt
                  go_wp2
                  refine ⟨fun h => absurd h (by decide), ?_⟩
                  refine wpN_none (by kernel_rfl) ?_
                  have E1 := Lib.hid (HB.out.setCell (p := ⟨Px13, 0, none⟩) (by show R ≤ Px13; omega) (.slice A9 (nq + 1) c9))
                  have E2 := Lib.hid (H2.out.far (p := ⟨Px13, 0, none⟩) (by show R + 1 ≠ Px13; omega) (.slice A9 (nq + 1) c9))
                  have E3 := Lib.hid (HP.out.set_ 0 (.slice A9 (nq + 1) c9))
                  have E4 := Lib.hid (own_setCell_blk HQ.out HP.out (by decide) 0 (.slice A9 (nq + 1) c9))
                  have E5 := Lib.hid (own_setCell_blk HE.out HP.out (by decide) 0 (.slice A9 (nq + 1) c9))
                  have E6 : Hid (∀ q ∈ Q, MadeO (x15.setCell ⟨Px13, 0, none⟩ (.slice A9 (nq + 1) c9)) R q) := Lib.hid fun q hq => goodC_made (HM.out q hq).1 ((HM.out q hq).2.set HP.out (by decide) (by decide) 0 _)
                  have E7 : Hid (MadeO (x15.setCell ⟨Px13, 0, none⟩ (.slice A9 (nq + 1) c9)) R ⟨⟨yp, yA, yn, yc, yo, yes⟩, yB, ym, yd, yls⟩) := Lib.hid (madeO_ren HZG.out (HY.out.set HP.out (by decide) (by decide) 0 _) HYC.out)
                  have E8 : Hid (R ≤ (x15.setCell ⟨Px13, 0, none⟩ (.slice A9 (nq + 1) c9)).heap.size) := Lib.hid (by simpa [World.setCell] using hRs)
                  simp only [List.set_cons_zero] at E3
                  clear HB H2 HP HQ HE HM HY s0 r0 hlp
                  generalize World.setCell _ _ _ = wz at *
                  go_wp2
                  go_meet
                  exact ⟨Px13, A9, c9, ⟨⟨yp, yA, yn, yc, yo, yes⟩, yB, ym, yd, yls⟩, rfl, HYC.out, E1.out, E2.out, E3.out, own_rd E4.out, own_rd E5.out, E6.out, E7.out, E8.out⟩
              · go_wp2
                have hbl := (Below.refl x2.heap.size x2).alloc (Nat.le_refl _) (.cells #[.slice none 0 0] 37)
                have HP := Lib.hid (Blk.new x2 37 [.slice none 0 0])
                have hP : R + 2 ≤ x2.heap.size := by have := H2.out.lt; omega
                replace HB := Lib.hid (HB.out.trans (hbl.mono hRs))
                replace H2 := Lib.hid (H2.out.below hbl H2.out.lt)
                replace HQ := Lib.hid (own_below HQ.out hbl)
                replace HM : Hid (∀ q ∈ Q, goodC q ∧ Cl.own (x2.alloc (.cells #[.slice none 0 0] 37)) R q) := Lib.hid fun q hq => ⟨(HM.out q hq).1, (HM.out q hq).2.below hbl⟩
                replace hR8 : R8 ≤ (x2.alloc (.cells #[.slice none 0 0] 37)).heap.size := Nat.le_trans hR8 hbl.size
                replace hRs : R ≤ (x2.alloc (.cells #[.slice none 0 0] 37)).heap.size := Nat.le_trans hRs hbl.size
                replace HE := Lib.hid (own_below HE.out hbl)
                clear hbl
                refine tailN_normal ((HCi.out _).2 ⟨H2.out, HQ.out⟩) ?_
                generalize World.alloc _ _ = x17 at *
                generalize x2.heap.size = Px17 at *
                refine wpN_one (i := 10) (by kernel_rfl) rfl ?_
                have kr := renC_any z off x17 (goodC_made (HM.out z HXM.out).1 (HM.out z HXM.out).2).ok (goodC_short HZG.out)
                simp only [Cl.cells] at kr
                go_wp2_with fail
                refine kr.mono ?_
                rintro e x18 ⟨⟨⟨yp, yA, yn, yc, yo, yes⟩, yB, ym, yd, yls⟩, rfl, hyc, hyo, hbl⟩
                have HYC := Lib.hid hyc
                have HY := Lib.hid (hyo.le hRs)
                replace HB := Lib.hid (HB.out.trans (hbl.mono hRs))
                replace H2 := Lib.hid (H2.out.below hbl H2.out.lt)
                replace HQ := Lib.hid (own_below HQ.out hbl)
                replace HM : Hid (∀ q ∈ Q, goodC q ∧ Cl.own x18 R q) := Lib.hid fun q hq => ⟨(HM.out q hq).1, (HM.out q hq).2.below hbl⟩
                replace hR8 : R8 ≤ x18.heap.size := Nat.le_trans hR8 hbl.size
                replace hRs : R ≤ x18.heap.size := Nat.le_trans hRs hbl.size
                replace HP := Lib.hid (HP.out.below hbl HP.out.lt)
                replace HE := Lib.hid (own_below HE.out hbl)
                clear hbl kr hyc hyo
                dsimp only
                go_wp2
                refine tailN_normal ((HCi.out _).2 ⟨H2.out, HQ.out⟩) ?_
                refine wpN_one (i := 11) (by kernel_rfl) rfl ?_
                go_wp2
                have hbl := (Below.refl x18.heap.size x18).alloc (Nat.le_refl _) (.cells #[.string yp, .slice yA yn yc, .int .i64 yo, .slice yB ym yd] 45)
                have HZ : Hid (Blk (x18.alloc (.cells #[.string yp, .slice yA yn yc, .int .i64 yo, .slice yB ym yd] 45)) x18.heap.size 45 (Cl.cells ⟨⟨yp, yA, yn, yc, yo, yes⟩, yB, ym, yd, yls⟩)) := Lib.hid (Blk.new x18 45 (Cl.cells ⟨⟨yp, yA, yn, yc, yo, yes⟩, yB, ym, yd, yls⟩))
                replace HB := Lib.hid (HB.out.trans (hbl.mono hRs))
                replace H2 := Lib.hid (H2.out.below hbl H2.out.lt)
                replace HQ := Lib.hid (own_below HQ.out hbl)
                replace HM : Hid (∀ q ∈ Q, goodC q ∧ Cl.own (x18.alloc (.cells #[.string yp, .slice yA yn yc, .int .i64 yo, .slice yB ym yd] 45)) R q) := Lib.hid fun q hq => ⟨(HM.out q hq).1, (HM.out q hq).2.below hbl⟩
                replace hR8 : R8 ≤ (x18.alloc (.cells #[.string yp, .slice yA yn yc, .int .i64 yo, .slice yB ym yd] 45)).heap.size := Nat.le_trans hR8 hbl.size
                replace hRs : R ≤ (x18.alloc (.cells #[.string yp, .slice yA yn yc, .int .i64 yo, .slice yB ym yd] 45)).heap.size := Nat.le_trans hRs hbl.size
                replace HP := Lib.hid (HP.out.below hbl HP.out.lt)
                replace HE := Lib.hid (own_below HE.out hbl)
                replace HY := Lib.hid (HY.out.below hbl)
                clear hbl
                refine tailN_normal ((HCi.out _).2 ⟨H2.out, HQ.out⟩) ?_
                generalize hwa : World.alloc _ _ = x19 at *
                clear hwa
                generalize x18.heap.size = Zx19 at *
                refine wpN_one (i := 12) (by kernel_rfl) rfl ?_
                refine wpList_append_all rfl _ _ 35 rfl R8 45 j0 _ 4 72 Try.underlying35 hj hy0 hy1 hy2 rfl (by decide) _ _ _ rfl HE.out (some ⟨Zx19, 0, none⟩) 1 1 (ccells [⟨⟨yp, yA, yn, yc, yo, yes⟩, yB, ym, yd, yls⟩]) rfl (fun h => by cases h) (blk_rd HZ.out) (cls_one _) (by unfold maxLen; omega) (by omega) hR8 ?_
                intro v62 x20 hE hg
                obtain ⟨A9, c9, rfl, hn9⟩ := own_slice hE
                rw [← ccells_append] at hE
                replace HB := Lib.hid (HB.out.grown hg hRs (fun q hq => Nat.le_trans HRR8.out (HE.out.lt q hq).1))
                replace HM : Hid (∀ q ∈ Q, goodC q ∧ Cl.own x20 R q) := Lib.hid fun q hq => ⟨(HM.out q hq).1, (HM.out q hq).2.kept HE.out hg⟩
                replace HQ := Lib.hid (HQ.out.kept hg (.inr (fun e => by
                  have h2 := (HE.out.lt gq e.symm).1
                  have h3 := HGQ.out
                  omega)))
                replace H2 := Lib.hid (H2.out.grown hg (own_blk_ne HE.out H2.out (by decide)))
                replace HP := Lib.hid (HP.out.grown hg (own_blk_ne HE.out HP.out (by decide)))
                replace HY := Lib.hid (HY.out.kept HE.out hg)
                replace hR8 : R8 ≤ x20.heap.size := Nat.le_trans hR8 hg.size
                replace hRs : R ≤ x20.heap.size := Nat.le_trans hRs hg.size
                replace HE := Lib.hid hE
                clear hE hg HZ
                go_wp2
                refine tailN_normal ((HCi.out _).2 ⟨H2.out, HQ.out⟩) ?_
                refine wpN_one (i := 13) (by kernel_rfl) rfl ?_
                go_wp2
                refine tailN_normal ((HCi.out _).2 ⟨H2.out, HQ.out⟩) ?_
                refine wpN_one (i := 15) (by kernel_rfl) rfl ?_
                have s0 := HP.out.frozen 0
                have r0 := (HP.out.cell 0).trans rfl
                have hlp := HP.out.lt
                go_wp2
                refine ⟨fun h => absurd h (by decide), ?_⟩
                refine wpN_none (by kernel_rfl) ?_
                have E1 := Lib.hid (HB.out.setCell (p := ⟨Px17, 0, none⟩) (by show R ≤ Px17; omega) (.slice A9 (nq + 1) c9))
                have E2 := Lib.hid (H2.out.far (p := ⟨Px17, 0, none⟩) (by show R + 1 ≠ Px17; omega) (.slice A9 (nq + 1) c9))
                have E3 := Lib.hid (HP.out.set_ 0 (.slice A9 (nq + 1) c9))
                have E4 := Lib.hid (own_setCell_blk HQ.out HP.out (by decide) 0 (.slice A9 (nq + 1) c9))
                have E5 := Lib.hid (own_setCell_blk HE.out HP.out (by decide) 0 (.slice A9 (nq + 1) c9))
                have E6 : Hid (∀ q ∈ Q, MadeO (x20.setCell ⟨Px17, 0, none⟩ (.slice A9 (nq + 1) c9)) R q) := Lib.hid fun q hq => goodC_made (HM.out q hq).1 ((HM.out q hq).2.set HP.out (by decide) (by decide) 0 _)
                have E7 : Hid (MadeO (x20.setCell ⟨Px17, 0, none⟩ (.slice A9 (nq + 1) c9)) R ⟨⟨yp, yA, yn, yc, yo, yes⟩, yB, ym, yd, yls⟩) := Lib.hid (madeO_ren HZG.out (HY.out.set HP.out (by decide) (by decide) 0 _) HYC.out)
                have E8 : Hid (R ≤ (x20.setCell ⟨Px17, 0, none⟩ (.slice A9 (nq + 1) c9)).heap.size) := Lib.hid (by simpa [World.setCell] using hRs)
                simp only [List.set_cons_zero] at E3
                clear HB H2 HP HQ HE HM HY s0 r0 hlp
                generalize World.setCell _ _ _ = wz at *
                go_wp2
                go_meet
                exact ⟨Px17, A9, c9, ⟨⟨yp, yA, yn, yc, yo, yes⟩, yB, ym, yd, yls⟩, rfl, HYC.out, E1.out, E2.out, E3.out, own_rd E4.out, own_rd E5.out, E6.out, E7.out, E8.out⟩
            · go_wp2
              have hbl := (Below.refl x1.heap.size x1).alloc (Nat.le_refl _) (.cells #[.slice none 0 0] 37)
              have HP := Lib.hid (Blk.new x1 37 [.slice none 0 0])
              have hP : R + 2 ≤ x1.heap.size := by have := H2.out.lt; omega
              replace HB := Lib.hid (HB.out.trans (hbl.mono hRs))
              replace H2 := Lib.hid (H2.out.below hbl H2.out.lt)
              replace HQ := Lib.hid (own_below HQ.out hbl)
              replace HM : Hid (∀ q ∈ Q, goodC q ∧ Cl.own (x1.alloc (.cells #[.slice none 0 0] 37)) R q) := Lib.hid fun q hq => ⟨(HM.out q hq).1, (HM.out q hq).2.below hbl⟩
              replace hR8 : R8 ≤ (x1.alloc (.cells #[.slice none 0 0] 37)).heap.size := Nat.le_trans hR8 hbl.size
              replace hRs : R ≤ (x1.alloc (.cells #[.slice none 0 0] 37)).heap.size := Nat.le_trans hRs hbl.size
              replace HE := Lib.hid (own_below HE.out hbl)
              clear hbl
              refine tailN_normal ((HCi.out _).2 ⟨H2.out, HQ.out⟩) ?_
              generalize World.alloc _ _ = x22 at *
              generalize x1.heap.size = Px22 at *
              refine wpN_one (i := 3) (by kernel_rfl) rfl ?_
              refine wpList_append_all rfl _ _ 35 rfl R8 45 j0 _ 4 72 Try.underlying35 hj hy0 hy1 hy2 rfl (by decide) _ _ _ rfl HE.out (some ⟨gq, 0, none⟩) nq cq (ccells Q) rfl HAq.out (own_rd HQ.out) (cls_one _) (by unfold maxLen; omega) (by omega) hR8 ?_
              intro v3 x23 hE hg
              rw [List.nil_append, Nat.zero_add] at hE
              replace HB := Lib.hid (HB.out.grown hg hRs (fun q hq => Nat.le_trans HRR8.out (HE.out.lt q hq).1))
              replace HM : Hid (∀ q ∈ Q, goodC q ∧ Cl.own x23 R q) := Lib.hid fun q hq => ⟨(HM.out q hq).1, (HM.out q hq).2.kept HE.out hg⟩
              replace HQ := Lib.hid (HQ.out.kept hg (.inr (fun e => by
                have h2 := (HE.out.lt gq e.symm).1
                have h3 := HGQ.out
                omega)))
              replace H2 := Lib.hid (H2.out.grown hg (own_blk_ne HE.out H2.out (by decide)))
              replace HP := Lib.hid (HP.out.grown hg (own_blk_ne HE.out HP.out (by decide)))
              replace hR8 : R8 ≤ x23.heap.size := Nat.le_trans hR8 hg.size
              replace hRs : R ≤ x23.heap.size := Nat.le_trans hRs hg.size
              replace HE := Lib.hid hE
              clear hE hg
              go_wp2
              refine tailN_normal ((HCi.out _).2 ⟨H2.out, HQ.out⟩) ?_
              refine wpN_one (i := 10) (by kernel_rfl) rfl ?_
              have kr := renC_any z off x23 (goodC_made (HM.out z HXM.out).1 (HM.out z HXM.out).2).ok (goodC_short HZG.out)
              simp only [Cl.cells] at kr
              go_wp2_with fail
              refine kr.mono ?_
              rintro e x24 ⟨⟨⟨yp, yA, yn, yc, yo, yes⟩, yB, ym, yd, yls⟩, rfl, hyc, hyo, hbl⟩
              have HYC := Lib.hid hyc
              have HY := Lib.hid (hyo.le hRs)
              replace HB := Lib.hid (HB.out.trans (hbl.mono hRs))
              replace H2 := Lib.hid (H2.out.below hbl H2.out.lt)
              replace HQ := Lib.hid (own_below HQ.out hbl)
              replace HM : Hid (∀ q ∈ Q, goodC q ∧ Cl.own x24 R q) := Lib.hid fun q hq => ⟨(HM.out q hq).1, (HM.out q hq).2.below hbl⟩
              replace hR8 : R8 ≤ x24.heap.size := Nat.le_trans hR8 hbl.size
              replace hRs : R ≤ x24.heap.size := Nat.le_trans hRs hbl.size
              replace HP := Lib.hid (HP.out.below hbl HP.out.lt)
              replace HE := Lib.hid (own_below HE.out hbl)
              clear hbl kr hyc hyo
              dsimp only
              go_wp2
              refine tailN_normal ((HCi.out _).2 ⟨H2.out, HQ.out⟩) ?_
              refine wpN_one (i := 11) (by kernel_rfl) rfl ?_
              go_wp2
              have hbl := (Below.refl x24.heap.size x24).alloc (Nat.le_refl _) (.cells #[.string yp, .slice yA yn yc, .int .i64 yo, .slice yB ym yd] 45)
              have HZ : Hid (Blk (x24.alloc (.cells #[.string yp, .slice yA yn yc, .int .i64 yo, .slice yB ym yd] 45)) x24.heap.size 45 (Cl.cells ⟨⟨yp, yA, yn, yc, yo, yes⟩, yB, ym, yd, yls⟩)) := Lib.hid (Blk.new x24 45 (Cl.cells ⟨⟨yp, yA, yn, yc, yo, yes⟩, yB, ym, yd, yls⟩))
              replace HB := Lib.hid (HB.out.trans (hbl.mono hRs))
              replace H2 := Lib.hid (H2.out.below hbl H2.out.lt)
              replace HQ := Lib.hid (own_below HQ.out hbl)
              replace HM : Hid (∀ q ∈ Q, goodC q ∧ Cl.own (x24.alloc (.cells #[.string yp, .slice yA yn yc, .int .i64 yo, .slice yB ym yd] 45)) R q) := Lib.hid fun q hq => ⟨(HM.out q hq).1, (HM.out q hq).2.below hbl⟩
              replace hR8 : R8 ≤ (x24.alloc (.cells #[.string yp, .slice yA yn yc, .int .i64 yo, .slice yB ym yd] 45)).heap.size := Nat.le_trans hR8 hbl.size
              replace hRs : R ≤ (x24.alloc (.cells #[.string yp, .slice yA yn yc, .int .i64 yo, .slice yB ym yd] 45)).heap.size := Nat.le_trans hRs hbl.size
              replace HP := Lib.hid (HP.out.below hbl HP.out.lt)
              replace HE := Lib.hid (own_below HE.out hbl)
              replace HY := Lib.hid (HY.out.below hbl)
              clear hbl
              refine tailN_normal ((HCi.out _).2 ⟨H2.out, HQ.out⟩) ?_
              generalize hwa : World.alloc _ _ = x25 at *
              clear hwa
              generalize x24.heap.size = Zx25 at *
              refine wpN_one (i := 12) (by kernel_rfl) rfl ?_
              refine wpList_append_all rfl _ _ 35 rfl R8 45 j0 _ 4 72 Try.underlying35 hj hy0 hy1 hy2 rfl (by decide) _ _ _ rfl HE.out (some ⟨Zx25, 0, none⟩) 1 1 (ccells [⟨⟨yp, yA, yn, yc, yo, yes⟩, yB, ym, yd, yls⟩]) rfl (fun h => by cases h) (blk_rd HZ.out) (cls_one _) (by unfold maxLen; omega) (by omega) hR8 ?_
              intro v62 x26 hE hg
              obtain ⟨A9, c9, rfl, hn9⟩ := own_slice hE
              rw [← ccells_append] at hE
              replace HB := Lib.hid (HB.out.grown hg hRs (fun q hq => Nat.le_trans HRR8.out (HE.out.lt q hq).1))
              replace HM : Hid (∀ q ∈ Q, goodC q ∧ Cl.own x26 R q) := Lib.hid fun q hq => ⟨(HM.out q hq).1, (HM.out q hq).2.kept HE.out hg⟩
              replace HQ := Lib.hid (HQ.out.kept hg (.inr (fun e => by
                have h2 := (HE.out.lt gq e.symm).1
                have h3 := HGQ.out
                omega)))
              replace H2 := Lib.hid (H2.out.grown hg (own_blk_ne HE.out H2.out (by decide)))
              replace HP := Lib.hid (HP.out.grown hg (own_blk_ne HE.out HP.out (by decide)))
              replace HY := Lib.hid (HY.out.kept HE.out hg)
              replace hR8 : R8 ≤ x26.heap.size := Nat.le_trans hR8 hg.size
              replace hRs : R ≤ x26.heap.size := Nat.le_trans hRs hg.size
              replace HE := Lib.hid hE
              clear hE hg HZ
              go_wp2
              refine tailN_normal ((HCi.out _).2 ⟨H2.out, HQ.out⟩) ?_
              refine wpN_one (i := 13) (by kernel_rfl) rfl ?_
              go_wp2
              refine tailN_normal ((HCi.out _).2 ⟨H2.out, HQ.out⟩) ?_
              refine wpN_one (i := 15) (by kernel_rfl) rfl ?_
              have s0 := HP.out.frozen 0
              have r0 := (HP.out.cell 0).trans rfl
              have hlp := HP.out.lt
              go_wp2
              refine ⟨fun h => absurd h (by decide), ?_⟩
              refine wpN_none (by kernel_rfl) ?_
              have E1 := Lib.hid (HB.out.setCell (p := ⟨Px22, 0, none⟩) (by show R ≤ Px22; omega) (.slice A9 (nq + 1) c9))
              have E2 := Lib.hid (H2.out.far (p := ⟨Px22, 0, none⟩) (by show R + 1 ≠ Px22; omega) (.slice A9 (nq + 1) c9))
              have E3 := Lib.hid (HP.out.set_ 0 (.slice A9 (nq + 1) c9))
              have E4 := Lib.hid (own_setCell_blk HQ.out HP.out (by decide) 0 (.slice A9 (nq + 1) c9))
              have E5 := Lib.hid (own_setCell_blk HE.out HP.out (by decide) 0 (.slice A9 (nq + 1) c9))
              have E6 : Hid (∀ q ∈ Q, MadeO (x26.setCell ⟨Px22, 0, none⟩ (.slice A9 (nq + 1) c9)) R q) := Lib.hid fun q hq => goodC_made (HM.out q hq).1 ((HM.out q hq).2.set HP.out (by decide) (by decide) 0 _)
              have E7 : Hid (MadeO (x26.setCell ⟨Px22, 0, none⟩ (.slice A9 (nq + 1) c9)) R ⟨⟨yp, yA, yn, yc, yo, yes⟩, yB, ym, yd, yls⟩) := Lib.hid (madeO_ren HZG.out (HY.out.set HP.out (by decide) (by decide) 0 _) HYC.out)
              have E8 : Hid (R ≤ (x26.setCell ⟨Px22, 0, none⟩ (.slice A9 (nq + 1) c9)).heap.size) := Lib.hid (by simpa [World.setCell] using hRs)
              simp only [List.set_cons_zero] at E3
              clear HB H2 HP HQ HE HM HY s0 r0 hlp
              generalize World.setCell _ _ _ = wz at *
              go_wp2
              go_meet
              exact ⟨Px22, A9, c9, ⟨⟨yp, yA, yn, yc, yo, yes⟩, yB, ym, yd, yls⟩, rfl, HYC.out, E1.out, E2.out, E3.out, own_rd E4.out, own_rd E5.out, E6.out, E7.out, E8.out⟩
          · go_wp2
            have hbl := (Below.refl x0.heap.size x0).alloc (Nat.le_refl _) (.cells #[.slice none 0 0] 37)
            have HP := Lib.hid (Blk.new x0 37 [.slice none 0 0])
            have hP : R + 2 ≤ x0.heap.size := by have := H2.out.lt; omega
            replace HB := Lib.hid (HB.out.trans (hbl.mono hRs))
            replace H2 := Lib.hid (H2.out.below hbl H2.out.lt)
            replace HQ := Lib.hid (own_below HQ.out hbl)
            replace HM : Hid (∀ q ∈ Q, goodC q ∧ Cl.own (x0.alloc (.cells #[.slice none 0 0] 37)) R q) := Lib.hid fun q hq => ⟨(HM.out q hq).1, (HM.out q hq).2.below hbl⟩
            replace hR8 : R8 ≤ (x0.alloc (.cells #[.slice none 0 0] 37)).heap.size := Nat.le_trans hR8 hbl.size
            replace hRs : R ≤ (x0.alloc (.cells #[.slice none 0 0] 37)).heap.size := Nat.le_trans hRs hbl.size
            clear hbl
            refine tailN_normal ((HCi.out _).2 ⟨H2.out, HQ.out⟩) ?_
            generalize World.alloc _ _ = x28 at *
            generalize x0.heap.size = Px28 at *
            refine wpN_one (i := 0) (by kernel_rfl) rfl ?_
            go_wp2
            have hbl := (Below.refl x28.heap.size x28).alloc (Nat.le_refl _) (.cells #[] 45)
            have HE : Hid ((x28.alloc (.cells #[] 45)).ownsRow R8 45 4 (.slice (some ⟨x28.heap.size, 0, none⟩) 0 0) 0 []) := Lib.hid (own_empty hR8)
            replace HB := Lib.hid (HB.out.trans (hbl.mono hRs))
            replace H2 := Lib.hid (H2.out.below hbl H2.out.lt)
            replace HQ := Lib.hid (own_below HQ.out hbl)
            replace HM : Hid (∀ q ∈ Q, goodC q ∧ Cl.own (x28.alloc (.cells #[] 45)) R q) := Lib.hid fun q hq => ⟨(HM.out q hq).1, (HM.out q hq).2.below hbl⟩
            replace hR8 : R8 ≤ (x28.alloc (.cells #[] 45)).heap.size := Nat.le_trans hR8 hbl.size
            replace hRs : R ≤ (x28.alloc (.cells #[] 45)).heap.size := Nat.le_trans hRs hbl.size
            replace HP := Lib.hid (HP.out.below hbl HP.out.lt)
            clear hbl
            refine tailN_normal ((HCi.out _).2 ⟨H2.out, HQ.out⟩) ?_
            generalize World.alloc _ _ = x29 at *
            generalize x28.heap.size = Ex29 at *
            refine wpN_one (i := 3) (by kernel_rfl) rfl ?_
            refine wpList_append_all rfl _ _ 35 rfl R8 45 j0 _ 4 72 Try.underlying35 hj hy0 hy1 hy2 rfl (by decide) _ _ _ rfl HE.out (some ⟨gq, 0, none⟩) nq cq (ccells Q) rfl HAq.out (own_rd HQ.out) (cls_one _) (by unfold maxLen; omega) (by omega) hR8 ?_
            intro v3 x30 hE hg
            rw [List.nil_append, Nat.zero_add] at hE
            replace HB := Lib.hid (HB.out.grown hg hRs (fun q hq => Nat.le_trans HRR8.out (HE.out.lt q hq).1))
            replace HM : Hid (∀ q ∈ Q, goodC q ∧ Cl.own x30 R q) := Lib.hid fun q hq => ⟨(HM.out q hq).1, (HM.out q hq).2.kept HE.out hg⟩
            replace HQ := Lib.hid (HQ.out.kept hg (.inr (fun e => by
              have h2 := (HE.out.lt gq e.symm).1
              have h3 := HGQ.out
              omega)))
            replace H2 := Lib.hid (H2.out.grown hg (own_blk_ne HE.out H2.out (by decide)))
            replace HP := Lib.hid (HP.out.grown hg (own_blk_ne HE.out HP.out (by decide)))
            replace hR8 : R8 ≤ x30.heap.size := Nat.le_trans hR8 hg.size
            replace hRs : R ≤ x30.heap.size := Nat.le_trans hRs hg.size
            replace HE := Lib.hid hE
            clear hE hg
            go_wp2
            refine tailN_normal ((HCi.out _).2 ⟨H2.out, HQ.out⟩) ?_
            refine wpN_one (i := 10) (by kernel_rfl) rfl ?_
            have kr := renC_any z off x30 (goodC_made (HM.out z HXM.out).1 (HM.out z HXM.out).2).ok (goodC_short HZG.out)
            simp only [Cl.cells] at kr
            go_wp2_with fail
            refine kr.mono ?_
            rintro e x31 ⟨⟨⟨yp, yA, yn, yc, yo, yes⟩, yB, ym, yd, yls⟩, rfl, hyc, hyo, hbl⟩
            have HYC := Lib.hid hyc
            have HY := Lib.hid (hyo.le hRs)
            replace HB := Lib.hid (HB.out.trans (hbl.mono hRs))
            replace H2 := Lib.hid (H2.out.below hbl H2.out.lt)
            replace HQ := Lib.hid (own_below HQ.out hbl)
            replace HM : Hid (∀ q ∈ Q, goodC q ∧ Cl.own x31 R q) := Lib.hid fun q hq => ⟨(HM.out q hq).1, (HM.out q hq).2.below hbl⟩
            replace hR8 : R8 ≤ x31.heap.size := Nat.le_trans hR8 hbl.size
            replace hRs : R ≤ x31.heap.size := Nat.le_trans hRs hbl.size
            replace HP := Lib.hid (HP.out.below hbl HP.out.lt)
            replace HE := Lib.hid (own_below HE.out hbl)
            clear hbl kr hyc hyo
            dsimp only
            go_wp2
            refine tailN_normal ((HCi.out _).2 ⟨H2.out, HQ.out⟩) ?_
            refine wpN_one (i := 11) (by kernel_rfl) rfl ?_
            go_wp2
            have hbl := (Below.refl x31.heap.size x31).alloc (Nat.le_refl _) (.cells #[.string yp, .slice yA yn yc, .int .i64 yo, .slice yB ym yd] 45)
            have HZ : Hid (Blk (x31.alloc (.cells #[.string yp, .slice yA yn yc, .int .i64 yo, .slice yB ym yd] 45)) x31.heap.size 45 (Cl.cells ⟨⟨yp, yA, yn, yc, yo, yes⟩, yB, ym, yd, yls⟩)) := Lib.hid (Blk.new x31 45 (Cl.cells ⟨⟨yp, yA, yn, yc, yo, yes⟩, yB, ym, yd, yls⟩))
            replace HB := Lib.hid (HB.out.trans (hbl.mono hRs))
            replace H2 := Lib.hid (H2.out.below hbl H2.out.lt)
            replace HQ := Lib.hid (own_below HQ.out hbl)
            replace HM : Hid (∀ q ∈ Q, goodC q ∧ Cl.own (x31.alloc (.cells #[.string yp, .slice yA yn yc, .int .i64 yo, .slice yB ym yd] 45)) R q) := Lib.hid fun q hq => ⟨(HM.out q hq).1, (HM.out q hq).2.below hbl⟩
            replace hR8 : R8 ≤ (x31.alloc (.cells #[.string yp, .slice yA yn yc, .int .i64 yo, .slice yB ym yd] 45)).heap.size := Nat.le_trans hR8 hbl.size
            replace hRs : R ≤ (x31.alloc (.cells #[.string yp, .slice yA yn yc, .int .i64 yo, .slice yB ym yd] 45)).heap.size := Nat.le_trans hRs hbl.size
            replace HP := Lib.hid (HP.out.below hbl HP.out.lt)
            replace HE := Lib.hid (own_below HE.out hbl)
            replace HY := Lib.hid (HY.out.below hbl)
            clear hbl
            refine tailN_normal ((HCi.out _).2 ⟨H2.out, HQ.out⟩) ?_
            generalize hwa : World.alloc _ _ = x32 at *
            clear hwa
            generalize x31.heap.size = Zx32 at *
            refine wpN_one (i := 12) (by kernel_rfl) rfl ?_
            refine wpList_append_all rfl _ _ 35 rfl R8 45 j0 _ 4 72 Try.underlying35 hj hy0 hy1 hy2 rfl (by decide) _ _ _ rfl HE.out (some ⟨Zx32, 0, none⟩) 1 1 (ccells [⟨⟨yp, yA, yn, yc, yo, yes⟩, yB, ym, yd, yls⟩]) rfl (fun h => by cases h) (blk_rd HZ.out) (cls_one _) (by unfold maxLen; omega) (by omega) hR8 ?_
            intro v62 x33 hE hg
            obtain ⟨A9, c9, rfl, hn9⟩ := own_slice hE
            rw [← ccells_append] at hE
            replace HB := Lib.hid (HB.out.grown hg hRs (fun q hq => Nat.le_trans HRR8.out (HE.out.lt q hq).1))
            replace HM : Hid (∀ q ∈ Q, goodC q ∧ Cl.own x33 R q) := Lib.hid fun q hq => ⟨(HM.out q hq).1, (HM.out q hq).2.kept HE.out hg⟩
            replace HQ := Lib.hid (HQ.out.kept hg (.inr (fun e => by
              have h2 := (HE.out.lt gq e.symm).1
              have h3 := HGQ.out
              omega)))
            replace H2 := Lib.hid (H2.out.grown hg (own_blk_ne HE.out H2.out (by decide)))
            replace HP := Lib.hid (HP.out.grown hg (own_blk_ne HE.out HP.out (by decide)))
            replace HY := Lib.hid (HY.out.kept HE.out hg)
            replace hR8 : R8 ≤ x33.heap.size := Nat.le_trans hR8 hg.size
            replace hRs : R ≤ x33.heap.size := Nat.le_trans hRs hg.size
            replace HE := Lib.hid hE
            clear hE hg HZ
            go_wp2
            refine tailN_normal ((HCi.out _).2 ⟨H2.out, HQ.out⟩) ?_
            refine wpN_one (i := 13) (by kernel_rfl) rfl ?_
            go_wp2
            refine tailN_normal ((HCi.out _).2 ⟨H2.out, HQ.out⟩) ?_
            refine wpN_one (i := 15) (by kernel_rfl) rfl ?_
            have s0 := HP.out.frozen 0
            have r0 := (HP.out.cell 0).trans rfl
            have hlp := HP.out.lt
            go_wp2
            refine ⟨fun h => absurd h (by decide), ?_⟩
            refine wpN_none (by kernel_rfl) ?_
            have E1 := Lib.hid (HB.out.setCell (p := ⟨Px28, 0, none⟩) (by show R ≤ Px28; omega) (.slice A9 (nq + 1) c9))
            have E2 := Lib.hid (H2.out.far (p := ⟨Px28, 0, none⟩) (by show R + 1 ≠ Px28; omega) (.slice A9 (nq + 1) c9))
            have E3 := Lib.hid (HP.out.set_ 0 (.slice A9 (nq + 1) c9))
            have E4 := Lib.hid (own_setCell_blk HQ.out HP.out (by decide) 0 (.slice A9 (nq + 1) c9))
            have E5 := Lib.hid (own_setCell_blk HE.out HP.out (by decide) 0 (.slice A9 (nq + 1) c9))
            have E6 : Hid (∀ q ∈ Q, MadeO (x33.setCell ⟨Px28, 0, none⟩ (.slice A9 (nq + 1) c9)) R q) := Lib.hid fun q hq => goodC_made (HM.out q hq).1 ((HM.out q hq).2.set HP.out (by decide) (by decide) 0 _)
            have E7 : Hid (MadeO (x33.setCell ⟨Px28, 0, none⟩ (.slice A9 (nq + 1) c9)) R ⟨⟨yp, yA, yn, yc, yo, yes⟩, yB, ym, yd, yls⟩) := Lib.hid (madeO_ren HZG.out (HY.out.set HP.out (by decide) (by decide) 0 _) HYC.out)
            have E8 : Hid (R ≤ (x33.setCell ⟨Px28, 0, none⟩ (.slice A9 (nq + 1) c9)).heap.size) := Lib.hid (by simpa [World.setCell] using hRs)
            simp only [List.set_cons_zero] at E3
            clear HB H2 HP HQ HE HM HY s0 r0 hlp
            generalize World.setCell _ _ _ = wz at *
            go_wp2
            go_meet
            exact ⟨Px28, A9, c9, ⟨⟨yp, yA, yn, yc, yo, yes⟩, yB, ym, yd, yls⟩, rfl, HYC.out, E1.out, E2.out, E3.out, own_rd E4.out, own_rd E5.out, E6.out, E7.out, E8.out⟩
        case rest =>
          have HGD : Hid (∀ x ∈ Q, goodC x) := Lib.hid fun x hx => (HM.out x hx).1
          clear HB H2 HQ HM
          obtain ⟨P, A9, c9, y, rfl, hyc, hboth⟩ := hcut
          obtain ⟨hpl, htr, hts⟩ := again_plain hkl HGD.out (by have := HQL.out; omega) hyc HP0.out
          have HBO := Lib.hid hboth
          have HTR := Lib.hid htr
          have HTS := Lib.hid hts
          have HF1 : Hid (∀ x ∈ Q ++ [y], x.fines ∧ x.ints ∧ clauseE x = 0) := Lib.hid fun x hx => by
            rcases List.mem_append.1 hx with hx | hx
            · exact ⟨(HBO.out.mq x hx).f, (HBO.out.mq x hx).i, (HBO.out.mq x hx).e⟩
            · rw [List.mem_singleton.1 hx]; exact ⟨HBO.out.my.f, HBO.out.my.i, HBO.out.my.e⟩
          obtain ⟨jj, rest, hM, hj0, hjk, hrest⟩ := hpl
          have hQl := HQL.out
          rw [hQl] at hM hrest
          have HMM := Lib.hid hM
          have HRE := Lib.hid hrest
          clear hM hrest htr hts hboth hyc HX HXM HGD HP0 hQl hk0 hk1
          have HLQ := Lib.hid (fun (W : World) (h : Both w W R P Aq nq cq A9 c9 Q y) => look_any Aq nq cq Q W h.rq (fun x hx => (h.mq x hx).ok) (fun x hx => (HF1.out x (List.mem_append_left _ hx)).1) (fun x hx => (HF1.out x (List.mem_append_left _ hx)).2.1))
          have HLR := Lib.hid (fun (W : World) (h : Both w W R P Aq nq cq A9 c9 Q y) => look_any A9 (nq + 1) c9 (Q ++ [y]) W h.rp (fun x hx => by
            rcases List.mem_append.1 hx with hx | hx
            · exact (h.mq x hx).ok
            · rw [List.mem_singleton.1 hx]; exact h.my.ok) (fun x hx => (HF1.out x hx).1) (fun x hx => (HF1.out x hx).2.1))
          generalize lookF (Q ++ [y]) = M at *
          generalize lookF Q = L at *
          generalize hwc : wc = w6 at *
          clear hwc
          have f0 := (HBO.out.q.cell 0).trans rfl
          have kl := HLQ.out w6 HBO.out
          go_wp2_with fail
          refine kl.mono ?_
          rintro e w7 ⟨Al, cl, rfl, hol, hb7⟩
          have HBO := Lib.hid (HBO.out.up hb7)
          have HOL := Lib.hid (own_rd hol)
          clear kl hb7 hol f0 HLQ
          have f0 := (HBO.out.p.cell 0).trans rfl
          have kl := HLR.out w7 HBO.out
          go_wp2_with fail
          refine kl.mono ?_
          rintro e w8 ⟨Am, cm, rfl, hom, hb8⟩
          have HBO := Lib.hid (HBO.out.up hb8)
          have HOL := Lib.hid (HOL.out.up hb8 hb8.size)
          have HOM := Lib.hid (own_rd hom)
          clear kl hb8 hom f0 HLR
          have hML : M.length = L.length + (1 + rest.length) := by rw [HMM.out]; simp; omega
          have hll := HOL.out.2.1
          have hmm := HOM.out.2.1
          have HML := Lib.hid hML
          clear hML
          generalize hml : M.length = ml at *
          generalize hllg : L.length = ll at *
          have HMI : Hid (∀ q (h1 : q < M.length) (h2 : q < L.length), M[q] = L[q]) := Lib.hid (fun q h1 h2 => by
            have e : M[q]? = L[q]? := by rw [HMM.out, List.getElem?_append_left h2]
            rw [List.getElem?_eq_getElem h1, List.getElem?_eq_getElem h2] at e
            injection e)
          have HMH : Hid (∀ h1 : ll < M.length, M[ll] = (⟨1, nq, jj, off, noS⟩ : Fd)) := Lib.hid (fun h1 => by
            have e : M[ll]? = some (⟨1, nq, jj, off, noS⟩ : Fd) := by rw [HMM.out, List.getElem?_append_right (Nat.le_of_eq hllg), hllg, Nat.sub_self]; rfl
            rw [List.getElem?_eq_getElem h1] at e
            injection e)
          have HMT : Hid (∀ q (h1 : q < M.length), ll ≤ q → M[q].c = nq) := Lib.hid (fun q h1 h2 => by
            have hmem : M[q] ∈ (⟨1, nq, jj, off, noS⟩ : Fd) :: rest := by
              have e : M[q]? = ((⟨1, nq, jj, off, noS⟩ : Fd) :: rest)[q - ll]? := by rw [HMM.out, List.getElem?_append_right (by omega), hllg]
              rw [List.getElem?_eq_getElem h1] at e
              exact List.mem_of_getElem? e.symm
            rcases List.mem_cons.1 hmem with h | h
            · rw [h]
            · exact HRE.out _ h)
          have HMLE := Lib.hid hml
          have HLLE := Lib.hid hllg
          clear HMM HRE hml hllg
          have hlt : ll < ml := by have := HML.out; omega
          have f0 := (HBO.out.q.cell 0).trans rfl
          go_upto_region 12 with (fail)
          clear f0
          have hle : decide ((ml : Int) ≤ (ll : Int)) = false := decide_eq_false (by omega)
          obtain ⟨B', off', hk1, rfl, hB, hc⟩ := HOM.out.at Fd.cells 5 (fun _ => rfl) (by omega) ll hlt
          rw [HMH.out hk1] at hc
          have c0 := hc 0 _ (by omega) rfl
          have c1 := hc 1 _ (by omega) rfl
          have c2 := hc 2 _ (by omega) rfl
          have c3 := hc 3 _ (by omega) rfl
          rw [Nat.add_zero] at c0
          clear hc
          have hjd : decide ((kk : Int) < jj) = false := decide_eq_false (by omega)
          go_upto_region 15 with (fail)
          clear c0 c1 c2 c3 hjd hle HMH
          go_loopg [13] ll (fun gk u13 wr => ∃ q : Nat, u13 = .int .i64 q ∧ q ≤ ll ∧ Hid (gk = ll - q) ∧ Hid (Both w wr R P Aq nq cq A9 c9 Q y) ∧ Hid (Rd wr wr.heap.size 5 Al ll (fcells L)) ∧ Hid (Rd wr wr.heap.size 5 (some ⟨B', off', none⟩) ml (fcells M)))
          case atStart => exact ⟨0, rfl, Nat.zero_le _, Lib.hid (by omega), HBO, HOL, HOM⟩
          case round =>
            clear HBO HOL HOM hB
            obtain ⟨q, rfl, hq, HG, HBO, HOL, HOM⟩ := hrel
            by_cases hql : q < ll
            · obtain ⟨B1, o1, hk1, rfl, hB1, hc⟩ := HOL.out.at Fd.cells 5 (fun _ => rfl) (by omega) q hql
              obtain ⟨B2, o2, hk2, hAe, hB2, hc'⟩ := HOM.out.at Fd.cells 5 (fun _ => rfl) (by omega) q (by omega)
              injection hAe with hAe
              injection hAe with e1 e2
              subst e1 e2
              rw [HMI.out q hk2 hk1] at hc'
              have c0 := hc 0 _ (by omega) rfl
              have c1 := hc 1 _ (by omega) rfl
              have c2 := hc 2 _ (by omega) rfl
              have c3 := hc 3 _ (by omega) rfl
              have c4 := hc 4 _ (by omega) rfl
              have d0 := hc' 0 _ (by omega) rfl
              have d1 := hc' 1 _ (by omega) rfl
              have d2 := hc' 2 _ (by omega) rfl
              have d3 := hc' 3 _ (by omega) rfl
              have d4 := hc' 4 _ (by omega) rfl
              rw [Nat.add_zero] at c0 d0
              clear hc hc'
              generalize L[q] = z at *
              obtain ⟨zk, zc, zo, zf, zn⟩ := z
              dsimp only at c0 c1 c2 c3 c4 d0 d1 d2 d3 d4
              have hqm : q < ml := by omega
              go_upto_region 17 with (fail)
              go_quiet (fail)
              clear c0 c1 c2 c3 c4 d0 d1 d2 d3 d4
              have hbd : ∀ k : Nat, Below wr.heap.size wr (wr.drewN k) := fun k => ⟨rfl, rfl, rfl, Nat.le_refl _, fun _ _ => rfl⟩
              go_wp2
              go_roundg (ll - (q + 1))
              case measure => have := HG.out; omega
              case rel => exact ⟨q + 1, by go_num, by omega, Lib.hid rfl, Lib.hid (HBO.out.up (hbd _)), Lib.hid (HOL.out.up (hbd _) (Nat.le_refl _)), Lib.hid (HOM.out.up (hbd _) (Nat.le_refl _))⟩
            · obtain rfl : q = ll := by omega
              clear HG HMI HOL
              go_upto_region 20 with (fail)
              go_loopg [14] (ml - q) (fun gk u14 wr => ∃ p : Nat, u14 = .int .i64 p ∧ q ≤ p ∧ p ≤ ml ∧ Hid (gk = ml - p) ∧ Hid (Both w wr R P Aq nq cq A9 c9 Q y) ∧ Hid (Rd wr wr.heap.size 5 (some ⟨B', off', none⟩) ml (fcells M)))
              case atStart => exact ⟨q, rfl, Nat.le_refl _, by omega, Lib.hid rfl, HBO, HOM⟩
              case round =>
                clear HBO HOM
                obtain ⟨p, rfl, hqp, hpm, HG, HBO, HOM⟩ := hrel
                by_cases hpl : p < ml
                · obtain ⟨B2, o2, hk2, hAe, hB2, hc'⟩ := HOM.out.at Fd.cells 5 (fun _ => rfl) (by omega) p hpl
                  injection hAe with hAe
                  injection hAe with e1 e2
                  subst e1 e2
                  have d1 := hc' 1 _ (by omega) rfl
                  rw [HMT.out p hk2 (by omega)] at d1
                  clear hc'
                  go_wp2
                  go_roundg (ml - (p + 1))
                  case measure => have := HG.out; omega
                  case rel => exact ⟨p + 1, by go_num, by omega, by omega, Lib.hid rfl, HBO, HOM⟩
                · clear HG HOM
                  go_upto_region 24 with (fail)
                  have HBOd : Hid (Both w wr.drew R P Aq nq cq A9 c9 Q y) := Lib.hid (HBO.out.up (below_drew' _))
                  clear HBO
                  generalize hdw : wr.drew = wd at *
                  obtain ⟨C, hCi⟩ : ∃ C : World → Prop, ∀ w', C w' ↔ (w'.cell? ⟨R + 1, 0, none⟩ = some (.slice Aq nq cq) ∧ w'.cell? ⟨P, 0, none⟩ = some (.slice A9 (nq + 1) c9)) := ⟨_, fun _ => Iff.rfl⟩
                  have q1 := HBOd.out.q.cell 0
                  have q3 := HBOd.out.p.cell 0
                  simp only [List.getElem?_cons_zero] at q3 q1
                  have hC : C wd := (hCi _).2 ⟨q1, q3⟩
                  have HCb : Hid (∀ w', Both w w' R P Aq nq cq A9 c9 Q y → C w') := Lib.hid fun w' hb => (hCi _).2 ⟨(hb.q.cell 0).trans rfl, (hb.p.cell 0).trans rfl⟩
                  have k1 : ∀ p : WC C, p.w.cell? ⟨R + 1, 0, none⟩ = some (.slice Aq nq cq) := fun p => ((hCi _).1 p.h).1
                  have k3 : ∀ p : WC C, p.w.cell? ⟨P, 0, none⟩ = some (.slice A9 (nq + 1) c9) := fun p => ((hCi _).1 p.h).2
                  have kn : Nonempty (WC C) := ⟨⟨_, hC⟩⟩
                  clear hCi q1 q3
                  refine wp_region_front' C [0, 2] [1, 3, 4, 5, 6, 7, 8, 9, 10, 11, 12] (fun j => decide (j < 12)) (by kernel_rfl) (fun _ _ d _ _ h => by cases d <;> exact h) (by kernel_rfl) (hdw ▸ hC) ?_
                  simp only [List.map_cons, List.map_nil, List.getD_cons_zero, List.getD_cons_succ]
                  repeat (go_big_quiet_step (fail))
                  refine wpQuiet_nil ?_
                  clear k3 k1 kn hC
                  rw [hdw]
                  clear hdw
                  refine wpTail_cons ?_
                  go_wp2_with fail
                  refine (trim_any Aq nq cq Q wd HBOd.out.rq (fun x hx => (HBOd.out.mq x hx).ok) (fun x hx => (HF1.out x (List.mem_append_left _ hx)).1) (fun x hx => (HF1.out x (List.mem_append_left _ hx)).2.1) (by omega)).mono ?_
                  rintro e w1 ⟨A1, c1, cs1, rfl, hown1, hcore1, ho1, hb1⟩
                  have HB1 := Lib.hid (HBOd.out.up hb1)
                  have HR1 := Lib.hid (own_rd hown1)
                  have HK1 : Hid (∀ x ∈ cs1, Cl.ok w1 x) := Lib.hid (trim_oks hcore1 ho1 (fun x hx => (HBOd.out.mq x hx).ok))
                  have HC1 := Lib.hid hcore1
                  clear hown1 hcore1 ho1 hb1 HBOd
                  go_wp2
                  refine tailQ_normal (fun _ => HCb.out _ HB1.out) ?_
                  refine wpTail_cons ?_
                  go_wp2_with fail
                  refine (trim_any A9 (nq + 1) c9 (Q ++ [y]) w1 HB1.out.rp (fun x hx => by
                    rcases List.mem_append.1 hx with hx | hx
                    · exact (HB1.out.mq x hx).ok
                    · rw [List.mem_singleton.1 hx]; exact HB1.out.my.ok) (fun x hx => (HF1.out x hx).1) (fun x hx => (HF1.out x hx).2.1) (by omega)).mono ?_
                  rintro e w2 ⟨A2, c2, cs2, rfl, hown2, hcore2, ho2, hb2⟩
                  have HB2 := Lib.hid (HB1.out.up hb2)
                  have HR1' := Lib.hid (HR1.out.up hb2 hb2.size)
                  have HK1' : Hid (∀ x ∈ cs1, Cl.ok w2 x) := Lib.hid fun x hx => (HK1.out x hx).up hb2
                  have HR2 := Lib.hid (own_rd hown2)
                  have HK2 : Hid (∀ x ∈ cs2, Cl.ok w2 x) := Lib.hid (trim_oks hcore2 ho2 (w0 := w1) (fun x hx => by
                    rcases List.mem_append.1 hx with hx | hx
                    · exact (HB1.out.mq x hx).ok
                    · rw [List.mem_singleton.1 hx]; exact HB1.out.my.ok))
                  have hc12 : cs1.map Cl.core = cs2.map Cl.core := HC1.out.trans (HTR.out.symm.trans hcore2.symm)
                  have hln : cs2.length = cs1.length := (len_core hc12).symm
                  have HC12 := Lib.hid hc12
                  have hpos : 0 < cs1.length := by rw [len_core HC1.out]; exact HTS.out
                  clear hown2 hcore2 ho2 hb2 HB1 hc12 HR1 HK1 HC1
                  rw [hln] at HR2 ⊢
                  clear hln
                  generalize cs1.length = m1 at *
                  go_wp2
                  refine tailQ_normal (fun _ => HCb.out _ HB2.out) ?_
                  refine wpTail_cons ?_
                  go_wp2_with fail
                  refine (programs18_any A1 A2 m1 c1 c2 cs1 cs2 w2 HR1'.out HR2.out HK1'.out HK2.out HC12.out).mono ?_
                  rintro e w3 ⟨rfl, hb3⟩
                  have HB3 := Lib.hid (HB2.out.up hb3)
                  clear hb3 HB2 HR1' HR2 HK1' HK2 HC12
                  go_wp2
                  refine tailQ_normal (fun _ => HCb.out _ HB3.out) ?_
                  refine wpTail_cons ?_
                  go_wp2
                  refine tailQ_normal (fun _ => HCb.out _ HB3.out) ?_
                  refine wpTail_cons ?_
                  have f0 := (HB3.out.q.cell 0).trans rfl
                  go_wp2
                  refine tailQ_normal (fun _ => HCb.out _ HB3.out) ?_
                  clear f0
                  refine wpTail_cons ?_
                  go_wp2_with fail
                  refine (trim_any Aq nq cq Q w3 HB3.out.rq (fun x hx => (HB3.out.mq x hx).ok) (fun x hx => (HF1.out x (List.mem_append_left _ hx)).1) (fun x hx => (HF1.out x (List.mem_append_left _ hx)).2.1) (by omega)).mono ?_
                  rintro e w4 ⟨A4, c4, cs4, rfl, hown4, hcore4, _, hb4⟩
                  have HB4 := Lib.hid (HB3.out.up hb4)
                  have hps4 : 0 < cs4.length := by rw [len_core hcore4]; exact HTS.out
                  generalize cs4.length = m4 at *
                  clear hown4 hcore4 hb4 HB3
                  have hgt : decide ((m4 : Int) > 0) = true := decide_eq_true (by omega)
                  go_wp2
                  refine tailQ_normal (fun _ => HCb.out _ HB4.out) ?_
                  refine wpTail_cons ?_
                  go_wp2
                  have hfd : Sem.run Try.prog (Instr.field 37 (.agg #[.slice A4 m4 c4]) 0) w4 = .ok (.slice A4 m4 c4) w4 := by
                    first | rfl | kernel_rfl | (simp [Instr.field, Sem.run])
                  rw [hfd]
                  go_wp2
                  refine tailQ_normal (fun _ => HCb.out _ HB4.out) ?_
                  refine wpTail_cons ?_
                  go_wp2
                  refine tailQ_normal (fun _ => HCb.out _ HB4.out) ?_
                  refine wpTail_cons ?_
                  go_wp2
                  refine tailQ_normal (fun _ => HCb.out _ HB4.out) ?_
                  refine wpTail_cons ?_
                  go_wp2
                  refine tailQ_normal (fun _ => HCb.out _ HB4.out) ?_
                  refine wpTail_cons ?_
                  go_wp2
                  refine tailQ_normal (fun h => by cases h) ?_
                  refine wpTail_nil ?_
                  go_wp2
                  go_ret
                  exact ⟨rfl, by rw [HRR.out]; exact HB4.out.b⟩
end Go.Proofs.Ytjcgkplphiedjaa
