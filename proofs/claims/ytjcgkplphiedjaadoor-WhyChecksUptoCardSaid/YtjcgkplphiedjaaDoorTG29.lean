/- The initial facts, the program's. -/
import Derived.Test.YtjcgkplphiedjaaDoorTG28
namespace Go.Proofs.YtjcgkplphiedjaaDoorT
open Go.RowKit Go.Sort

theorem Tryd.info45 : (Tryd.prog.info? 45).map (fun i => (i.zero, i.size, i.bytes)) = some (some (.agg #[.string ⟨#[]⟩, .slice none 0 0]), 2, 40) := by kernel_rfl

theorem bindAll_small {cs sub : List Cn} (hc : ∀ z ∈ cs, keyK z) (hs : ∀ z ∈ sub, keyK z) : ∀ {xs : List Sl} {l : List Cn}, bindAll cs sub xs = some l → (∀ z ∈ l, keyK z) ∧ l.length = xs.length
  | [], l, h => by
    rw [bindAll, Option.some.injEq] at h
    subst h
    exact ⟨by simp, rfl⟩
  | s :: xs, l, h => by
    rw [bindAll, Option.bind_eq_some_iff] at h
    obtain ⟨z, hz, h⟩ := h
    rw [Option.map_eq_some_iff] at h
    obtain ⟨l', hl', rfl⟩ := h
    obtain ⟨h1, h2⟩ := bindAll_small hc hs hl'
    have hzk : keyK z := by
      unfold bindS at hz
      split at hz
      · cases hz
      · have hm := List.mem_of_getElem? hz
        split at hm
        · exact hs z hm
        · exact hc z hm
    refine ⟨fun y hy => ?_, by rw [List.length_cons, List.length_cons, h2]⟩
    rcases List.mem_cons.1 hy with rfl | hy
    · exact hzk
    · exact h1 y hy
theorem underS_small {ds : List Pd} {cs sub : List Cn} {p : Int} {xs : List Sl} {q : ByteArray} {l : List Cn} (h : underS ds cs sub p xs = some (q, l)) (hd : ∀ y ∈ ds, y.s.size ≤ 1048576) (hc : ∀ z ∈ cs, keyK z) (hs : ∀ z ∈ sub, keyK z) :
    q.size ≤ 1048576 ∧ (∀ z ∈ l, keyK z) ∧ l.length = xs.length := by
  unfold underS at h
  split at h
  · cases h
  · split at h
    · cases h
    · rename_i d hd'
      split at h
      · rw [Option.map_eq_some_iff] at h
        obtain ⟨l', hl', he⟩ := h
        simp only [Prod.mk.injEq] at he
        obtain ⟨rfl, rfl⟩ := he
        obtain ⟨h1, h2⟩ := bindAll_small hc hs hl'
        exact ⟨hd d (List.mem_of_getElem? hd'), h1, h2⟩
      · cases h

/-- A fact whose list is its own. -/
def Fa.own (w : World) (R : Nat) (y : Fa) : Prop := w.ownsRow R 68 3 (.slice y.A y.n y.c) y.n (kcells y.xs)
theorem Fa.own.below {w w' : World} {R : Nat} {x : Fa} (h : x.own w R) (hb : Below w.heap.size w w') : x.own w' R := own_below h hb
theorem Fa.own.le {w : World} {R R' : Nat} {x : Fa} (h : x.own w R) (hb : R' ≤ R) : x.own w R' := own_le h hb
theorem Fa.own.kept {w w' : World} {R R' n : Nat} {x : Fa} {v : Value} {xs : List Value} (h : x.own w R) (h' : w.ownsRow R' 45 2 v n xs) (hg : w.grownBy w' v.ownBlock) : x.own w' R := own_kept_types h h' (by decide) hg
theorem Fa.own.ok {w : World} {R : Nat} {x : Fa} (h : x.own w R) : x.ok w := own_rd h
theorem Fa.one (x : Fa) : ∀ u ∈ x.cells, u.oneCell' = true := by
  intro u hu
  simp only [Fa.cells, List.mem_cons, List.not_mem_nil, or_false] at hu
  rcases hu with rfl | rfl <;> rfl
theorem facells_append (a b : List Fa) : facells (a ++ b) = facells a ++ facells b := by simp [facells]
theorem memB_append (a b : List Fa) (p : ByteArray) (xs : List Cn) : memB (a ++ b) p xs = (memB a p xs || memB b p xs) := by unfold memB; rw [List.any_append]

set_option maxRecDepth 20000 in
set_option maxHeartbeats 8000000 in
theorem given_why (x : Co) (w : World) (hx : x.ok w) (hf : x.fine) (hfs : x.fn ≤ 1048576) :
    Calls Tryd.prog 42 #[.agg x.cells.toArray] w fun e w' => ∃ A' c' gs, e = .returned (.slice A' gs.length c') ∧ w'.ownsRow w.heap.size 45 2 (.slice A' gs.length c') gs.length (facells gs) ∧ (∀ y ∈ gs, y.own w' w.heap.size ∧ y.small) ∧ (∀ p xs, memB gs p xs = x.fs.any (isRow x.ds x.cs p xs)) ∧ Below w.heap.size w w' := by
  obtain ⟨j0, hj, hy0, hy1, hy2⟩ := info_parts Tryd.info45
  have hlf : x.fs.length = x.fn := by have h := hx.f.1; rw [rwcells, flat_length Rw.cells 2 (fun _ => rfl)] at h; omega
  have HXO := Lib.hid hx
  have HXF := Lib.hid hf
  have HF := Lib.hid hx.f
  have HLF := Lib.hid hlf
  have HKF := Lib.hid (fun (r : Rw) W h1 h2 h3 => fact_core x r W h1 h2 h3)
  obtain ⟨DA, dn, dc, ds, CA, cn, cc, cs, RA, rn, rc, rs, FA, fn, fc, fs⟩ := x
  dsimp only at HF HLF hfs HKF hlf
  simp only [Co.cells] at HKF
  show Calls Tryd.prog 42 #[.agg #[.slice DA dn dc, .slice CA cn cc, .slice RA rn rc, .slice FA fn fc]] w _
  clear hx hf hlf
  obtain ⟨IR, hIR⟩ : ∃ IR, IR = isRow ds cs := ⟨_, rfl⟩
  have HIR := Lib.hid hIR
  dsimp only
  rw [← hIR]
  clear hIR
  go_enter Tryd.func42, Tryd.ntmps42
  go_upto_region 1 with (fail)
  have hb1 := (Below.refl w.heap.size w).alloc (Nat.le_refl _) (.cells #[.slice DA dn dc, .slice CA cn cc, .slice RA rn rc, .slice FA fn fc] 40)
  have h1 := Blk.new w 40 [.slice DA dn dc, .slice CA cn cc, .slice RA rn rc, .slice FA fn fc]
  have hs1 : (w.alloc (.cells #[.slice DA dn dc, .slice CA cn cc, .slice RA rn rc, .slice FA fn fc] 40)).heap.size = w.heap.size + 1 := by simp
  generalize World.alloc _ _ = w1 at *
  have HX1 := Lib.hid (HXO.out.up hb1)
  have HF1 := Lib.hid (HF.out.up hb1 hb1.size)
  generalize hRe : w.heap.size = R at *
  have HRR := Lib.hid hRe
  have HB := Lib.hid hb1
  have H1 := Lib.hid h1
  clear hRe HXO HF hb1 h1
  have f3 := (H1.out.cell 3).trans rfl
  go_upto_region 3 with (fail)
  clear f3
  go_loopg [3, 11] fn (fun gk u3 u11 wr => ∃ (i : Nat) (acc : List Fa), u11 = .int .i64 i ∧ i ≤ fn ∧ Hid (gk = fn - i) ∧ Hid (Below w1.heap.size w1 wr) ∧ acc.length ≤ i ∧ Hid (wr.ownsRow w1.heap.size 45 2 u3 acc.length (facells acc)) ∧ Hid (∀ y ∈ acc, y.own wr R ∧ y.small) ∧ Hid (∀ p xs, memB acc p xs = (fs.take i).any (IR p xs)))
  case atStart => exact ⟨0, [], rfl, Nat.zero_le _, Lib.hid (by omega), Lib.hid (Below.refl _ _), Nat.le_refl _, Lib.hid (World.ownsRow_nil _ _ _ _), Lib.hid (by simp), Lib.hid (fun _ _ => rfl)⟩
  case round =>
    obtain ⟨i, acc, rfl, hi, HG, GW, hacc, HV, HW, HM⟩ := hrel
    have hsr : w1.heap.size ≤ wr.heap.size := GW.out.size
    have G1 := Lib.hid (H1.out.below GW.out (by omega))
    obtain ⟨A4, d4, rfl, hn4⟩ := own_slice HV.out
    by_cases hlt : i < fn
    · have HFw := Lib.hid (HF1.out.up GW.out hsr)
      obtain ⟨b1, o1, hk1, rfl, hlb, hc⟩ := HFw.out.at Rw.cells 2 (fun _ => rfl) (by omega) i hlt
      have c0 := hc 0 _ (by omega) rfl
      have c1 := hc 1 _ (by omega) rfl
      rw [Nat.add_zero] at c0
      clear hc HFw
      have HRo := Lib.hid ((HX1.out.fs fs[i] (List.getElem_mem hk1)).up GW.out)
      have hrn := HXF.out.f fs[i] (List.getElem_mem hk1)
      have HTK : Hid (∀ p xs, (fs.take (i + 1)).any (IR p xs) = ((fs.take i).any (IR p xs) || IR p xs fs[i])) := Lib.hid fun p xs => by rw [take_snoc fs i hk1, List.any_append, List.any_cons, List.any_nil, Bool.or_false]
      have HIS : Hid (∀ p xs, IR p xs fs[i] = match factS ds cs fs[i].p fs[i].xs with | some (q, l) => sameB q l p xs | none => false) := Lib.hid fun p xs => by rw [HIR.out]; rfl
      generalize fs[i] = r at *
      have HKR := Lib.hid (fun W (h1 : Co.ok W _) (h2 : Rw.ok W _) => HKF.out r W h1 h2 hrn)
      have hrl : r.xs.length = r.n := by have h := HRo.out.1; rw [icells_length] at h; omega
      have HSM : Hid (∀ q l, factS ds cs r.p r.xs = some (q, l) → q.size ≤ 1048576 ∧ (∀ z ∈ l, keyK z) ∧ l.length ≤ 1048576) := Lib.hid fun q l h => by
        obtain ⟨h1, h2, h3⟩ := underS_small h HXF.out.d HXF.out.c (by simp)
        exact ⟨h1, h2, by rw [h3, List.length_map, hrl]; exact hrn⟩
      obtain ⟨rp, rA, rn', rc', rxs⟩ := r
      dsimp only at c0 c1 HIS HKR HSM
      simp only [Rw.cells] at HKR
      generalize factS ds cs rp rxs = o at *
      clear hrn hrl
      unfold FactSaid at HKR
      obtain ⟨ev, hev⟩ : ∃ ev : Int, (if o.isSome = true then (0 : Int) else 2) = ev := ⟨_, rfl⟩
      rw [hev] at HKR
      have HEV := Lib.hid hev
      clear hev
      go_upto_region 5 with (fail)
      have hba := (Below.refl wr.heap.size wr).alloc (Nat.le_refl _) (.cells #[.int .i64 rp, .slice rA rn' rc'] 84)
      have HK := Lib.hid (Blk.new wr 84 [.int .i64 rp, .slice rA rn' rc'])
      have hba2 : Below wr.heap.size wr (wr.alloc (.cells #[.int .i64 rp, .slice rA rn' rc'] 84)) := hba
      have GW2 := Lib.hid (GW.out.trans (hba.mono hsr))
      have G12 := Lib.hid (G1.out.below hba (by omega))
      have HV2 := Lib.hid (own_below HV.out hba)
      have HW2 : Hid (∀ y ∈ acc, y.own (wr.alloc (.cells #[.int .i64 rp, .slice rA rn' rc'] 84)) R ∧ y.small) := Lib.hid fun y hy => ⟨(HW.out y hy).1.below hba2, (HW.out y hy).2⟩
      have HRo2 := Lib.hid (HRo.out.up hba)
      clear hba hba2 GW G1 HV HW HRo c0 c1
      generalize World.alloc _ _ = w2 at *
      have f0 := (G12.out.cell 0).trans rfl
      have f1 := (G12.out.cell 1).trans rfl
      have f2 := (G12.out.cell 2).trans rfl
      have f3 := (G12.out.cell 3).trans rfl
      have k0 := (HK.out.cell 0).trans rfl
      have k1 := (HK.out.cell 1).trans rfl
      have hs2 : w1.heap.size ≤ w2.heap.size := GW2.out.size
      go_wp2_with fail
      refine (HKR.out w2 (HX1.out.up GW2.out) HRo2.out).mono ?_
      rintro e w3 ⟨⟨q, A, n, c, l, rfl, hol, ho⟩, hb3⟩
      have GW3 := Lib.hid (GW2.out.trans (hb3.mono hs2))
      have HV3 := Lib.hid (own_below HV2.out hb3)
      have HW3 : Hid (∀ y ∈ acc, y.own w3 R ∧ y.small) := Lib.hid fun y hy => ⟨(HW2.out y hy).1.below hb3, (HW2.out y hy).2⟩
      have HOL := Lib.hid (own_le hol (by omega : R ≤ w2.heap.size))
      have HOO := Lib.hid ho
      clear f0 f1 f2 f3 k0 k1 HK GW2 G12 HV2 HW2 HRo2 hol ho hb3 HKR hs2
      have hs3 : w1.heap.size ≤ w3.heap.size := GW3.out.size
      go_upto_region 6 with (fail)
      have hba := (Below.refl w3.heap.size w3).alloc (Nat.le_refl _) (.cells #[.string q, .slice A n c] 45)
      have hba2 : Below w3.heap.size w3 (w3.alloc (.cells #[.string q, .slice A n c] 45)) := hba
      have HK := Lib.hid (Blk.new w3 45 [.string q, .slice A n c])
      have GW4 := Lib.hid (GW3.out.trans (hba.mono hs3))
      have HV4 := Lib.hid (own_below HV3.out hba)
      have HW4 : Hid (∀ y ∈ acc, y.own (w3.alloc (.cells #[.string q, .slice A n c] 45)) R ∧ y.small) := Lib.hid fun y hy => ⟨(HW3.out y hy).1.below hba2, (HW3.out y hy).2⟩
      have HOL4 := Lib.hid (own_below HOL.out hba)
      clear hba hba2 GW3 HV3 HW3 HOL
      generalize World.alloc _ _ = w4 at *
      have hs4 : w1.heap.size ≤ w4.heap.size := GW4.out.size
      rcases HOO.out with ho | ⟨ho, rfl, rfl⟩
      · subst ho
        obtain rfl : ev = 0 := HEV.out.symm
        obtain ⟨s1, s2, s3⟩ := HSM.out q l rfl
        have hll : l.length = n := by have := (own_rd HOL4.out).1; rw [kcells_length] at this; omega
        have HNEW : Hid (Fa.own w4 R ⟨q, A, n, c, l⟩) := HOL4
        have HSMA : Hid (Fa.small ⟨q, A, n, c, l⟩) := Lib.hid ⟨by show n ≤ _; omega, s1, s2⟩
        have HM7 : Hid (∀ p xs, memB (acc ++ [(⟨q, A, n, c, l⟩ : Fa)]) p xs = (fs.take (i + 1)).any (IR p xs)) := Lib.hid fun p xs => by
          rw [memB_append, HTK.out p xs, HM.out p xs, HIS.out p xs]
          simp [memB]
        have k0 := (HK.out.cell 0).trans rfl
        have k1 := (HK.out.cell 1).trans rfl
        have hown := HV4.out
        clear HSM HIS HTK HM HEV HOO s1 s2 s3
        go_wp2_with (at_builtin; go_must (refine wpList_append_own _ rfl _ _ 41 rfl w1.heap.size 45 j0 _ 2 40 Tryd.underlying41 hj hy0 hy1 hy2 rfl (by decide) _ _ _ rfl (hown.alloc _) ⟨w4.heap.size, 0, none⟩ 1 1 (Fa.cells ⟨q, A, n, c, l⟩) rfl rfl (fun j u h => new_cells _ _ _ j u h) (Fa.one _) (by unfold maxLen; omega) (by omega) (by simp; omega) ?_))
        intro v7 w7 hown7 hg7 _
        have hba := (Below.refl w4.heap.size w4).alloc (Nat.le_refl _) (.cells (Fa.cells ⟨q, A, n, c, l⟩).toArray 45)
        have GW7 := Lib.hid ((GW4.out.trans (hba.mono hs4)).grown hg7 (by simp; omega) (fun k hk => (hown.lt k hk).1))
        have HW7 : Hid (∀ y ∈ acc ++ [(⟨q, A, n, c, l⟩ : Fa)], y.own w7 R ∧ y.small) := Lib.hid (by
          intro y hy
          rcases List.mem_append.1 hy with hy | hy
          · exact ⟨((HW4.out y hy).1.below hba).kept (hown.alloc _) hg7, (HW4.out y hy).2⟩
          · rw [List.mem_singleton.1 hy]
            exact ⟨(HNEW.out.below hba).kept (hown.alloc _) hg7, HSMA.out⟩)
        have HV7 : Hid (w7.ownsRow w1.heap.size 45 2 v7 (acc ++ [(⟨q, A, n, c, l⟩ : Fa)]).length (facells (acc ++ [(⟨q, A, n, c, l⟩ : Fa)]))) := Lib.hid (by
          have h := hown7
          rw [← hs1] at h
          rw [facells_append, List.length_append]
          simpa [facells] using h)
        clear hown7 hown hg7 hba HV4 HW4 GW4 k0 k1 HK HOL4 HNEW HSMA
        go_wp2
        go_roundg (fn - (i + 1))
        case measure => have := HG.out; omega
        case rel => exact ⟨i + 1, acc ++ [(⟨q, A, n, c, l⟩ : Fa)], by go_num, by omega, Lib.hid rfl, GW7, by simp; omega, HV7, HW7, HM7⟩
      · subst ho
        obtain rfl : ev = 2 := HEV.out.symm
        have HM7 : Hid (∀ p xs, memB acc p xs = (fs.take (i + 1)).any (IR p xs)) := Lib.hid fun p xs => by
          rw [HTK.out p xs, HM.out p xs, HIS.out p xs, Bool.or_false]
        clear HSM HIS HTK HM HEV HOO
        go_wp2
        go_roundg (fn - (i + 1))
        case measure => have := HG.out; omega
        case rel => exact ⟨i + 1, acc, by go_num, by omega, Lib.hid rfl, GW4, by omega, HV4, HW4, HM7⟩
    · obtain rfl : fn = i := by omega
      have hall : fs.take fn = fs := List.take_of_length_le (by have := HLF.out; omega)
      rw [hall] at HM
      have GB := Lib.hid (HB.out.trans (GW.out.mono (by omega)))
      go_wp2
      go_ret
      exact ⟨A4, d4, acc, rfl, by rw [HRR.out]; exact own_le HV.out (by omega), by rw [HRR.out]; exact HW.out, HM.out, by rw [HRR.out]; exact GB.out⟩
end Go.Proofs.YtjcgkplphiedjaaDoorT
