/- What the program's search for a cover reads. | The program's search for a cover. -/
import Derived.Test.YtjcgkplphiedjaaGl
import Derived.Test.YtjcgkplphiedjaaGm
namespace Go.Proofs.Ytjcgkplphiedjaa
open Go.RowKit Go.Sort Go.Maps Go.WideMaps

/-- One entry less where there was one. -/
theorem mp_less {w : World} {b n : Nat} {D : DataW Value} (h : w.ownsMap Try.prog 9 heldE b n D) {m : Nat} (hm : Maps.size D ≤ m) : w.ownsMap Try.prog 9 heldE b m D := by
  obtain ⟨es, clock, h1, h2, h3, rfl⟩ := h
  refine ⟨es, clock, h1, h2, ?_, rfl⟩
  simpa [Maps.size, length_sorted] using hm
theorem wpList_delete_less {w : World} {ops : Array Oper} {rest : List Oper} {o : Oper} {a : Act} {Q : Exit → Act → World → Prop} (hg : o.guard = none) (m x : Operand) (t e : TypeId)
    (hop : o.op = Op.call { callee := Callee.builtin Builtin.delete, args := #[m, x], argTypes := #[t, 9] })
    (ht : Try.prog.underlying t = some (.map 9 e)) (b n : Nat) (f : ByteArray → Option Value) (hm : a.eval m = .map (some b)) (h : Mp w b (n + 1) f) (s : ByteArray) (hx : a.eval x = .string s) (hs : s.size ≤ maxLen) (hfs : f s ≠ none)
    (hK : ∀ w', Mp w' b n (fun s' => if s' = s then none else f s') → w.mapTurned w' b → wpList Try.prog ops Q rest (a.put o.dst (.tuple #[])) w') : wpList Try.prog ops Q (o :: rest) a w := by
  obtain ⟨D, h1, h2, h3⟩ := h
  have hk := keyOf_string_mk Try.underlying9 hs
  have htidy := h1.tidy nameKey
  have hsz := h1.size_le
  have hhas : Maps.has D (.string s.data.toList) = true := by
    cases hf : f s with
    | none => exact absurd hf hfs
    | some u => exact has_true_of_atKey (y := .held u) (fun z => by rw [h3 s, hf]; rfl)
  refine wpList_delete_own w hg m x t 9 hop e nameKey ht heldE b (n + 1) D hm h1 _ _ hx hk ?_
  intro w' h4 h5
  refine hK w' ⟨_, mp_less h4 (by have := size_del (k := .string s.data.toList) htidy; rw [hhas, if_pos rfl] at this; omega), h2.del _, fun s' z => ?_⟩ h5
  by_cases e : s' = s
  · subst e
    rw [atKey_del_same]; dsimp only; rw [if_pos rfl]; rfl
  · rw [atKey_del_other (lit_ne e), h3 s']; dsimp only; rw [if_neg e]

theorem Rd.map {w w' : World} {B size n mb k : Nat} {A : Option Addr} {xs : List Value} {f : ByteArray → Option Value} (h : Rd w B size A n xs) (hm : Mp w mb k f) (hB : B ≤ w.heap.size) (hg : w.grownBy w' (some mb)) : Rd w' B size A n xs := by
  refine ⟨h.1, h.2.1, fun hn => ?_⟩
  obtain ⟨b, o, he, hb, hc⟩ := h.2.2 hn
  refine ⟨b, o, he, hb, fun j u hu => ?_⟩
  have := hc j u hu
  exact (grown_cell hg (a := ⟨b, o + j, none⟩) (by show b < w.heap.size; omega) (mp_cell_ne hm this)).trans this
theorem Rd.mapUp {w w' : World} {size n mb k : Nat} {A : Option Addr} {xs : List Value} {f : ByteArray → Option Value} (h : Rd w w.heap.size size A n xs) (hm : Mp w mb k f) (hg : w.grownBy w' (some mb)) : Rd w' w'.heap.size size A n xs := by
  have := Rd.map h hm (Nat.le_refl _) hg
  exact ⟨this.1, this.2.1, fun hn => by obtain ⟨b, o, h1, h2, h3⟩ := this.2.2 hn; exact ⟨b, o, h1, Nat.lt_of_lt_of_le h2 hg.size, h3⟩⟩
theorem At.ok.map {w w' : World} {mb k : Nat} {a : At} {f : ByteArray → Option Value} (h : At.ok w a) (hm : Mp w mb k f) (hg : w.grownBy w' (some mb)) : At.ok w' a := ⟨h.1.mapUp hm hg, h.2⟩
theorem Cl.ok.map {w w' : World} {mb k : Nat} {x : Cl} {f : ByteArray → Option Value} (h : Cl.ok w x) (hm : Mp w mb k f) (hg : w.grownBy w' (some mb)) : Cl.ok w' x :=
  ⟨h.1.map hm hg, h.2.1.mapUp hm hg, h.2.2.1, fun y hy => At.ok.map (h.2.2.2 y hy) hm hg⟩
theorem Blk.map {w w' : World} {g mb k : Nat} {t : TypeId} {cs : List Value} {f : ByteArray → Option Value} (h : Blk w g t cs) (hm : Mp w mb k f) (hg : w.grownBy w' (some mb)) : Blk w' g t cs :=
  h.grown hg (fun e => hm.blk_ne h (by injection e with e; exact e.symm))

/-- Things in memory. -/
structure Bm where
  A : Option Addr
  n : Nat
  c : Nat
  ths : List Th
def Bm.cells (x : Bm) : List Value := [.slice x.A x.n x.c]
def bmcells (l : List Bm) : List Value := l.flatMap Bm.cells
theorem bmcells_length (l : List Bm) : (bmcells l).length = l.length * 1 := flat_length Bm.cells 1 (fun _ => rfl) l

/-- What the search reads: the clauses, the things, the variable that holds the map, the search itself. -/
structure Seek (w : World) (mb Pa Pb Ps Pd Pp : Nat) (a b : Cl) (BA : Option Addr) (bc : Nat) (bl : List Bm) : Prop where
  fa : Blk w Pa 45 a.cells
  fb : Blk w Pb 45 b.cells
  fs : Blk w Ps 120 [.map (some mb)]
  fd : Blk w Pd 117 [.slice BA b.n bc]
  fp : Blk w Pp 123 [.func (.func 75) #[] #[.pointer (some ⟨Pa, 0, none⟩), .pointer (some ⟨Pb, 0, none⟩), .pointer (some ⟨Ps, 0, none⟩), .pointer (some ⟨Pd, 0, none⟩), .pointer (some ⟨Pp, 0, none⟩)]]
  ao : Cl.ok w a
  bo : Cl.ok w b
  r : Rd w w.heap.size 1 BA b.n (bmcells bl)
  ro : ∀ y ∈ bl, Rd w w.heap.size 4 y.A y.n (thcells y.ths)
theorem Seek.map {w w' : World} {mb Pa Pb Ps Pd Pp k : Nat} {a b : Cl} {BA : Option Addr} {bc : Nat} {bl : List Bm} {f : ByteArray → Option Value} (h : Seek w mb Pa Pb Ps Pd Pp a b BA bc bl) (hm : Mp w mb k f) (hg : w.grownBy w' (some mb)) : Seek w' mb Pa Pb Ps Pd Pp a b BA bc bl :=
  ⟨h.fa.map hm hg, h.fb.map hm hg, h.fs.map hm hg, h.fd.map hm hg, h.fp.map hm hg, h.ao.map hm hg, h.bo.map hm hg, h.r.mapUp hm hg, fun y hy => (h.ro y hy).mapUp hm hg⟩

theorem take_names : ∀ (ts : List T) (ys : List Th) (s : Bd), (∀ p ∈ (takeF s ts ys).1, p ∈ s ∨ p.1 ∈ ts.map T.t)
  | [], _, s, p, h => by simp only [takeF] at h; exact .inl h
  | t :: ts, [], s, p, h => by simp only [takeF] at h; exact .inl h
  | t :: ts, y :: ys, s, p, h => by
    rw [takeF] at h
    have key : ∀ s', p ∈ (takeF s' ts ys).1 → p ∈ s' ∨ p.1 ∈ (t :: ts).map T.t := fun s' h => (take_names ts ys s' p h).imp id (fun h => by rw [List.map_cons]; exact List.mem_cons_of_mem _ h)
    split at h
    · exact key s h
    · split at h
      · cases hl : look s t.t with
        | none =>
          rw [hl] at h
          rcases key _ h with h | h
          · rcases List.mem_append.1 h with h | h
            · exact .inl h
            · right; rw [List.mem_singleton] at h; subst h; simp
          · exact .inr h
        | some z =>
          rw [hl] at h
          dsimp only at h
          split at h
          · exact key s h
          · exact .inl h
      · split at h
        · exact key s h
        · exact .inl h

/-- Some names struck off a binding. -/
def bdLess (s : Bd) (l : List ByteArray) (t : ByteArray) : Option Value := if Go.Proofs.Ytjcgkplphiedjaa.has l t = true then none else bdF s t
theorem bdLess_all (s new : Bd) (h : ((s ++ new).map Prod.fst).Nodup) (t : ByteArray) : bdLess (s ++ new) (bnames new) t = bdF s t := by
  unfold bdLess
  have hd : ∀ u, u ∈ bnames new → look s u = none := fun u hu => by
    cases hl : look s u with
    | none => rfl
    | some z =>
      rw [List.map_append, List.nodup_append] at h
      have := h.2.2 u (List.mem_map.2 ⟨_, look_some hl, rfl⟩) u hu
      exact absurd rfl this
  split
  · rename_i hm
    unfold bdF
    rw [hd t (has_iff.1 hm)]; rfl
  · rename_i hm
    rw [has_iff] at hm
    unfold bdF look
    rw [List.find?_append]
    have : new.find? (fun p => decide (p.1 = t)) = none := by
      rw [List.find?_eq_none]
      intro p hp
      simp only [decide_eq_true_eq]
      exact fun e => hm (List.mem_map.2 ⟨p, hp, e⟩)
    rw [this, Option.or_none]
theorem bdLess_some (s new : Bd) (h : ((s ++ new).map Prod.fst).Nodup) (i : Nat) (hi : i < (bnames new).length) : bdLess (s ++ new) ((bnames new).take i) (bnames new)[i] ≠ none := by
  unfold bdLess
  have hnd : (bnames new).Nodup := by
    rw [List.map_append, List.nodup_append] at h
    exact h.2.1
  have hni : (bnames new)[i] ∉ (bnames new).take i := fun hm => by
    obtain ⟨j, hj, e⟩ := List.mem_iff_getElem.1 hm
    rw [List.length_take] at hj
    rw [List.getElem_take] at e
    have := (List.getElem_inj hnd).1 e
    omega
  rw [if_neg (fun h => hni (has_iff.1 h))]
  unfold bdF
  have hmem : (bnames new)[i] ∈ bnames new := List.getElem_mem hi
  obtain ⟨p, hp, e⟩ := List.mem_map.1 hmem
  have : look (s ++ new) (bnames new)[i] = some p.2 := look_mem h (by rw [← e]; exact List.mem_append_right _ hp)
  rw [this]; simp
theorem bdLess_step (s : Bd) (l : List ByteArray) (i : Nat) (hi : i < l.length) (t : ByteArray) : (if t = l[i] then none else bdLess s (l.take i) t) = bdLess s (l.take (i + 1)) t := by
  unfold bdLess
  rw [take_snoc _ _ hi]
  by_cases e : t = l[i]
  · rw [if_pos e, if_pos (has_iff.2 (List.mem_append_right _ (List.mem_singleton.2 e)))]
  · rw [if_neg e]
    by_cases hm : t ∈ l.take i
    · rw [if_pos (has_iff.2 hm), if_pos (has_iff.2 (List.mem_append_left _ hm))]
    · rw [if_neg (fun h => hm (has_iff.1 h)), if_neg (fun h => by rcases List.mem_append.1 (has_iff.1 h) with h | h; exact hm h; exact e (by simpa using h))]
end Go.Proofs.Ytjcgkplphiedjaa

namespace Go.Proofs.Ytjcgkplphiedjaa
open Go.RowKit Go.Sort Go.Maps Go.WideMaps

theorem searchP_cons (ys : List (Li × List Th)) (s : Bd) (a : Li) (as_ : List Li) : searchP ys s (a :: as_) = ys.any fun q => likeL a q.1 && ((takeF s a.terms q.2).2 && searchP ys (takeF s a.terms q.2).1 as_) := by rw [searchP]
def anyP (f : Li × List Th → Bool) (ys : List (Li × List Th)) : Bool := ys.any f
theorem anyP_drop (f : Li × List Th → Bool) (ys : List (Li × List Th)) (k : Nat) (h : k < ys.length) : anyP f (ys.drop k) = (f ys[k] || anyP f (ys.drop (k + 1))) := by
  unfold anyP
  rw [List.drop_eq_getElem_cons h, List.any_cons]
theorem anyP_end (f : Li × List Th → Bool) (ys : List (Li × List Th)) (k : Nat) (h : ys.length ≤ k) : anyP f (ys.drop k) = false := by
  unfold anyP
  rw [List.drop_eq_nil_of_le h]; rfl

/-- The things of b's literals, as the search finds them. -/
def zipB (b : Cl) (bl : List Bm) : List (Li × List Th) := b.ls.zip (bl.map Bm.ths)

set_option maxRecDepth 200000 in
set_option maxHeartbeats 16000000 in
theorem place_any (mb Pa Pb Ps Pd Pp bc : Nat) (a b : Cl) (BA : Option Addr) (bl : List Bm) (hbl : bl.length = b.ls.length) (hlen : ∀ p ∈ zipB b bl, p.2.length = p.1.terms.length) (haf : ∀ y ∈ a.ls, ∀ t ∈ y.terms, t.t.size ≤ maxLen) :
    ∀ (r k mk : Nat) (s : Bd) (w : World), k + r = a.ls.length → Seek w mb Pa Pb Ps Pd Pp a b BA bc bl → Mp w mb mk (bdF s) → (s.map Prod.fst).Nodup → (∀ p ∈ s, p.1.size ≤ maxLen) → mk + ((a.ls.drop k).flatMap Li.terms).length ≤ 1000000 →
    Calls Try.prog 75 #[.int .i64 (k : Int), .pointer (some ⟨Pa, 0, none⟩), .pointer (some ⟨Pb, 0, none⟩), .pointer (some ⟨Ps, 0, none⟩), .pointer (some ⟨Pd, 0, none⟩), .pointer (some ⟨Pp, 0, none⟩)] w fun e w' =>
      e = .returned (.bool (searchP (zipB b bl) s (a.ls.drop k))) ∧ w.grownBy w' (some mb) ∧ (searchP (zipB b bl) s (a.ls.drop k) = false → Mp w' mb mk (bdF s)) ∧ ∃ j f, Mp w' mb j f := by
  intro r
  induction r with
  | zero =>
    intro k mk s w hk hS hM hn hns hsz
    have hd : a.ls.drop k = [] := List.drop_eq_nil_of_le (by omega)
    rw [hd]
    have hv : searchP (zipB b bl) s [] = true := by rw [searchP]
    rw [hv]
    have hal : a.ls.length = a.n := by have := hS.ao.2.1.1; rw [lcells_length] at this; omega
    have f3 := hS.fa.cell 3
    obtain ⟨⟨ap, aA, an, ac, ao, aes⟩, aB, am, ad, als⟩ := a
    simp only [Cl.cells, List.getElem?_cons_zero, List.getElem?_cons_succ] at f3
    dsimp only at hal hk
    have hkm : k = am := by omega
    subst hkm
    have HM := Lib.hid hM
    clear hS hM hn hns hsz hd hv haf hlen hbl
    go_enter Try.func75, Try.ntmps75
    go_wp2
    go_ret
    exact ⟨by rfl, World.grownBy.refl _ _, fun h => (by cases h), ⟨_, _, HM.out⟩⟩
  | succ r ih =>
    intro k mk s w hk hS hM hn hns hsz
    have hk1 : k < a.ls.length := by omega
    have hal : a.ls.length = a.n := by have := hS.ao.2.1.1; rw [lcells_length] at this; omega
    have hbn : b.ls.length = b.n := by have := hS.bo.2.1.1; rw [lcells_length] at this; omega
    have hanb := hS.ao.2.1.2.1
    have hbnb := hS.bo.2.1.2.1
    have HZL : Hid ((zipB b bl).length = b.n) := Lib.hid (by unfold zipB; rw [List.length_zip, List.length_map, hbl, hbn, Nat.min_self])
    have HDK : Hid (a.ls.drop k = a.ls[k] :: a.ls.drop (k + 1)) := Lib.hid (List.drop_eq_getElem_cons hk1)
    have HIH := Lib.hid ih
    have HAF := Lib.hid (haf a.ls[k] (List.getElem_mem hk1))
    have HSZ : Hid (mk + (a.ls[k].terms.length + ((a.ls.drop (k + 1)).flatMap Li.terms).length) ≤ 1000000) := Lib.hid (by
      rw [HDK.out, List.flatMap_cons, List.length_append] at hsz; exact hsz)
    have HV : Hid (searchP (zipB b bl) s (a.ls.drop k) = anyP (fun q => likeL a.ls[k] q.1 && ((takeF s a.ls[k].terms q.2).2 && searchP (zipB b bl) (takeF s a.ls[k].terms q.2).1 (a.ls.drop (k + 1)))) ((zipB b bl).drop 0)) := Lib.hid (by rw [HDK.out, searchP_cons]; rfl)
    have HLEN := Lib.hid hlen
    have HBL := Lib.hid hbl
    have HN := Lib.hid hn
    have HNS := Lib.hid hns
    generalize searchP (zipB b bl) s (a.ls.drop k) = v at *
    generalize hrest : a.ls.drop (k + 1) = rest at *
    clear ih haf hsz hlen hbl hn hns
    have HAT : Hid (∀ W, Seek W mb Pa Pb Ps Pd Pp a b BA bc bl → Li.ok W a.ls[k]) := Lib.hid (fun W h => h.ao.2.2.2 _ (List.getElem_mem hk1))
    have HAC : Hid (∀ W, Seek W mb Pa Pb Ps Pd Pp a b BA bc bl → ∃ ba oa, a.A = some ⟨ba, oa, none⟩ ∧ ba < W.heap.size ∧ ∀ j u, j < 14 → (a.ls[k]).cells[j]? = some u → W.cell? ⟨ba, oa + k * 14 + j, none⟩ = some u) := Lib.hid (fun W h => by
      obtain ⟨ba, oa, _, e, hlt, hc⟩ := h.ao.2.1.at Li.cells 14 (fun _ => rfl) (by omega) k (by omega)
      exact ⟨ba, oa, e, hlt, hc⟩)
    generalize a.ls[k] = x at *
    have HS := Lib.hid hS
    have HM := Lib.hid hM
    clear hS hM
    have f3 := HS.out.fa.cell 3
    have g3 := HS.out.fb.cell 3
    simp only [Cl.cells, List.getElem?_cons_zero, List.getElem?_cons_succ] at f3 g3
    have t1 : ((k : Int) == (a.n : Int)) = false := by simp only [beq_eq_false_iff_ne, ne_eq]; omega
    have hkn : k < a.n := by omega
    generalize hF : (fun q : Li × List Th => likeL x q.1 && ((takeF s x.terms q.2).2 && searchP (zipB b bl) (takeF s x.terms q.2).1 rest)) = f at *
    have HFE : Hid (∀ q : Li × List Th, f q = (likeL x q.1 && ((takeF s x.terms q.2).2 && searchP (zipB b bl) (takeF s x.terms q.2).1 rest))) := Lib.hid (fun q => by rw [← hF])
    clear hF
    go_enter Try.func75, Try.ntmps75
    go_upto_region 4 with (fail)
    clear f3 g3
    go_loopg [22] b.n (fun gk u22 wr => ∃ j : Nat, u22 = .int .i64 j ∧ j ≤ b.n ∧ Hid (gk = b.n - j) ∧ Hid (w.grownBy wr (some mb)) ∧ Hid (Seek wr mb Pa Pb Ps Pd Pp a b BA bc bl) ∧ Hid (Mp wr mb mk (bdF s)) ∧ Hid (v = anyP f ((zipB b bl).drop j)))
    case atStart => exact ⟨0, rfl, Nat.zero_le _, Lib.hid (by omega), Lib.hid (World.grownBy.refl _ _), HS, HM, HV⟩
    case round =>
      clear HS HM HV
      obtain ⟨j, rfl, hj, HG, HB, HS, HM, HV⟩ := hrel
      by_cases hlt : j < b.n
      rotate_left
      · have hz : v = false := by rw [HV.out]; exact anyP_end f _ j (by have := HZL.out; omega)
        subst hz
        go_wp2
        go_ret
        exact ⟨by rfl, HB.out, HM.out, ⟨_, _, HM.out⟩⟩
      have hjz : j < (zipB b bl).length := by have := HZL.out; omega
      have hjb : j < b.ls.length := by omega
      have hjl : j < bl.length := by have := HBL.out; omega
      have HQ : Hid ((zipB b bl)[j] = (b.ls[j], bl[j].ths)) := Lib.hid (by simp [zipB])
      have HVS : Hid (v = (f (b.ls[j], bl[j].ths) || anyP f ((zipB b bl).drop (j + 1)))) := Lib.hid (by rw [HV.out, anyP_drop f _ j hjz, HQ.out])
      have HLQ : Hid (bl[j].ths.length = b.ls[j].terms.length) := Lib.hid (by
        have := HLEN.out (zipB b bl)[j] (List.getElem_mem hjz)
        rw [HQ.out] at this; exact this)
      have hbok : Li.ok wr b.ls[j] := HS.out.bo.2.2.2 _ (List.getElem_mem hjb)
      have hrok := HS.out.ro bl[j] (List.getElem_mem hjl)
      obtain ⟨bb, ob, _, hbe, hbB, hbc⟩ := HS.out.bo.2.1.at Li.cells 14 (fun _ => rfl) (by omega) j hlt
      obtain ⟨bd, od, _, hde, hdB, hdc⟩ := HS.out.r.at Bm.cells 1 (fun _ => rfl) (by omega) j hlt
      clear HV HQ
      generalize b.ls[j] = y at *
      generalize bl[j] = z at *
      have HE0 : Hid (wr.cell? ⟨bd, od + j, none⟩ = some (.slice z.A z.n z.c)) := Lib.hid (by have := hdc 0 _ (by omega) rfl; simpa using this)
      clear hdc
      have HBE := Lib.hid hbe
      have HDE := Lib.hid hde
      have c0 := hbc 0 _ (by omega) rfl
      have c1 := hbc 1 _ (by omega) rfl
      have c2 := hbc 2 _ (by omega) rfl
      have c3 := hbc 3 _ (by omega) rfl
      have c4 := hbc 4 _ (by omega) rfl
      have c5 := hbc 5 _ (by omega) rfl
      have c6 := hbc 6 _ (by omega) rfl
      have c7 := hbc 7 _ (by omega) rfl
      have c8 := hbc 8 _ (by omega) rfl
      have c9 := hbc 9 _ (by omega) rfl
      have c10 := hbc 10 _ (by omega) rfl
      have c11 := hbc 11 _ (by omega) rfl
      have c12 := hbc 12 _ (by omega) rfl
      have c13 := hbc 13 _ (by omega) rfl
      rw [Nat.add_zero] at c0
      clear hbc
      rw [HBE.out]
      obtain ⟨yk, ⟨yp, yA, yn, yc, yo, yes⟩, yop, ⟨ylk, yli, ylt, ylo⟩, ⟨yrk, yri, yrt, yro⟩, yof⟩ := y
      dsimp only at c0 c1 c2 c3 c4 c5 c6 c7 c8 c9 c10 c11 c12 c13
      go_upto_region 6 with (fail)
      have hba := (Below.refl wr.heap.size wr).alloc (Nat.le_refl _) (.cells (Li.cells ⟨yk, ⟨yp, yA, yn, yc, yo, yes⟩, yop, ⟨ylk, yli, ylt, ylo⟩, ⟨yrk, yri, yrt, yro⟩, yof⟩).toArray 61)
      have hY := Blk.new wr 61 (Li.cells ⟨yk, ⟨yp, yA, yn, yc, yo, yes⟩, yop, ⟨ylk, yli, ylt, ylo⟩, ⟨yrk, yri, yrt, yro⟩, yof⟩)
      have KG := below_grown hba (some mb)
      have KS := Lib.hid (HS.out.map HM.out KG)
      have KM := Lib.hid (HM.out.below hba HM.out.lt)
      have KB := Lib.hid (grown_trans HB.out KG)
      have KYO : Hid (Li.ok (wr.alloc (.cells (Li.cells ⟨yk, ⟨yp, yA, yn, yc, yo, yes⟩, yop, ⟨ylk, yli, ylt, ylo⟩, ⟨yrk, yri, yrt, yro⟩, yof⟩).toArray 61)) ⟨yk, ⟨yp, yA, yn, yc, yo, yes⟩, yop, ⟨ylk, yli, ylt, ylo⟩, ⟨yrk, yri, yrt, yro⟩, yof⟩) := Lib.hid (At.ok.up hbok hba)
      have KR := Lib.hid (Rd.up hrok hba hba.size)
      have KE := Lib.hid ((hba.cell (p := ⟨bd, od + j, none⟩) (by show bd < wr.heap.size; exact hdB)).trans HE0.out)
      have hdB2 := Nat.lt_of_lt_of_le hdB hba.size
      have L := Lib.hid hY
      simp only [Li.cells] at KG KS KM KB KYO KR KE L hdB2
      clear hba hY HS HM HB hbok hrok HE0 KG c0 c1 c2 c3 c4 c5 c6 c7 c8 c9 c10 c11 c12 c13
      generalize World.alloc _ _ = w5 at *
      generalize wr.heap.size = Y at *
      obtain ⟨ba, oa, hae, haB, hac⟩ := HAC.out w5 KS.out
      have HAE := Lib.hid hae
      obtain ⟨xk, ⟨xp, xA, xn, xc, xo, xes⟩, xop, ⟨xlk, xli, xlt, xlo⟩, ⟨xrk, xri, xrt, xro⟩, xof⟩ := x
      have a0 := hac 0 _ (by omega) rfl
      have a1 := hac 1 _ (by omega) rfl
      have a2 := hac 2 _ (by omega) rfl
      have a3 := hac 3 _ (by omega) rfl
      have a4 := hac 4 _ (by omega) rfl
      have a5 := hac 5 _ (by omega) rfl
      have a6 := hac 6 _ (by omega) rfl
      have a7 := hac 7 _ (by omega) rfl
      have a8 := hac 8 _ (by omega) rfl
      have a9 := hac 9 _ (by omega) rfl
      have a10 := hac 10 _ (by omega) rfl
      have a11 := hac 11 _ (by omega) rfl
      have a12 := hac 12 _ (by omega) rfl
      have a13 := hac 13 _ (by omega) rfl
      dsimp only at a0 a1 a2 a3 a4 a5 a6 a7 a8 a9 a10 a11 a12 a13
      rw [Nat.add_zero] at a0
      have hpa : w5.cell? ⟨Pa, 3, none⟩ = some (.slice (some ⟨ba, oa, none⟩) a.n a.c) := by rw [← hae]; exact (KS.out.fa.cell 3).trans rfl
      have pa3 := cell_regrown hpa
      have p0 := cell_regrown a0
      have p1 := cell_regrown a1
      have p2 := cell_regrown a2
      have p3 := cell_regrown a3
      have p4 := cell_regrown a4
      have p5 := cell_regrown a5
      have p6 := cell_regrown a6
      have p7 := cell_regrown a7
      have p8 := cell_regrown a8
      have p9 := cell_regrown a9
      have p10 := cell_regrown a10
      have p11 := cell_regrown a11
      have p12 := cell_regrown a12
      have p13 := cell_regrown a13
      have l0 := cell_regrown ((L.out.cell 0).trans rfl)
      have l1 := cell_regrown ((L.out.cell 1).trans rfl)
      have l2 := cell_regrown ((L.out.cell 2).trans rfl)
      have l3 := cell_regrown ((L.out.cell 3).trans rfl)
      have l4 := cell_regrown ((L.out.cell 4).trans rfl)
      have l5 := cell_regrown ((L.out.cell 5).trans rfl)
      have l6 := cell_regrown ((L.out.cell 6).trans rfl)
      have l7 := cell_regrown ((L.out.cell 7).trans rfl)
      have l8 := cell_regrown ((L.out.cell 8).trans rfl)
      have l9 := cell_regrown ((L.out.cell 9).trans rfl)
      have l10 := cell_regrown ((L.out.cell 10).trans rfl)
      have l11 := cell_regrown ((L.out.cell 11).trans rfl)
      have l12 := cell_regrown ((L.out.cell 12).trans rfl)
      have l13 := cell_regrown ((L.out.cell 13).trans rfl)
      have HXO := Lib.hid (HAT.out w5 KS.out)
      have kal : ∀ d os, Calls Try.prog 76 #[.agg #[.int .i64 xk, .string xp, .slice xA xn xc, .int .i64 xo, .int .i64 xop, .int .i64 xlk, .int .i64 xli, .string xlt, .int .i64 xlo, .int .i64 xrk, .int .i64 xri, .string xrt, .int .i64 xro, .int .i64 xof],
        .agg #[.int .i64 yk, .string yp, .slice yA yn yc, .int .i64 yo, .int .i64 yop, .int .i64 ylk, .int .i64 yli, .string ylt, .int .i64 ylo, .int .i64 yrk, .int .i64 yri, .string yrt, .int .i64 yro, .int .i64 yof]] (grow (redrawn w5 d) os) fun e w'' => e = .returned (.bool (likeL ⟨xk, ⟨xp, xA, xn, xc, xo, xes⟩, xop, ⟨xlk, xli, xlt, xlo⟩, ⟨xrk, xri, xrt, xro⟩, xof⟩ ⟨yk, ⟨yp, yA, yn, yc, yo, yes⟩, yop, ⟨ylk, yli, ylt, ylo⟩, ⟨yrk, yri, yrt, yro⟩, yof⟩)) ∧ ∃ p : Regrown, w'' = grow (redrawn w5 p.d) p.os :=
        fun d os => Calls.regrown_of (alike_any _ _ _ (At.ok.up HXO.out (below_regrown w5 d os)) (At.ok.up KYO.out (below_regrown w5 d os)))
      rw [HFE.out] at HVS
      have HLK : Hid (likeL ⟨xk, ⟨xp, xA, xn, xc, xo, xes⟩, xop, ⟨xlk, xli, xlt, xlo⟩, ⟨xrk, xri, xrt, xro⟩, xof⟩ ⟨yk, ⟨yp, yA, yn, yc, yo, yes⟩, yop, ⟨ylk, yli, ylt, ylo⟩, ⟨yrk, yri, yrt, yro⟩, yof⟩ = true → (⟨xk, ⟨xp, xA, xn, xc, xo, xes⟩, xop, ⟨xlk, xli, xlt, xlo⟩, ⟨xrk, xri, xrt, xro⟩, xof⟩ : Li).terms.length = (⟨yk, ⟨yp, yA, yn, yc, yo, yes⟩, yop, ⟨ylk, yli, ylt, ylo⟩, ⟨yrk, yri, yrt, yro⟩, yof⟩ : Li).terms.length) := Lib.hid (fun h => by
        unfold likeL at h
        simp only [Bool.and_eq_true, decide_eq_true_eq] at h
        exact h.2.2.2)
      dsimp only at HVS
      generalize likeL ⟨xk, ⟨xp, xA, xn, xc, xo, xes⟩, xop, ⟨xlk, xli, xlt, xlo⟩, ⟨xrk, xri, xrt, xro⟩, xof⟩ ⟨yk, ⟨yp, yA, yn, yc, yo, yes⟩, yop, ⟨ylk, yli, ylt, ylo⟩, ⟨yrk, yri, yrt, yro⟩, yof⟩ = lk at *
      refine wp_region_quiet_below (by kernel_rfl) (by kernel_rfl) ?_
      repeat (go_big_quiet_step (with_reducible exact kal _ _))
      refine wpQuiet_nil ?_
      intro w6 hw6
      obtain ⟨⟨dq, osq⟩, rfl⟩ := hw6
      clear pa3 p0 p1 p2 p3 p4 p5 p6 p7 p8 p9 p10 p11 p12 p13 l0 l1 l2 l3 l4 l5 l6 l7 l8 l9 l10 l11 l12 l13 kal a0 a1 a2 a3 a4 a5 a6 a7 a8 a9 a10 a11 a12 a13 hpa hac hae haB
      have hb6 := below_regrown w5 dq osq
      have hg6 := below_grown hb6 (some mb)
      have MS := Lib.hid (KS.out.map KM.out hg6)
      have MM := Lib.hid (KM.out.below hb6 KM.out.lt)
      have MB := Lib.hid (grown_trans KB.out hg6)
      have MR := Lib.hid (Rd.up KR.out hb6 hb6.size)
      have ME := Lib.hid ((hb6.cell (p := ⟨bd, od + j, none⟩) (by show bd < w5.heap.size; exact hdB2)).trans KE.out)
      have hdB3 := Nat.lt_of_lt_of_le hdB2 hb6.size
      clear hb6 hg6 KS KM KB KR KE KYO HXO L hdB2
      generalize grow _ _ = w7 at *
      have KS := MS
      have KM := MM
      have KB := MB
      have KR := MR
      clear MS MM MB MR
      cases lk with
      | false =>
        have HN : Hid (v = anyP f ((zipB b bl).drop (j + 1))) := Lib.hid (by rw [HVS.out, Bool.false_and, Bool.false_or])
        clear HVS KR ME
        go_wp2
        rw [← HBE.out]
        go_roundg (b.n - (j + 1))
        case measure => have := HG.out; omega
        case rel => exact ⟨j + 1, by go_num, by omega, Lib.hid rfl, KB, KS, KM, HN⟩
      | true =>
        have hxy := HLK.out rfl
        obtain ⟨ba, oa, hae2, haB, hac⟩ := HAC.out w7 KS.out
        have hpa : w7.cell? ⟨Pa, 3, none⟩ = some (.slice (some ⟨ba, oa, none⟩) a.n a.c) := by rw [← hae2]; exact (KS.out.fa.cell 3).trans rfl
        have hps : w7.cell? ⟨Ps, 0, none⟩ = some (.map (some mb)) := (KS.out.fs.cell 0).trans rfl
        have hpd : w7.cell? ⟨Pd, 0, none⟩ = some (.slice BA b.n bc) := (KS.out.fd.cell 0).trans rfl
        have hpaL := KS.out.fa.lt
        have hpsL := KS.out.fs.lt
        have hpdL := KS.out.fd.lt
        have a0 := hac 0 _ (by omega) rfl
        have a1 := hac 1 _ (by omega) rfl
        have a2 := hac 2 _ (by omega) rfl
        have a3 := hac 3 _ (by omega) rfl
        have a4 := hac 4 _ (by omega) rfl
        have a5 := hac 5 _ (by omega) rfl
        have a6 := hac 6 _ (by omega) rfl
        have a7 := hac 7 _ (by omega) rfl
        have a8 := hac 8 _ (by omega) rfl
        have a9 := hac 9 _ (by omega) rfl
        have a10 := hac 10 _ (by omega) rfl
        have a11 := hac 11 _ (by omega) rfl
        have a12 := hac 12 _ (by omega) rfl
        have a13 := hac 13 _ (by omega) rfl
        dsimp only at a0 a1 a2 a3 a4 a5 a6 a7 a8 a9 a10 a11 a12 a13
        rw [Nat.add_zero] at a0
        rw [HDE.out] at hpd
        go_upto_region 7 with (fail)
        obtain ⟨C, hCi⟩ : ∃ C : World → Prop, ∀ w', C w' ↔ w7.grownBy w' (some mb) := ⟨_, fun _ => Iff.rfl⟩
        have hbd : Below w7.heap.size w7 w7.drew := ⟨rfl, rfl, rfl, Nat.le_refl _, fun _ _ => rfl⟩
        have hC : C w7.drew := (hCi _).2 (below_grown hbd _)
        have k0 : ∀ p : WC C, p.w.cell? ⟨ba, oa + k * 14, none⟩ = _ := fun p => (grown_cell ((hCi _).1 p.h) (a := ⟨ba, oa + k * 14, none⟩) (by show ba < w7.heap.size; exact haB) (mp_cell_ne KM.out a0)).trans a0
        have k1 : ∀ p : WC C, p.w.cell? ⟨ba, oa + k * 14 + 1, none⟩ = _ := fun p => (grown_cell ((hCi _).1 p.h) (a := ⟨ba, oa + k * 14 + 1, none⟩) (by show ba < w7.heap.size; exact haB) (mp_cell_ne KM.out a1)).trans a1
        have k2 : ∀ p : WC C, p.w.cell? ⟨ba, oa + k * 14 + 2, none⟩ = _ := fun p => (grown_cell ((hCi _).1 p.h) (a := ⟨ba, oa + k * 14 + 2, none⟩) (by show ba < w7.heap.size; exact haB) (mp_cell_ne KM.out a2)).trans a2
        have k3 : ∀ p : WC C, p.w.cell? ⟨ba, oa + k * 14 + 3, none⟩ = _ := fun p => (grown_cell ((hCi _).1 p.h) (a := ⟨ba, oa + k * 14 + 3, none⟩) (by show ba < w7.heap.size; exact haB) (mp_cell_ne KM.out a3)).trans a3
        have k4 : ∀ p : WC C, p.w.cell? ⟨ba, oa + k * 14 + 4, none⟩ = _ := fun p => (grown_cell ((hCi _).1 p.h) (a := ⟨ba, oa + k * 14 + 4, none⟩) (by show ba < w7.heap.size; exact haB) (mp_cell_ne KM.out a4)).trans a4
        have k5 : ∀ p : WC C, p.w.cell? ⟨ba, oa + k * 14 + 5, none⟩ = _ := fun p => (grown_cell ((hCi _).1 p.h) (a := ⟨ba, oa + k * 14 + 5, none⟩) (by show ba < w7.heap.size; exact haB) (mp_cell_ne KM.out a5)).trans a5
        have k6 : ∀ p : WC C, p.w.cell? ⟨ba, oa + k * 14 + 6, none⟩ = _ := fun p => (grown_cell ((hCi _).1 p.h) (a := ⟨ba, oa + k * 14 + 6, none⟩) (by show ba < w7.heap.size; exact haB) (mp_cell_ne KM.out a6)).trans a6
        have k7 : ∀ p : WC C, p.w.cell? ⟨ba, oa + k * 14 + 7, none⟩ = _ := fun p => (grown_cell ((hCi _).1 p.h) (a := ⟨ba, oa + k * 14 + 7, none⟩) (by show ba < w7.heap.size; exact haB) (mp_cell_ne KM.out a7)).trans a7
        have k8 : ∀ p : WC C, p.w.cell? ⟨ba, oa + k * 14 + 8, none⟩ = _ := fun p => (grown_cell ((hCi _).1 p.h) (a := ⟨ba, oa + k * 14 + 8, none⟩) (by show ba < w7.heap.size; exact haB) (mp_cell_ne KM.out a8)).trans a8
        have k9 : ∀ p : WC C, p.w.cell? ⟨ba, oa + k * 14 + 9, none⟩ = _ := fun p => (grown_cell ((hCi _).1 p.h) (a := ⟨ba, oa + k * 14 + 9, none⟩) (by show ba < w7.heap.size; exact haB) (mp_cell_ne KM.out a9)).trans a9
        have k10 : ∀ p : WC C, p.w.cell? ⟨ba, oa + k * 14 + 10, none⟩ = _ := fun p => (grown_cell ((hCi _).1 p.h) (a := ⟨ba, oa + k * 14 + 10, none⟩) (by show ba < w7.heap.size; exact haB) (mp_cell_ne KM.out a10)).trans a10
        have k11 : ∀ p : WC C, p.w.cell? ⟨ba, oa + k * 14 + 11, none⟩ = _ := fun p => (grown_cell ((hCi _).1 p.h) (a := ⟨ba, oa + k * 14 + 11, none⟩) (by show ba < w7.heap.size; exact haB) (mp_cell_ne KM.out a11)).trans a11
        have k12 : ∀ p : WC C, p.w.cell? ⟨ba, oa + k * 14 + 12, none⟩ = _ := fun p => (grown_cell ((hCi _).1 p.h) (a := ⟨ba, oa + k * 14 + 12, none⟩) (by show ba < w7.heap.size; exact haB) (mp_cell_ne KM.out a12)).trans a12
        have k13 : ∀ p : WC C, p.w.cell? ⟨ba, oa + k * 14 + 13, none⟩ = _ := fun p => (grown_cell ((hCi _).1 p.h) (a := ⟨ba, oa + k * 14 + 13, none⟩) (by show ba < w7.heap.size; exact haB) (mp_cell_ne KM.out a13)).trans a13
        have m0 : ∀ p : WC C, p.w.cell? ⟨Pa, 3, none⟩ = _ := fun p => (grown_cell ((hCi _).1 p.h) (a := ⟨Pa, 3, none⟩) hpaL (mp_cell_ne KM.out hpa)).trans hpa
        have m1 : ∀ p : WC C, p.w.cell? ⟨Ps, 0, none⟩ = _ := fun p => (grown_cell ((hCi _).1 p.h) (a := ⟨Ps, 0, none⟩) hpsL (mp_cell_ne KM.out hps)).trans hps
        have m2 : ∀ p : WC C, p.w.cell? ⟨Pd, 0, none⟩ = _ := fun p => (grown_cell ((hCi _).1 p.h) (a := ⟨Pd, 0, none⟩) hpdL (mp_cell_ne KM.out hpd)).trans hpd
        have m3 : ∀ p : WC C, p.w.cell? ⟨bd, od + j, none⟩ = _ := fun p => (grown_cell ((hCi _).1 p.h) (a := ⟨bd, od + j, none⟩) hdB3 (mp_cell_ne KM.out ME.out)).trans ME.out
        have kn : Nonempty (WC C) := ⟨⟨_, hC⟩⟩
        refine wp_region_frontN C [0, 1, 2, 3, 4, 5, 7, 8, 9, 10] 7 (fun j => decide (j < 17)) (by kernel_rfl) (fun _ _ d _ _ h => by cases d <;> exact h) (by kernel_rfl) hC ?_
        simp only [List.map_cons, List.map_nil, List.getD_cons_zero, List.getD_cons_succ]
        repeat (go_big_quiet_step (fail))
        refine wpQuiet_nil ?_
        have HCi := Lib.hid hCi
        have hgd := below_grown hbd (some mb)
        have LS := Lib.hid (KS.out.map KM.out hgd)
        have LM := Lib.hid (KM.out.below hbd KM.out.lt)
        have LR := Lib.hid (Rd.up KR.out hbd hbd.size)
        have LG := Lib.hid hgd
        clear k0 k1 k2 k3 k4 k5 k6 k7 k8 k9 k10 k11 k12 k13 m0 m1 m2 m3 hC hCi hbd hgd a0 a1 a2 a3 a4 a5 a6 a7 a8 a9 a10 a11 a12 a13 hpa hps hpd hac haB hae2 KS KM KR ME
        generalize w7.drew = wd at *
        have kt := terms_any ⟨xk, ⟨xp, xA, xn, xc, xo, xes⟩, xop, ⟨xlk, xli, xlt, xlo⟩, ⟨xrk, xri, xrt, xro⟩, xof⟩ wd (HAT.out wd LS.out)
        simp only [Li.cells] at kt
        refine wpN_one (i := 6) (by kernel_rfl) rfl ?_
        go_wp2_with fail
        refine kt.mono ?_
        rintro e w8 ⟨A1, n1, c1, rfl, hr1, _, _, hb8⟩
        have hg8 := below_grown hb8 (some mb)
        have MS := Lib.hid (LS.out.map LM.out hg8)
        have MM := Lib.hid (LM.out.below hb8 LM.out.lt)
        have MR := Lib.hid (Rd.up LR.out hb8 hb8.size)
        have MG := Lib.hid (grown_trans LG.out hg8)
        have HR1 := Lib.hid hr1
        have hn1 : (⟨xk, ⟨xp, xA, xn, xc, xo, xes⟩, xop, ⟨xlk, xli, xlt, xlo⟩, ⟨xrk, xri, xrt, xro⟩, xof⟩ : Li).terms.length = n1 := by have := hr1.1; rw [tcells_length] at this; omega
        have hzn : z.n = n1 := by
          have e1 := HLQ.out
          have e2 := MR.out.1
          rw [thcells_length] at e2
          omega
        clear hb8 hg8 LS LM LR LG hr1 kt
        go_wp2
        refine tailN_normal ((HCi.out _).2 MG.out) ?_
        have hszm := HSZ.out
        have kk := take_any mb mk s A1 n1 c1 (⟨xk, ⟨xp, xA, xn, xc, xo, xes⟩, xop, ⟨xlk, xli, xlt, xlo⟩, ⟨xrk, xri, xrt, xro⟩, xof⟩ : Li).terms z.A z.c z.ths w8 MM.out (by omega) HR1.out (hzn ▸ MR.out) HAF.out
        refine wpN_one (i := 11) (by kernel_rfl) rfl ?_
        go_wp2_with fail
        refine kk.mono ?_
        rintro e w9 ⟨F, fn, fc, new, rfl, hnew, hm9, hnl, hown9, hg9⟩
        have NG := Lib.hid (grown_trans MG.out hg9)
        have NS := Lib.hid (MS.out.map MM.out hg9)
        have NM := Lib.hid hm9
        have NF := Lib.hid (own_rd hown9)
        have NB := Lib.hid (grown_trans KB.out NG.out)
        have HNW := hnew
        clear kk hm9 hown9 hg9 MS MM MR HR1 MG hnew
        go_wp2
        refine tailN_normal ((HCi.out _).2 NG.out) ?_
        refine wpN_one (i := 12) (by kernel_rfl) rfl ?_
        go_wp2
        refine tailN_normal ((HCi.out _).2 NG.out) ?_
        refine wpN_frontW C [13, 14, 15, 16] 0 _ (fun _ _ d _ _ h => by cases d <;> exact h) (by kernel_rfl) ((HCi.out _).2 NG.out) ?_
        simp only [List.map_cons, List.map_nil, List.getD_cons_zero, List.getD_cons_succ]
        repeat (go_big_quiet_step (fail))
        refine wpQuiet_nil ?_
        refine wpN_none (by kernel_rfl) ?_
        clear kn HCi C NG KB
        have hfn : new.length = fn := by have := NF.out.1; rw [scells_length] at this; unfold bnames at this; rw [List.length_map] at this; omega
        have HND : Hid (((s ++ new).map Prod.fst).Nodup) := Lib.hid (by rw [← HNW.out]; exact takeF_nodup _ _ _ HN.out)
        have HNS2 : Hid (∀ p ∈ s ++ new, p.1.size ≤ maxLen) := Lib.hid (fun p hp => by
          rw [← HNW.out] at hp
          rcases take_names _ _ _ p hp with h | h
          · exact HNS.out p h
          · obtain ⟨t, ht, e⟩ := List.mem_map.1 h
            rw [← e]; exact HAF.out t ht)
        have HV3 : Hid (v = (((takeF s (⟨xk, ⟨xp, xA, xn, xc, xo, xes⟩, xop, ⟨xlk, xli, xlt, xlo⟩, ⟨xrk, xri, xrt, xro⟩, xof⟩ : Li).terms z.ths).2 && searchP (zipB b bl) (s ++ new) rest) || anyP f ((zipB b bl).drop (j + 1)))) := Lib.hid (by
          rw [HVS.out, HNW.out, Bool.true_and])
        have ki := fun hw => HIH.out (k + 1) (mk + new.length) (s ++ new) w9 (by omega) hw NM.out HND.out HNS2.out (by rw [hrest]; omega)
        have ki := ki NS.out
        rw [hrest, show ((k + 1 : Nat) : Int) = (k : Int) + 1 from rfl] at ki
        have hpp : w9.cell? ⟨Pp, 0, none⟩ = some (.func (.func 75) #[] #[.pointer (some ⟨Pa, 0, none⟩), .pointer (some ⟨Pb, 0, none⟩), .pointer (some ⟨Ps, 0, none⟩), .pointer (some ⟨Pd, 0, none⟩), .pointer (some ⟨Pp, 0, none⟩)]) := (NS.out.fp.cell 0).trans rfl
        clear HVS HNW
        generalize searchP (zipB b bl) (s ++ new) rest = sp at *
        generalize (takeF s (⟨xk, ⟨xp, xA, xn, xc, xo, xes⟩, xop, ⟨xlk, xli, xlt, xlo⟩, ⟨xrk, xri, xrt, xro⟩, xof⟩ : Li).terms z.ths).2 = ok at *
        have HKI := Lib.hid ki
        clear ki
        cases ok with
        | false =>
          have HN2 : Hid (v = anyP f ((zipB b bl).drop (j + 1))) := Lib.hid (by rw [HV3.out, Bool.false_and, Bool.false_or])
          have TM := NM
          have TS := NS
          have TF := NF
          have TB := NB
          clear HV3 NM NS NF NB HKI hpp
          go_upto_region 11 with (fail)
          have TM0 : Hid (Mp w9 mb (mk + (fn - 0)) (bdLess (s ++ new) ((bnames new).take 0))) := Lib.hid (by
            rw [Nat.sub_zero, ← hfn]
            exact Mp.congr TM.out (fun t => rfl))
          go_loopg [59] fn (fun gi u59 w10 => ∃ i : Nat, u59 = .int .i64 i ∧ i ≤ fn ∧ Hid (gi = fn - i) ∧ Hid (w.grownBy w10 (some mb)) ∧ Hid (Seek w10 mb Pa Pb Ps Pd Pp a b BA bc bl) ∧ Hid (Mp w10 mb (mk + (fn - i)) (bdLess (s ++ new) ((bnames new).take i))) ∧ Hid (Rd w10 w10.heap.size 1 F fn (scells (bnames new))))
          case atStart => exact ⟨0, rfl, Nat.zero_le _, Lib.hid (by omega), TB, TS, TM0, TF⟩
          case round =>
            clear TB TS TM TM0 TF
            obtain ⟨i, rfl, hi, HGI, TB, TS, TM, TF⟩ := hrel
            by_cases hli : i < fn
            · obtain ⟨bn, on_, hi1, hfe, hbn2, n0⟩ := TF.out.str i hli
              have hne := bdLess_some s new HND.out i hi1
              have hstep := bdLess_step (s ++ new) (bnames new) i hi1
              have hnsz : (bnames new)[i].size ≤ maxLen := by
                obtain ⟨p, hp, e⟩ := List.mem_map.1 (List.getElem_mem hi1)
                rw [← e]; exact HNS2.out p (List.mem_append_right _ hp)
              have HST := Lib.hid hstep
              have HNE := Lib.hid hne
              have HFE2 := Lib.hid hfe
              have hps : wr.cell? ⟨Ps, 0, none⟩ = some (.map (some mb)) := (TS.out.fs.cell 0).trans rfl
              clear hstep hne hfe
              generalize (bnames new)[i] = nm at *
              rw [HFE2.out]
              have hmi : Mp wr mb (mk + (fn - (i + 1)) + 1) (bdLess (s ++ new) ((bnames new).take i)) := by
                have e : mk + (fn - (i + 1)) + 1 = mk + (fn - i) := by omega
                rw [e]; exact TM.out
              have HMI := Lib.hid hmi
              clear hmi
              go_wp2_with (at_delete; go_must (refine wpList_delete_less rfl _ _ 120 153 rfl mapT mb (mk + (fn - (i + 1))) _ rfl HMI.out nm rfl hnsz HNE.out ?_))
              intro w11 hm11 ht11
              have hg11 := ht11.grown
              have UM : Hid (Mp w11 mb (mk + (fn - (i + 1))) (bdLess (s ++ new) ((bnames new).take (i + 1)))) := Lib.hid (Mp.congr hm11 HST.out)
              have US := Lib.hid (TS.out.map TM.out hg11)
              have UF := Lib.hid (TF.out.mapUp TM.out hg11)
              have UB := Lib.hid (grown_trans TB.out hg11)
              clear hm11 ht11 hg11 TM TS TF TB HMI hps n0 HST HNE
              go_wp2
              rw [← HFE2.out]
              go_roundg (fn - (i + 1))
              case measure => have := HGI.out; omega
              case rel => exact ⟨i + 1, by go_num, by omega, Lib.hid rfl, UB, US, UM, UF⟩
            · obtain rfl : i = fn := by omega
              have UM : Hid (Mp wr mb mk (bdF s)) := Lib.hid (by
                have h1 := TM.out
                rw [Nat.sub_self, Nat.add_zero, List.take_of_length_le (by rw [← hfn]; unfold bnames; rw [List.length_map]; exact Nat.le_refl _)] at h1
                exact Mp.congr h1 (bdLess_all s new HND.out))
              clear TM TF
              go_wp2
              rw [← HBE.out]
              go_roundg (b.n - (j + 1))
              case measure => have := HG.out; omega
              case rel => exact ⟨j + 1, by go_num, by omega, Lib.hid rfl, TB, TS, UM, HN2⟩
        | true =>
          have ki := HKI.out
          go_wp2_with fail
          refine ki.mono ?_
          rintro e wq ⟨rfl, hgq, hmq, hmx⟩
          cases sp with
          | true =>
            have hz : v = true := by rw [HV3.out]; rfl
            subst hz
            have QB := Lib.hid (grown_trans NB.out hgq)
            have QX := Lib.hid hmx
            clear hmx hmq hgq ki HKI
            go_wp2
            go_ret
            exact ⟨by rfl, QB.out, fun h => (by cases h), QX.out⟩
          | false =>
            have HN2 : Hid (v = anyP f ((zipB b bl).drop (j + 1))) := Lib.hid (by rw [HV3.out, Bool.true_and, Bool.false_or])
            have TM := Lib.hid (hmq rfl)
            have TS := Lib.hid (NS.out.map NM.out hgq)
            have TF := Lib.hid (NF.out.mapUp NM.out hgq)
            have TB := Lib.hid (grown_trans NB.out hgq)
            clear HV3 NM NS NF NB HKI hpp ki hgq hmq hmx
            go_upto_region 11 with (fail)
            have TM0 : Hid (Mp wq mb (mk + (fn - 0)) (bdLess (s ++ new) ((bnames new).take 0))) := Lib.hid (by
              rw [Nat.sub_zero, ← hfn]
              exact Mp.congr TM.out (fun t => rfl))
            go_loopg [59] fn (fun gi u59 w10 => ∃ i : Nat, u59 = .int .i64 i ∧ i ≤ fn ∧ Hid (gi = fn - i) ∧ Hid (w.grownBy w10 (some mb)) ∧ Hid (Seek w10 mb Pa Pb Ps Pd Pp a b BA bc bl) ∧ Hid (Mp w10 mb (mk + (fn - i)) (bdLess (s ++ new) ((bnames new).take i))) ∧ Hid (Rd w10 w10.heap.size 1 F fn (scells (bnames new))))
            case atStart => exact ⟨0, rfl, Nat.zero_le _, Lib.hid (by omega), TB, TS, TM0, TF⟩
            case round =>
              clear TB TS TM TM0 TF
              obtain ⟨i, rfl, hi, HGI, TB, TS, TM, TF⟩ := hrel
              by_cases hli : i < fn
              · obtain ⟨bn, on_, hi1, hfe, hbn2, n0⟩ := TF.out.str i hli
                have hne := bdLess_some s new HND.out i hi1
                have hstep := bdLess_step (s ++ new) (bnames new) i hi1
                have hnsz : (bnames new)[i].size ≤ maxLen := by
                  obtain ⟨p, hp, e⟩ := List.mem_map.1 (List.getElem_mem hi1)
                  rw [← e]; exact HNS2.out p (List.mem_append_right _ hp)
                have HST := Lib.hid hstep
                have HNE := Lib.hid hne
                have HFE2 := Lib.hid hfe
                have hps : wr.cell? ⟨Ps, 0, none⟩ = some (.map (some mb)) := (TS.out.fs.cell 0).trans rfl
                clear hstep hne hfe
                generalize (bnames new)[i] = nm at *
                rw [HFE2.out]
                have hmi : Mp wr mb (mk + (fn - (i + 1)) + 1) (bdLess (s ++ new) ((bnames new).take i)) := by
                  have e : mk + (fn - (i + 1)) + 1 = mk + (fn - i) := by omega
                  rw [e]; exact TM.out
                have HMI := Lib.hid hmi
                clear hmi
                go_wp2_with (at_delete; go_must (refine wpList_delete_less rfl _ _ 120 153 rfl mapT mb (mk + (fn - (i + 1))) _ rfl HMI.out nm rfl hnsz HNE.out ?_))
                intro w11 hm11 ht11
                have hg11 := ht11.grown
                have UM : Hid (Mp w11 mb (mk + (fn - (i + 1))) (bdLess (s ++ new) ((bnames new).take (i + 1)))) := Lib.hid (Mp.congr hm11 HST.out)
                have US := Lib.hid (TS.out.map TM.out hg11)
                have UF := Lib.hid (TF.out.mapUp TM.out hg11)
                have UB := Lib.hid (grown_trans TB.out hg11)
                clear hm11 ht11 hg11 TM TS TF TB HMI hps n0 HST HNE
                go_wp2
                rw [← HFE2.out]
                go_roundg (fn - (i + 1))
                case measure => have := HGI.out; omega
                case rel => exact ⟨i + 1, by go_num, by omega, Lib.hid rfl, UB, US, UM, UF⟩
              · obtain rfl : i = fn := by omega
                have UM : Hid (Mp wr mb mk (bdF s)) := Lib.hid (by
                  have h1 := TM.out
                  rw [Nat.sub_self, Nat.add_zero, List.take_of_length_le (by rw [← hfn]; unfold bnames; rw [List.length_map]; exact Nat.le_refl _)] at h1
                  exact Mp.congr h1 (bdLess_all s new HND.out))
                clear TM TF
                go_wp2
                rw [← HBE.out]
                go_roundg (b.n - (j + 1))
                case measure => have := HG.out; omega
                case rel => exact ⟨j + 1, by go_num, by omega, Lib.hid rfl, TB, TS, UM, HN2⟩
end Go.Proofs.Ytjcgkplphiedjaa
