/- Adorn of the program. -/
import Derived.Test.YtjcgkplphiedjaaJ2
import Derived.Laws.MakeOwn
import Derived.Laws.IdiomStrings
import Derived.Deep.DeepCutAuto
namespace Go.Proofs.Ytjcgkplphiedjaa
open Go.RowKit

/-- A block that is known whole. -/
def Blk (w : World) (g : Nat) (t : TypeId) (cs : List Value) : Prop := w.heap[g]? = some (.cells cs.toArray t (0, 0))

section
variable {w w' : World} {g : Nat} {t : TypeId} {cs : List Value}
theorem Blk.lt (h : Blk w g t cs) : g < w.heap.size := by
  rcases Nat.lt_or_ge g w.heap.size with hlt | hge
  · exact hlt
  · unfold Blk at h; rw [Array.getElem?_eq_none hge] at h; cases h
theorem Blk.cell (h : Blk w g t cs) (i : Nat) : w.cell? ⟨g, i, none⟩ = cs[i]? := by
  rw [cell_of_row w g i cs.toArray t (0, 0) h]; simp
theorem Blk.frozen (h : Blk w g t cs) (i : Nat) : w.frozen? ⟨g, i, none⟩ = false := by
  unfold Blk at h
  simp [World.frozen?, h]
theorem Blk.new (w : World) (t : TypeId) (cs : List Value) : Blk (w.alloc (.cells cs.toArray t)) w.heap.size t cs := heap_alloc_new w _
theorem Blk.drewN (h : Blk w g t cs) (n : Nat) : Blk (w.drewN n) g t cs := h
theorem Blk.drew (h : Blk w g t cs) : Blk w.drew g t cs := h
theorem Blk.alloc (h : Blk w g t cs) (o : Obj) : Blk (w.alloc o) g t cs := (Below.heap_alloc w o g h.lt).trans h
theorem Blk.set_ (h : Blk w g t cs) (i : Nat) (u : Value) : Blk (w.setCell ⟨g, i, none⟩ u) g t (cs.set i u) := by
  unfold Blk at h ⊢
  simp [World.setCell, Array.getElem?_modify, h]
theorem Blk.far (h : Blk w g t cs) {p : Addr} (hp : g ≠ p.block) (u : Value) : Blk (w.setCell p u) g t cs := (Below.heap_setCell w p u g hp).trans h
theorem Blk.below {B : Nat} (h : Blk w g t cs) (hb : Below B w w') (hg : g < B) : Blk w' g t cs := (hb.block g hg).trans h
theorem Blk.grown {row : Option Nat} (h : Blk w g t cs) (hb : w.grownBy w' row) (hg : some g ≠ row) : Blk w' g t cs := (hb.block g h.lt hg).trans h
end

theorem run_make_rowN {P : Program} (t e : TypeId) (i : TypeInfo) (z : Value) (ht : P.underlying t = some (.slice e)) (hi : P.info? e = some i) (hz : i.zero = some z)
    (kl kc : IntKind) (n c : Nat) (hnc : n ≤ c) (hbytes : i.bytes * c ≤ 281474976710656) (h63 : c ≤ 9223372036854775807) (w : World) :
    (Instr.makeSlice t (.int kl (n : Int)) (.int kc (c : Int))).run P w = .ok (.slice (some ⟨w.heap.size, 0, none⟩) n c) (w.alloc (.cells (madeCells z.cells (c * i.size)) e)) := by
  have hb : (i.bytes : Int) * (c : Int) ≤ 281474976710656 := by
    have h : ((i.bytes * c : Nat) : Int) ≤ 281474976710656 := by omega
    rwa [Int.natCast_mul] at h
  have hr := run_make (P := P) w t e i z ht hi hz kl kc n c (by omega) (by omega) hb (by omega)
  simp only [Int.toNat_natCast] at hr
  exact hr

theorem made_one (z : Value) (hz : z.cells = #[z]) (n : Nat) : madeCells z.cells (n * 1) = (List.replicate n z).toArray := by
  apply Array.ext_getElem?
  intro i
  rw [hz]
  simp only [madeCells, Nat.mul_one, Array.getElem?_map, Array.getElem?_range, List.getElem?_toArray, List.getElem?_replicate]
  split <;> simp [Nat.mod_one]


theorem add_plain' (b j : Nat) : (⟨b, 0, none⟩ : Addr).add j = ⟨b, j, none⟩ := by unfold Addr.add; split <;> simp_all

def bcells (bs : List UInt8) : List Value := bs.map fun b => .int .u8 (b.toNat : Int)

theorem bcells_set (l : List ByteArray) (es : List T) (n k : Nat) (hk : k < es.length) (hn : es.length = n) (x : UInt8) (hx : bit l es[k] = x) :
    (bcells (bits l (es.take k)) ++ List.replicate (n - k) (Value.int .u8 0)).set k (Value.int .u8 (x.toNat : Int)) = bcells (bits l (es.take (k + 1))) ++ List.replicate (n - (k + 1)) (.int .u8 0) := by
  have hl : (bcells (bits l (es.take k))).length = k := by simp [bcells, bits]; omega
  obtain ⟨d, hd⟩ : ∃ d, n - k = d + 1 := ⟨n - k - 1, by omega⟩
  have e : bcells (bits l (es.take (k + 1))) = bcells (bits l (es.take k)) ++ [Value.int .u8 (x.toNat : Int)] := by
    rw [take_snoc _ _ hk, bits, bits, bcells, bcells, List.map_append, List.map_append, List.map_cons, List.map_nil, hx, List.map_cons, List.map_nil]
  rw [List.set_append, if_neg (by omega), hl, Nat.sub_self, hd, List.replicate_succ, List.set_cons_zero, show n - (k + 1) = d by omega, e, List.append_assoc]
  rfl

theorem bcells_mid (l : List ByteArray) (es : List T) (n k : Nat) (hk : k < es.length) (hn : es.length = n) (y : Value) :
    ((bcells (bits l (es.take k)) ++ List.replicate (n - k) (Value.int .u8 0)).set k y)[k]? = some y := by
  rw [List.getElem?_set_self]
  simp [bcells, bits]; omega

set_option maxRecDepth 20000 in
set_option maxHeartbeats 2000000 in
theorem magicAdorn_any (p : ByteArray) (A A' : Option Addr) (n c m c' : Nat) (o : Int) (es : List T) (l : List ByteArray) (w : World) (hr : Rd w w.heap.size 4 A n (tcells es)) (hr' : Rd w w.heap.size 1 A' m (scells l)) (hreach : n * 40 ≤ 140737488351232) :
    Calls Try.prog 10 #[av p A n c o, .slice A' m c'] w fun e w' => e = .returned (.string ⟨(bits l es).toArray⟩) ∧ Below w.heap.size w w' := by
  obtain ⟨i0, hi, hz0, hz1, hz2⟩ := info_parts Try.info5
  have hl : es.length = n := by have := hr.1; rw [tcells_length] at this; omega
  have HR := Lib.hid hr
  have HR' := Lib.hid hr'
  have HL := Lib.hid hl
  have hn := hr.2.1
  have mk : ∀ W : World, (Instr.makeSlice 64 (.int .i64 (n : Int)) (.int .i64 (n : Int))).run Try.prog W = .ok (.slice (some ⟨W.heap.size, 0, none⟩) n n) (W.alloc (.cells (List.replicate n (Value.int .u8 0)).toArray 5)) := fun W => by
    rw [run_make_rowN 64 5 i0 _ Try.underlying64 hi hz0 _ _ n n (Nat.le_refl _) (by rw [hz2]; omega) (by omega) W, hz1, made_one _ rfl]
  clear hr hr' hl
  unfold av
  go_enter Try.func10, Try.ntmps10
  go_wp2
  have hb0 : Hid (Below w.heap.size w ((w.alloc (.cells #[.string p, .slice A n c, .int .i64 o] 27)).alloc (.cells (Array.replicate n (Value.int .u8 0)) 5))) := ((Below.refl w.heap.size w).alloc (Nat.le_refl _) _).alloc (by simp) _
  have hG0 : Hid (Blk ((w.alloc (.cells #[.string p, .slice A n c, .int .i64 o] 27)).alloc (.cells (Array.replicate n (Value.int .u8 0)) 5)) (w.heap.size + 1) 5 (List.replicate n (Value.int .u8 0))) := by
    have := Blk.new (w.alloc (.cells #[.string p, .slice A n c, .int .i64 o] 27)) 5 (List.replicate n (Value.int .u8 0))
    exact Lib.hid (by simpa using this)
  generalize World.alloc _ _ = w1 at *
  generalize hR : w.heap.size = R at *
  have HRR := Lib.hid hR
  clear hR mk
  go_loopw [15] (fun u15 wr => ∃ (k : Nat), u15 = .int .i64 k ∧ k ≤ n ∧ Hid (Below R w wr) ∧ Hid (Blk wr (R + 1) 5 (bcells (bits l (es.take k)) ++ List.replicate (n - k) (Value.int .u8 0)))) (fun i _ => n - (intOf i).toNat)
  case atStart => exact ⟨0, rfl, Nat.zero_le _, hb0, by simpa [bits, bcells] using hG0⟩
  case round =>
    clear hb0 hG0
    obtain ⟨k, rfl, hk, hb, hG⟩ := hrel
    by_cases hlt : k < n
    · obtain ⟨B, off, hk1, rfl, hB, c0, c1, c2, c3⟩ := (HR.out.below hb.out).term k hlt
      have hb2 := Lib.hid (hb.out.alloc (by have := HRR.out; have := hG.out.lt; omega) (.cells #[.int .i64 es[k].k, .int .i64 es[k].i, .string es[k].t, .int .i64 es[k].o] 33))
      have hG2 := Lib.hid (hG.out.alloc (.cells #[.int .i64 es[k].k, .int .i64 es[k].i, .string es[k].t, .int .i64 es[k].o] 33))
      have hT2 := Lib.hid (Blk.new wr 33 [.int .i64 es[k].k, .int .i64 es[k].i, .string es[k].t, .int .i64 es[k].o])
      have hne : wr.heap.size ≠ R + 1 := by have := hG.out.lt; omega
      go_upto_region 5 with (fail)
      have hRT : Hid (R ≤ wr.heap.size) := by have := hG.out.lt; exact Lib.hid (by omega)
      have hsz : Hid (wr.heap.size < (wr.alloc (.cells #[.int .i64 es[k].k, .int .i64 es[k].i, .string es[k].t, .int .i64 es[k].o] 33)).heap.size) := Lib.hid (by simp)
      clear c0 c1 c2 c3 hb hG
      generalize World.alloc _ _ = w2 at *
      generalize wr.heap.size = Q at *
      have hl : (bcells (bits l (es.take k))).length = k := by simp [bcells, bits]; omega
      have g0 : w2.cell? ⟨R + 1, k, none⟩ = some (.int .u8 0) := by
        refine (hG2.out.cell k).trans ?_
        rw [List.getElem?_append_right (by omega), hl, Nat.sub_self, List.getElem?_replicate, if_pos (by omega)]
      have gz := hG2.out.frozen k
      go_upto_region 6 with (fail)
      have hb3 := Lib.hid (hb2.out.setCell (p := ⟨R + 1, k, none⟩) (by simp) (.int .u8 98))
      have hG3 := Lib.hid (hG2.out.set_ k (.int .u8 98))
      have hT3 := Lib.hid (hT2.out.far (p := ⟨R + 1, k, none⟩) hne (.int .u8 98))
      clear hb2 hT2 g0 gz hG2
      generalize World.setCell _ _ _ = w3 at *
      have hin := contains_any A' m c' l es[k].t w3 (by
        have h := HR'.out.below hb3.out
        have hs := hb3.out.size
        have := HRR.out
        exact ⟨h.1, h.2.1, fun hm => by obtain ⟨b1, o1, h1, h2, h3⟩ := h.2.2 hm; exact ⟨b1, o1, h1, by omega, h3⟩⟩)
      have HIN := Lib.hid hin
      clear hin
      have t0 := hT3.out.cell 0
      have t2 := hT3.out.cell 2
      simp only [List.getElem?_cons_zero, List.getElem?_cons_succ] at t0 t2
      have g0 := (hG3.out.cell k).trans (bcells_mid l es n k hk1 HL.out _)
      have gz := hG3.out.frozen k
      have hb4 := Lib.hid (hb3.out.setCell (p := ⟨R + 1, k, none⟩) (by simp) (.int .u8 102))
      have hG4 := hG3.out.set_ k (.int .u8 102)
      rw [List.set_set] at hG4
      have hG4 := Lib.hid hG4
      by_cases h4 : es[k].k = 4
      · rw [h4] at t0
        have H4 := Lib.hid h4
        clear h4
        by_cases hu : es[k].t.toList = [95]
        · have hu' : (es[k].t.toList == [95]) = true := by simpa using hu
          have HU := Lib.hid hu
          clear hu
          go_wp2
          go_roundw
          case rel => exact ⟨k + 1, by go_num, by omega, hb4, by rw [← bcells_set l es n k hk1 HL.out 102 (by unfold bit; rw [if_pos ⟨H4.out, .inl HU.out⟩])]; exact hG4⟩
          case measure => simp [intOf]; omega
        · have hu' : (es[k].t.toList == [95]) = false := by simpa using hu
          have HU := Lib.hid hu
          clear hu
          by_cases hh : has l es[k].t = true
          · go_wp2_with fail
            refine HIN.out.mono ?_
            rintro e w4 ⟨rfl, rfl⟩
            rw [hh]
            go_wp2
            go_roundw
            case rel => exact ⟨k + 1, by go_num, by omega, hb3, by rw [← bcells_set l es n k hk1 HL.out 98 (by unfold bit; rw [if_neg (by rintro ⟨_, h | h⟩; exact HU.out h; rw [hh] at h; cases h)])]; exact hG3⟩
            case measure => simp [intOf]; omega
          · have hh : has l es[k].t = false := by simpa using hh
            go_wp2_with fail
            refine HIN.out.mono ?_
            rintro e w4 ⟨rfl, rfl⟩
            rw [hh]
            go_wp2
            go_roundw
            case rel => exact ⟨k + 1, by go_num, by omega, hb4, by rw [← bcells_set l es n k hk1 HL.out 102 (by unfold bit; rw [if_pos ⟨H4.out, .inr hh⟩])]; exact hG4⟩
            case measure => simp [intOf]; omega
      · have h4' : (es[k].k == 4) = false := by simpa using h4
        have H4 := Lib.hid h4
        clear h4
        go_wp2
        go_roundw
        case rel => exact ⟨k + 1, by go_num, by omega, hb3, by rw [← bcells_set l es n k hk1 HL.out 98 (by unfold bit; rw [if_neg fun h => H4.out h.1])]; exact hG3⟩
        case measure => simp [intOf]; omega
    · obtain rfl : k = n := by omega
      have hbl : (bits l es).length = k := by have := HL.out; simp [bits]; omega
      have kc : (convert 64 9 (.slice (some ⟨R + 1, 0, none⟩) k k)).run Try.prog wr = .ok (.string ⟨(bits l es).toArray⟩) wr := by
        have := run_convert_bytes_back (P := Try.prog) wr 64 9 5 ⟨R + 1, 0, none⟩ k (bits l es) Try.underlying64 Try.underlying5 Try.underlying9 (fun j hj => by
          rw [add_plain', hG.out.cell, List.take_of_length_le (by have := HL.out; omega)]
          rw [List.getElem?_append_left (by simpa [bcells] using hj)]
          simp [bcells, List.getElem?_eq_getElem hj])
        rw [hbl] at this; exact this
      go_wp2
      go_ret
      exact ⟨rfl, by have := HRR.out; rw [this]; exact hb.out⟩
end Go.Proofs.Ytjcgkplphiedjaa
