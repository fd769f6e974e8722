/- The document's text of findings. -/
import Derived.Test.YtjcgkplphiedjaaDoorA5
namespace Go.Proofs.YtjcgkplphiedjaaDoor
open Go.RowKit Go.Sort

theorem take_snoc {α : Type} (l : List α) (k : Nat) (h : k < l.length) : l.take (k + 1) = l.take k ++ [l[k]] := by
  rw [List.take_add_one, List.getElem?_eq_getElem h]; rfl

theorem flat_at {α : Type} (f : α → List Value) (s : Nat) (hf : ∀ x, (f x).length = s) (l : List α) (k j : Nat) (hk : k < l.length) (hj : j < s) : (l.flatMap f)[k * s + j]? = (f l[k])[j]? := by
  induction l generalizing k with
  | nil => simp at hk
  | cons e es ih =>
    cases k with
    | zero =>
      simp only [List.flatMap_cons, Nat.zero_mul, Nat.zero_add, List.getElem_cons_zero]
      rw [List.getElem?_append_left (by rw [hf]; exact hj)]
    | succ k =>
      simp only [List.flatMap_cons, List.getElem_cons_succ]
      have e1 : (k + 1) * s + j = s + (k * s + j) := by rw [Nat.succ_mul]; omega
      rw [List.getElem?_append_right (by rw [hf]; omega), hf, e1, Nat.add_sub_cancel_left]
      exact ih k (by simpa using hk)
theorem flat_length {α : Type} (f : α → List Value) (s : Nat) (hf : ∀ x, (f x).length = s) (l : List α) : (l.flatMap f).length = l.length * s := by
  induction l with
  | nil => simp
  | cons e es ih => rw [List.flatMap_cons, List.length_append, hf, ih, List.length_cons, Nat.succ_mul]; omega

theorem Rd.at {α : Type} (f : α → List Value) (s : Nat) (hf : ∀ x, (f x).length = s) {w : World} {B : Nat} {A : Option Addr} {n : Nat} {l : List α} (h : Rd w B s A n (l.flatMap f)) (hs : 0 < s) (k : Nat) (hk : k < n) :
    ∃ b o, ∃ h2 : k < l.length, A = some ⟨b, o, none⟩ ∧ b < B ∧ ∀ j u, j < s → (f l[k])[j]? = some u → w.cell? ⟨b, o + k * s + j, none⟩ = some u := by
  obtain ⟨h1, h2, h3⟩ := h
  obtain ⟨b, o, hA, hb, hc⟩ := h3 (by omega)
  rw [flat_length f s hf] at h1
  have hl : l.length = n := Nat.eq_of_mul_eq_mul_right hs h1
  refine ⟨b, o, by omega, hA, hb, fun j u hj hu => ?_⟩
  rw [Nat.add_assoc]
  exact hc _ _ (by rw [flat_at f s hf l k j (by omega) hj]; exact hu)


def said (x : Fd) : Bool := decide (1 ≤ x.k ∧ x.k ≤ 6)
def lineB (src : ByteArray) (x : Fd) : ByteArray := (((((it (placeL src x.f).1) ++ ⟨#[58]⟩) ++ it (placeL src x.f).2) ++ ⟨#[58, 32]⟩) ++ wordsB x) ++ ⟨#[10]⟩
def lineL (src : ByteArray) (x : Fd) : List UInt8 := if said x then (lineB src x).toList else []
def textL (src : ByteArray) (fs : List Fd) : List UInt8 := fs.flatMap (lineL src)

theorem cons_app (a : UInt8) (l : List UInt8) (b : ByteArray) : ((⟨(a :: l).toArray⟩ : ByteArray) ++ b).toList ≠ [] := by
  rw [toList_append, list_mk]; simp
theorem wordsB_said {x : Fd} (h : said x = true) : ((wordsB x).toList == []) = false := by
  have h' : 1 ≤ x.k ∧ x.k ≤ 6 := of_decide_eq_true h
  have : (wordsB x).toList ≠ [] := by
    unfold wordsB
    repeat' split
    · rw [toList_append, toList_append, toList_append, toList_append, list_mk]; simp
    · rw [toList_append, toList_append, toList_append, list_mk]; simp
    · rw [toList_append, toList_append, list_mk]; simp
    · rw [toList_append, toList_append, list_mk]; simp
    · rw [list_mk]; simp
    · rw [toList_append, toList_append, list_mk]; simp
    · omega
  simpa using this
theorem wordsB_mute {x : Fd} (h : said x = false) : ((wordsB x).toList == []) = true := by
  have h' : ¬ (1 ≤ x.k ∧ x.k ≤ 6) := of_decide_eq_false h
  have : (wordsB x) = ⟨#[]⟩ := by
    unfold wordsB
    rw [if_neg (by omega), if_neg (by omega), if_neg (by omega), if_neg (by omega), if_neg (by omega), if_neg (by omega)]
  rw [this, list_mk]; rfl

theorem lineL_length (src : ByteArray) (x : Fd) (h : x.fine) : (lineL src x).length ≤ 1048722 := by
  have h1 := placeL_le src x.f
  have h2 := it_size (placeL src x.f).1 ⟨by omega, by omega⟩
  have h3 := it_size (placeL src x.f).2 ⟨by omega, by omega⟩
  have h4 := wordsB_size x h
  unfold lineL
  split
  · unfold lineB
    rw [← toList_size]
    simp only [ByteArray.size_append, size_lit, List.length_cons, List.length_nil]
    omega
  · simp
theorem textL_length (src : ByteArray) : ∀ fs : List Fd, (∀ x ∈ fs, x.fine) → (textL src fs).length ≤ fs.length * 1048722
  | [], _ => by simp [textL]
  | x :: fs, h => by
    have ih := textL_length src fs fun y hy => h y (List.mem_cons_of_mem _ hy)
    have h1 := lineL_length src x (h x (by simp))
    unfold textL at ih ⊢
    rw [List.flatMap_cons, List.length_append, List.length_cons, Nat.succ_mul]
    omega
theorem mul_bound (q m : Nat) (h1 : q ≤ m * 1048722) (h2 : m ≤ 1048576) : q ≤ 1099664719872 := by omega
theorem textL_bound (src : ByteArray) (fs : List Fd) (k : Nat) (h : ∀ x ∈ fs, x.fine) (hk : k ≤ 1048576) : (textL src (fs.take k)).length ≤ 1099664719872 :=
  mul_bound _ _ (textL_length src (fs.take k) fun x hx => h x (List.mem_of_mem_take hx)) (by rw [List.length_take]; omega)
theorem textL_snoc (src : ByteArray) (fs : List Fd) (k : Nat) (h : k < fs.length) : textL src (fs.take (k + 1)) = textL src (fs.take k) ++ lineL src fs[k] := by
  unfold textL
  rw [take_snoc fs k h, List.flatMap_append]; simp

def fcells (fs : List Fd) : List Value := fs.flatMap Fd.cells

set_option maxRecDepth 20000 in
set_option maxHeartbeats 4000000 in
theorem text_ref (A : Option Addr) (n c : Nat) (src : ByteArray) (fs : List Fd) (w : World) (hr : Rd w w.heap.size 5 A n (fcells fs)) (hok : ∀ x ∈ fs, x.fine) (hn : n ≤ 1048576) (hsrc : src.size ≤ 1048576) :
    Calls Tryd.prog 6 #[.string src, .slice A n c] w fun e w' => e = .returned (.string ⟨(textL src fs).toArray⟩) ∧ Below w.heap.size w w' := by
  have hl : fs.length = n := by have := hr.1; rw [fcells, flat_length Fd.cells 5 (fun _ => rfl)] at this; omega
  have HR := Lib.hid hr
  have HK := Lib.hid hok
  have HL := Lib.hid hl
  clear hr hok hl
  go_enter Tryd.func6, Tryd.ntmps6
  go_upto_region 3 with (fail)
  generalize hR : w.heap.size = R at *
  have HRR := Lib.hid hR
  clear hR
  go_loopg [5, 6] n (fun gk u5 u6 wr => ∃ (k : Nat) (S : ByteArray), u6 = .int .i64 k ∧ u5 = .string S ∧ k ≤ n ∧ Hid (gk = n - k) ∧ Hid (S.toList = textL src (fs.take k)) ∧ Hid (Below R w wr))
  case atStart => exact ⟨0, ⟨#[]⟩, rfl, rfl, Nat.zero_le _, Lib.hid (by omega), Lib.hid (by rw [list_mk]; simp [textL]), Lib.hid (Below.refl _ _)⟩
  case round =>
    obtain ⟨k, S, rfl, rfl, hk, HG, HS, HB⟩ := hrel
    by_cases hlt : k < n
    · obtain ⟨B, off, hk1, rfl, hB, hc⟩ := (HR.out.below HB.out).at Fd.cells 5 (fun _ => rfl) (by omega) k hlt
      have c0 := hc 0 _ (by omega) rfl
      have c1 := hc 1 _ (by omega) rfl
      have c2 := hc 2 _ (by omega) rfl
      have c3 := hc 3 _ (by omega) rfl
      have c4 := hc 4 _ (by omega) rfl
      rw [Nat.add_zero] at c0
      clear hc
      have hS : S.size ≤ 1099664719872 := by
        rw [toList_size, HS.out]
        exact textL_bound src fs k HK.out (by omega)
      have hx := HK.out fs[k] (List.getElem_mem hk1)
      have HST := Lib.hid (textL_snoc src fs k hk1)
      generalize fs[k] = x at *
      have HX := Lib.hid hx
      have hw := wordsB_size x hx
      have hp := placeL_le src x.f
      have hp1 := it_size (placeL src x.f).1 ⟨by omega, by omega⟩
      have hp2 := it_size (placeL src x.f).2 ⟨by omega, by omega⟩
      have HP := Lib.hid hp
      have kw := words_ref x hx
      have kp := place_ref src x.f hx.1.2.2.2.1 hx.1.2.2.2.2 (by omega)
      have k1 := fun W => dec18_any (placeL src x.f).1 (by omega) (by omega) W
      have k2 := fun W => dec18_any (placeL src x.f).2 (by omega) (by omega) W
      change ∀ W : World, Calls Tryd.prog 25 #[.int .i64 (placeL src x.f).1] W fun e w' => e = .returned (.string (it (placeL src x.f).1)) ∧ Below W.heap.size W w' at k1
      change ∀ W : World, Calls Tryd.prog 25 #[.int .i64 (placeL src x.f).2] W fun e w' => e = .returned (.string (it (placeL src x.f).2)) ∧ Below W.heap.size W w' at k2
      change ∀ W : World, Calls Tryd.prog 23 #[.agg #[.int .i64 x.k, .int .i64 x.c, .int .i64 x.o, .int .i64 x.f, .string x.s]] W _ at kw
      have hll : Hid (lineL src x = if said x then (((((it (placeL src x.f).1) ++ ⟨#[58]⟩) ++ it (placeL src x.f).2) ++ ⟨#[58, 32]⟩) ++ wordsB x ++ ⟨#[10]⟩ : ByteArray).toList else []) := Lib.hid rfl
      clear hx hp
      cases hsd : said x with
      | false =>
        have t1 := wordsB_mute hsd
        have HLL := Lib.hid (by rw [hll.out, hsd] : lineL src x = if false = true then _ else [])
        have HSD := Lib.hid hsd
        clear hsd
        generalize wordsB x = W at *
        go_wp2_with fail
        refine (kw wr).mono ?_
        rintro e w2 ⟨rfl, hb2⟩
        have HB2 := Lib.hid (HB.out.trans (hb2.mono (HRR.out ▸ HB.out.size)))
        clear hb2 kw kp k1 k2
        go_wp2
        go_roundg (n - (k + 1))
        case measure => have := HG.out; omega
        case rel => exact ⟨k + 1, S, by go_num, rfl, by omega, Lib.hid rfl, Lib.hid (by rw [HST.out, HLL.out, HS.out]; simp), HB2⟩
      | true =>
        have t1 := wordsB_said hsd
        have HLL := Lib.hid (by rw [hll.out, hsd] : lineL src x = if true = true then _ else [])
        have HSD := Lib.hid hsd
        clear hsd
        generalize wordsB x = W at *
        generalize it (placeL src x.f).1 = L1 at *
        generalize it (placeL src x.f).2 = L2 at *
        generalize (placeL src x.f).1 = p1 at *
        generalize (placeL src x.f).2 = p2 at *
        go_wp2_with fail
        refine (kw wr).mono ?_
        rintro e w2 ⟨rfl, hb2⟩
        have HB2 := Lib.hid (HB.out.trans (hb2.mono (HRR.out ▸ HB.out.size)))
        have d3 := (hb2.cell (p := ⟨B, off + k * 5 + 3, none⟩) (by show B < _; have := HB.out.size; have := HRR.out; omega)).trans c3
        clear hb2 kw c0 c1 c2 c3 c4
        go_wp2_with fail
        refine (kp w2).mono ?_
        rintro e w3 ⟨rfl, rfl⟩
        clear kp
        go_wp2_with fail
        refine (k1 w3).mono ?_
        rintro e w4 ⟨rfl, hb4⟩
        have HB4 := Lib.hid (HB2.out.trans (hb4.mono (HRR.out ▸ HB2.out.size)))
        clear k1 hb4 d3
        go_wp2_with fail
        refine (k2 w4).mono ?_
        rintro e w5 ⟨rfl, hb5⟩
        have HB5 := Lib.hid (HB4.out.trans (hb5.mono (HRR.out ▸ HB4.out.size)))
        clear k2 hb5
        go_wp2
        go_roundg (n - (k + 1))
        case measure => have := HG.out; omega
        case rel => exact ⟨k + 1, _, by go_num, rfl, by omega, Lib.hid rfl, Lib.hid (by rw [HST.out, HLL.out, ← HS.out, if_pos trivial]; simp only [toList_append, List.append_assoc]), HB5⟩
    · obtain rfl : k = n := by omega
      have HT : Hid (S = ⟨(textL src fs).toArray⟩) := Lib.hid (bytes_eq (by rw [HS.out, List.take_of_length_le (by have := HL.out; omega)]))
      go_wp2
      go_ret
      exact ⟨by rw [← HT.out]; rfl, by rw [HRR.out]; exact HB.out⟩
end Go.Proofs.YtjcgkplphiedjaaDoor
