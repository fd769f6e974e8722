/- A clause with its variables named anew covers, and is covered by, what the clause does. Plain. | A clause put in again: what Look finds, what Trim leaves. Plain. -/
import Derived.Test.YtjcgkplphiedjaaHd
import Derived.Test.YtjcgkplphiedjaaGs
namespace Go.Proofs.Ytjcgkplphiedjaa
open Go.RowKit Go.Sort

def zS : ByteArray := ⟨#[90]⟩
def uS : ByteArray := ⟨#[95]⟩
def T.ren (off : Int) (e : T) : T := ⟨e.k, e.i, if e.k = 4 ∧ e.t ≠ uS then e.t ++ zS else e.t, off⟩
def At.ren (off : Int) (a : At) : At := ⟨a.p, none, 0, 0, off, a.es.map (T.ren off)⟩
def Li.ren (off : Int) (x : Li) : Li := ⟨x.k, x.a.ren off, x.op, x.l.ren off, x.r.ren off, off⟩
def Cl.ren (off : Int) (x : Cl) : Cl := ⟨x.h.ren off, none, 0, 0, x.ls.map (Li.ren off)⟩

theorem list_eq {a b : ByteArray} (h : a.toList = b.toList) : a = b := by
  obtain ⟨d⟩ := a
  obtain ⟨d'⟩ := b
  rw [ByteArray.toList_eq, ByteArray.toList_eq] at h
  have : d = d' := by cases d; cases d'; simpa using h
  rw [this]
theorem zS_list : zS.toList = [90] := by rw [ByteArray.toList_eq]; rfl
theorem uS_list : uS.toList = [95] := by rw [ByteArray.toList_eq]; rfl
theorem addZ_ne (t : ByteArray) : t ++ zS ≠ uS := fun h => by
  have h1 := congrArg ByteArray.toList h
  rw [toList_append, zS_list, uS_list] at h1
  have h2 := congrArg List.getLast? h1
  rw [List.getLast?_append] at h2
  simp at h2
theorem addZ_inj {t t' : ByteArray} (h : t ++ zS = t' ++ zS) : t = t' := by
  have h1 := congrArg ByteArray.toList h
  rw [toList_append, toList_append] at h1
  exact list_eq (List.append_cancel_right h1)
theorem nn_iff (e : T) : e.nn = true ↔ e.k = 4 ∧ e.t = uS := by
  unfold T.nn noName
  rw [Bool.and_eq_true, beq_iff_eq]
  constructor
  · rintro ⟨h1, h2⟩
    exact ⟨h1, list_eq (by rw [uS_list]; simpa using h2)⟩
  · rintro ⟨h1, h2⟩
    exact ⟨h1, by rw [h2, uS_list]; rfl⟩
theorem ren_k (off : Int) (e : T) : (e.ren off).k = e.k := rfl
theorem ren_i (off : Int) (e : T) : (e.ren off).i = e.i := rfl
theorem ren_plain (off : Int) {e : T} (h : e.k ≠ 4) : (e.ren off).t = e.t := by
  unfold T.ren
  rw [if_neg (fun hh => h hh.1)]
theorem ren_nn (off : Int) (e : T) : (e.ren off).nn = e.nn := by
  have key : (e.ren off).nn = true ↔ e.nn = true := by
    rw [nn_iff, nn_iff]
    unfold T.ren
    constructor
    · rintro ⟨h1, h2⟩
      refine ⟨h1, ?_⟩
      by_cases hc : e.k = 4 ∧ e.t ≠ uS
      · rw [if_pos hc] at h2; exact absurd h2 (addZ_ne _)
      · rw [if_neg hc] at h2; exact h2
    · rintro ⟨h1, h2⟩
      refine ⟨h1, ?_⟩
      rw [if_neg (fun hc => hc.2 h2)]; exact h2
  cases h1 : (e.ren off).nn <;> cases h2 : e.nn <;> simp_all

/-- Names anew, among things. -/
def rho (a : Th) : Th := if a.k = 4 ∧ a.t ≠ uS then ⟨a.k, a.i, a.t ++ zS, a.own⟩ else a
theorem rho_v (a : Th) : (rho a).v = a.v := by unfold rho; split <;> rfl
theorem rho_k (a : Th) : (rho a).k = a.k := by unfold rho; split <;> rfl
theorem rho_own (a : Th) : (rho a).own = a.own := by unfold rho; split <;> rfl
theorem rho_plain {a : Th} (h : a.v ≠ true) : rho a = a := by
  unfold rho
  rw [if_neg]
  rintro ⟨h1, _⟩
  exact h (by unfold Th.v; rw [h1]; rfl)
theorem rho_inj {a b : Th} (h : rho a = rho b) : a = b := by
  unfold rho at h
  obtain ⟨k, i, t, o⟩ := a
  obtain ⟨k', i', t', o'⟩ := b
  dsimp only at h
  split at h
  · rename_i h1
    split at h
    · injection h with e1 e2 e3 e4
      rw [e1, e2, addZ_inj e3, e4]
    · rename_i h2
      injection h with e1 e2 e3 e4
      exact absurd ⟨e1 ▸ h1.1, fun e => addZ_ne t (e3.trans e)⟩ h2
  · rename_i h1
    split at h
    · rename_i h2
      injection h with e1 e2 e3 e4
      exact absurd ⟨e1.symm ▸ h2.1, fun e => addZ_ne t' (e3.symm.trans e)⟩ h1
    · exact h
theorem rho_back : ∃ σ : Th → Th, ∀ a, σ (rho a) = a := by
  classical
  refine ⟨fun b => if h : ∃ a, rho a = b then Classical.choose h else b, fun a => ?_⟩
  have h : ∃ b, rho b = rho a := ⟨a, rfl⟩
  show (if h : ∃ b, rho b = rho a then Classical.choose h else rho a) = a
  rw [dif_pos h]
  exact rho_inj (Classical.choose_spec h)
theorem ren_th (off : Int) (e : T) (n : Nat) : (e.ren off).th n = rho (e.th n) := by
  unfold T.ren T.th rho
  by_cases h : e.k = 4 ∧ e.t ≠ uS
  · simp only [if_pos h]
  · simp only [if_neg h]
theorem cnt_ren (off : Int) : ∀ ts : List T, cnt (ts.map (T.ren off)) = cnt ts
  | [] => rfl
  | t :: ts => by rw [List.map_cons, cnt, cnt, ren_nn, cnt_ren off ts]
theorem num_ren (off : Int) : ∀ (n : Nat) (ts : List T), num n (ts.map (T.ren off)) = (num n ts).map rho
  | _, [] => rfl
  | n, t :: ts => by
    rw [List.map_cons, num, num, ren_nn]
    split
    · rw [List.map_cons, num_ren off, ren_th]
    · rw [List.map_cons, num_ren off, ren_th]
theorem terms_ren (off : Int) (l : Li) : (l.ren off).terms = l.terms.map (T.ren off) := by
  unfold Li.terms Li.ren At.ren
  dsimp only
  split <;> rfl
def Pt.ren (p : Pt) : Pt := ⟨p.kind, p.pred, p.op, p.ths.map rho⟩
theorem pairL_ren (off : Int) : ∀ (n : Nat) (ls : List Li), (pairL n (ls.map (Li.ren off))).map mkPt = ((pairL n ls).map mkPt).map Pt.ren
  | _, [] => rfl
  | n, l :: ls => by
    simp only [List.map_cons, pairL]
    rw [terms_ren, num_ren, cnt_ren, pairL_ren off]
    congr 1
    unfold mkPt Li.ren At.ren Pt.ren
    dsimp only
    split <;> rfl
theorem bodyPts_ren (off : Int) (c : Cl) : bodyPts (c.ren off) = (bodyPts c).map Pt.ren := by
  unfold bodyPts Cl.ren At.ren
  dsimp only
  rw [cnt_ren, pairL_ren]
theorem headPt_ren (off : Int) (c : Cl) : headPt (c.ren off) = (headPt c).ren := by
  unfold headPt Cl.ren At.ren Pt.ren
  dsimp only
  rw [num_ren]

theorem FitL_left (s : Th → Th) : ∀ xs ys : List Th, FitL s (xs.map rho) ys ↔ FitL (fun a => s (rho a)) xs ys
  | [], _ => by simp [FitL]
  | _ :: _, [] => by simp [FitL]
  | x :: xs, y :: ys => by
    simp only [List.map_cons, FitL]
    rw [FitL_left s xs ys, rho_v]
    by_cases h : x.v = true
    · simp only [if_pos h]
    · simp only [if_neg h, rho_plain h]
theorem FitL_right {s : Th → Th} : ∀ xs ys : List Th, FitL s xs ys → FitL (fun a => rho (s a)) xs (ys.map rho)
  | [], _, _ => by simp [FitL]
  | _ :: _, [], _ => by simp [FitL]
  | x :: xs, y :: ys, h => by
    simp only [List.map_cons, FitL] at h ⊢
    refine ⟨?_, FitL_right xs ys h.2⟩
    by_cases hx : x.v = true
    · have h1 := h.1
      rw [if_pos hx] at h1 ⊢
      rw [h1]
    · have h1 := h.1
      rw [if_neg hx] at h1 ⊢
      subst h1
      exact (rho_plain hx).symm
theorem FitL_right_back {s σ : Th → Th} (hσ : ∀ a, σ (rho a) = a) : ∀ xs ys : List Th, FitL s xs (ys.map rho) → FitL (fun a => σ (s a)) xs ys
  | [], _, _ => by simp [FitL]
  | _ :: _, [], _ => by simp [FitL]
  | x :: xs, y :: ys, h => by
    simp only [List.map_cons, FitL] at h ⊢
    refine ⟨?_, FitL_right_back hσ xs ys h.2⟩
    by_cases hx : x.v = true
    · have h1 := h.1
      rw [if_pos hx] at h1 ⊢
      rw [h1, hσ]
    · have h1 := h.1
      rw [if_neg hx] at h1 ⊢
      have hy : y.v ≠ true := by rw [← rho_v y, ← h1]; exact hx
      rw [h1, rho_plain hy]
theorem meets_left {a b : Pt} : a.ren.meets b ↔ a.meets b := by unfold Pt.meets Pt.ren; rw [List.length_map]
theorem meets_right {a b : Pt} : a.meets b.ren ↔ a.meets b := by unfold Pt.meets Pt.ren; rw [List.length_map]
theorem Fit_left {s : Th → Th} {a b : Pt} : Fit s a.ren b ↔ Fit (fun x => s (rho x)) a b := by
  unfold Fit
  rw [meets_left]
  exact and_congr_right fun _ => FitL_left s a.ths b.ths
theorem Fit_right {s : Th → Th} {a b : Pt} (h : Fit s a b) : Fit (fun x => rho (s x)) a b.ren := ⟨meets_right.2 h.1, FitL_right _ _ h.2⟩
theorem Fit_right_back {s σ : Th → Th} (hσ : ∀ a, σ (rho a) = a) {a b : Pt} (h : Fit s a b.ren) : Fit (fun x => σ (s x)) a b := ⟨meets_right.1 h.1, FitL_right_back hσ _ _ h.2⟩

theorem coversR_left (x0 y0 : Pt) (xs ys : List Pt) : coversR x0.ren y0 (xs.map Pt.ren) ys = coversR x0 y0 xs ys := by
  obtain ⟨σ, hσ⟩ := rho_back
  rw [Bool.eq_iff_iff, coversR_iff, coversR_iff]
  constructor
  · rintro ⟨s, h1, h2⟩
    refine ⟨fun a => s (rho a), Fit_left.1 h1, fun p hp => ?_⟩
    obtain ⟨q, hq, h⟩ := h2 p.ren (List.mem_map_of_mem hp)
    exact ⟨q, hq, Fit_left.1 h⟩
  · rintro ⟨s, h1, h2⟩
    refine ⟨fun a => s (σ a), Fit_left.2 (show Fit (fun x => s (σ (rho x))) _ _ by simp only [hσ]; exact h1), fun p hp => ?_⟩
    obtain ⟨p', hp', rfl⟩ := List.mem_map.1 hp
    obtain ⟨q, hq, h⟩ := h2 p' hp'
    exact ⟨q, hq, Fit_left.2 (show Fit (fun x => s (σ (rho x))) _ _ by simp only [hσ]; exact h)⟩
theorem coversR_right (x0 y0 : Pt) (xs ys : List Pt) : coversR x0 y0.ren xs (ys.map Pt.ren) = coversR x0 y0 xs ys := by
  obtain ⟨σ, hσ⟩ := rho_back
  rw [Bool.eq_iff_iff, coversR_iff, coversR_iff]
  constructor
  · rintro ⟨s, h1, h2⟩
    refine ⟨fun a => σ (s a), Fit_right_back hσ h1, fun p hp => ?_⟩
    obtain ⟨q, hq, h⟩ := h2 p hp
    obtain ⟨q', hq', rfl⟩ := List.mem_map.1 hq
    exact ⟨q', hq', Fit_right_back hσ h⟩
  · rintro ⟨s, h1, h2⟩
    refine ⟨fun a => rho (s a), Fit_right h1, fun p hp => ?_⟩
    obtain ⟨q, hq, h⟩ := h2 p hp
    exact ⟨q.ren, List.mem_map_of_mem hq, Fit_right h⟩
theorem len_ren (off : Int) (c : Cl) : (c.ren off).ls.length = c.ls.length := List.length_map ..
theorem covers_left {c : Cl} {off : Int} (h1 : clauseE c = 0) (h2 : clauseE (c.ren off) = 0) (x : Cl) : coversD (c.ren off) x = coversD c x := by
  unfold coversD
  rw [headPt_ren, bodyPts_ren, coversR_left, len_ren]
  simp only [h1, h2]
theorem covers_right {c : Cl} {off : Int} (h1 : clauseE c = 0) (h2 : clauseE (c.ren off) = 0) (x : Cl) : coversD x (c.ren off) = coversD x c := by
  unfold coversD
  rw [headPt_ren, bodyPts_ren, coversR_right]
  simp only [h1, h2]
theorem AllFit_ren {σ : Th → Th} (hσ : ∀ a, σ (rho a) = a) : ∀ xs : List Pt, AllFit σ (xs.map Pt.ren) xs ∧ AllFit rho xs (xs.map Pt.ren)
  | [] => ⟨trivial, trivial⟩
  | x :: xs => by
    have ih := AllFit_ren hσ xs
    have hl : ∀ ys : List Th, FitL (fun a => σ (rho a)) ys ys ∧ FitL rho ys (ys.map rho) := by
      intro ys
      induction ys with
      | nil => exact ⟨trivial, trivial⟩
      | cons y ys ihy =>
        refine ⟨⟨?_, ihy.1⟩, ⟨?_, ihy.2⟩⟩
        · show (if y.v = true then σ (rho y) else y) = y
          rw [hσ]; simp
        · by_cases hy : y.v = true
          · rw [if_pos hy]
          · rw [if_neg hy, rho_plain hy]
    refine ⟨⟨⟨?_, (FitL_left σ x.ths x.ths).2 (hl x.ths).1⟩, ih.1⟩, ⟨⟨?_, (hl x.ths).2⟩, ih.2⟩⟩
    · exact ⟨rfl, rfl, rfl, List.length_map ..⟩
    · exact ⟨rfl, rfl, rfl, (List.length_map ..).symm⟩
theorem again_ren (off : Int) (c : Cl) : againR (c.ren off) c = true := by
  obtain ⟨σ, hσ⟩ := rho_back
  rw [againR_iff]
  refine ⟨len_ren off c, σ, rho, ?_, ?_, ?_⟩
  · rw [headPt_ren, bodyPts_ren]
    exact (AllFit_ren hσ (headPt c :: bodyPts c)).1
  · rw [headPt_ren, bodyPts_ren]
    exact (AllFit_ren hσ (headPt c :: bodyPts c)).2
  · rintro x hx ⟨p, hp, hxp⟩
    rw [headPt_ren, bodyPts_ren, ← List.map_cons] at hp
    obtain ⟨q, _, rfl⟩ := List.mem_map.1 hp
    obtain ⟨y, _, rfl⟩ := List.mem_map.1 hxp
    unfold namedB
    dsimp only
    rw [hσ, rho_own]
    have hk : y.k = 4 := by
      rw [rho_v] at hx
      unfold Th.v at hx
      exact of_decide_eq_true hx
    rw [hk]
    simp

/- What a literal says by itself, and beside others. -/
theorem likeT_ren (off : Int) (a b : T) : likeT (a.ren off) (b.ren off) = likeT a b := by
  rw [Bool.eq_iff_iff, likeT_iff, likeT_iff]
  show a.k = b.k ∧ a.i = b.i ∧ _ ↔ _
  refine and_congr_right fun hk => and_congr_right fun _ => ?_
  unfold T.ren
  dsimp only
  rw [← hk]
  by_cases h : a.k = 4
  · by_cases ha : a.t = uS <;> by_cases hb : b.t = uS
    · rw [if_neg (fun hh => hh.2 ha), if_neg (fun hh => hh.2 hb)]
    · rw [if_neg (fun hh => hh.2 ha), if_pos ⟨h, hb⟩]
      exact ⟨fun e => absurd (e.symm.trans ha) (addZ_ne _), fun e => absurd (e.symm.trans ha) hb⟩
    · rw [if_pos ⟨h, ha⟩, if_neg (fun hh => hh.2 hb)]
      exact ⟨fun e => absurd (e.trans hb) (addZ_ne _), fun e => absurd (e.trans hb) ha⟩
    · rw [if_pos ⟨h, ha⟩, if_pos ⟨h, hb⟩]
      exact ⟨addZ_inj, fun e => by rw [e]⟩
  · rw [if_neg (fun hh => h hh.1), if_neg (fun hh => h hh.1)]
theorem sameT_ren (off : Int) (a b : T) : sameT (a.ren off) (b.ren off) = sameT a b := by unfold sameT; rw [likeT_ren, ren_nn]
theorem eqTs_ren (off : Int) : ∀ X Y : List T, eqTs (X.map (T.ren off)) (Y.map (T.ren off)) = eqTs X Y
  | [], [] => rfl
  | [], _ :: _ => rfl
  | _ :: _, [] => rfl
  | a :: X, b :: Y => by
    simp only [List.map_cons, eqTs]
    rw [sameT_ren, eqTs_ren off X Y]
theorem meetsB_ren (off : Int) (m l : Li) : meetsB (m.ren off) (l.ren off) = meetsB m l := by
  unfold meetsB Li.ren At.ren
  dsimp only
  rw [eqTs_ren]
theorem refB_ren (off : Int) (ls : List Li) (l : Li) : refB (ls.map (Li.ren off)) (l.ren off) = refB ls l := by
  unfold refB
  have e : (ls.map (Li.ren off)).any (fun m => meetsB m (l.ren off)) = ls.any fun m => meetsB m l := by
    rw [List.any_map]
    congr 1
    funext m
    exact meetsB_ren off m l
  rw [e]
  rfl
theorem ren_us (off : Int) {e : T} (h : e.k = 4) : (e.ren off).t = uS ↔ e.t = uS := by
  have h1 := nn_iff (e.ren off)
  have h2 := nn_iff e
  rw [ren_nn] at h1
  constructor
  · intro h3; exact (h2.1 (h1.2 ⟨h, h3⟩)).2
  · intro h3; exact (h1.1 (h2.2 ⟨h, h3⟩)).2
theorem us_beq (t : ByteArray) : (t.toList == [95]) = decide (t = uS) := by rw [← uS_list]; exact str_beq t uS
theorem sideEq_ren (off : Int) (l r : T) : sideEq (l.ren off) (r.ren off) = sideEq l r := by
  unfold sideEq
  rw [str_beq, str_beq, us_beq, us_beq]
  show (decide (l.k = 4 ∧ r.k = 4) && _) = _
  by_cases h : l.k = 4 ∧ r.k = 4
  · have e1 : ((l.ren off).t = (r.ren off).t) ↔ l.t = r.t := by
      unfold T.ren
      dsimp only
      by_cases ha : l.t = uS <;> by_cases hb : r.t = uS
      · rw [if_neg (fun hh => hh.2 ha), if_neg (fun hh => hh.2 hb)]
      · rw [if_neg (fun hh => hh.2 ha), if_pos ⟨h.2, hb⟩]
        exact ⟨fun e => absurd (e.symm.trans ha) (addZ_ne _), fun e => absurd (e.symm.trans ha) hb⟩
      · rw [if_pos ⟨h.1, ha⟩, if_neg (fun hh => hh.2 hb)]
        exact ⟨fun e => absurd (e.trans hb) (addZ_ne _), fun e => absurd (e.trans hb) ha⟩
      · rw [if_pos ⟨h.1, ha⟩, if_pos ⟨h.2, hb⟩]
        exact ⟨addZ_inj, fun e => by rw [e]⟩
    have e2 := ren_us off h.1
    simp only [e1, e2]
  · simp only [h, decide_false, Bool.false_and]
theorem verdB_ren (off : Int) (x : Li) : verdB (x.ren off) = verdB x := by
  unfold verdB
  have e1 : sideEq (x.ren off).l (x.ren off).r = sideEq x.l x.r := sideEq_ren off x.l x.r
  have e2 : sideFix (x.ren off).l (x.ren off).r = sideFix x.l x.r := rfl
  rw [e1, e2]
  by_cases h : sideFix x.l x.r = true
  · have hk := of_decide_eq_true h
    have el : (x.ren off).l.t = x.l.t := ren_plain off hk.1
    have er : (x.ren off).r.t = x.r.t := ren_plain off hk.2
    rw [el, er]
    rfl
  · simp only [if_neg h]
    rfl
theorem idleB_ren (off : Int) (x : Li) : idleB (x.ren off) = idleB x := by unfold idleB; rw [verdB_ren]
theorem voidB_ren (off : Int) (x : Li) : voidB (x.ren off) = voidB x := by unfold voidB; rw [verdB_ren]
theorem idleLs_ren (off : Int) (ls : List Li) : idleLs (ls.map (Li.ren off)) = (idleLs ls).map (Li.ren off) := by
  unfold idleLs
  rw [List.filter_map]
  congr 2
  funext l
  show (!idleB (l.ren off)) = !idleB l
  rw [idleB_ren]
theorem cleanC_ren (off : Int) (c : Cl) : cleanC (c.ren off) = (cleanC c).ren off := by
  unfold cleanC Cl.ren
  dsimp only
  rw [idleLs_ren]
theorem faultB_ren (off : Int) (ls : List Li) (l : Li) : faultB (ls.map (Li.ren off)) (l.ren off) = faultB ls l := by
  unfold faultB
  rw [voidB_ren, refB_ren]
theorem atO_ren (off : Int) (c : Cl) : atO (c.ren off) = atO c := by
  unfold atO
  show firstI (fun _ l => faultB (c.ls.map (Li.ren off)) l) 0 (c.ls.map (Li.ren off)) = _
  exact firstI_map (fun _ l => faultB_ren off c.ls l) c.ls 0
theorem freeB_ren (off : Int) (c : Cl) : freeB (c.ren off) = freeB c := by unfold freeB; rw [atO_ren]
end Go.Proofs.Ytjcgkplphiedjaa

namespace Go.Proofs.Ytjcgkplphiedjaa
open Go.RowKit Go.Sort

theorem firstI_append {α : Type} (f : Nat → α → Bool) : ∀ (l : List α) (z : α) (k : Nat), firstI f k (l ++ [z]) = match firstI f k l with
    | some m => some m
    | none => if f (k + l.length) z = true then some (k + l.length) else none
  | [], z, k => by simp [firstI]
  | a :: l, z, k => by
    rw [List.cons_append, firstI, firstI]
    by_cases h : f k a = true
    · rw [if_pos h, if_pos h]
    · rw [if_neg h, if_neg h, firstI_append f l z (k + 1)]
      rw [show k + 1 + l.length = k + (a :: l).length by simp only [List.length_cons]; omega]
theorem firstI_none_at {α : Type} {f : Nat → α → Bool} : ∀ {l : List α} {k : Nat}, firstI f k l = none → ∀ j, (h : j < l.length) → f (k + j) l[j] = false
  | [], _, _, _, h => absurd h (Nat.not_lt_zero _)
  | a :: l, k, hn, j, h => by
    unfold firstI at hn
    cases ha : f k a with
    | true => rw [if_pos ha] at hn; cases hn
    | false =>
      rw [if_neg (by simp [ha])] at hn
      cases j with
      | zero => exact ha
      | succ j =>
        have := firstI_none_at hn j (by simpa using h)
        rw [show k + (j + 1) = k + 1 + j by omega]
        simpa using this
theorem firstI_le {α : Type} {f : Nat → α → Bool} : ∀ {l : List α} {k : Nat} (j : Nat) (h : j < l.length), f (k + j) l[j] = true → ∃ m, firstI f k l = some m ∧ m ≤ k + j
  | a :: l, k, j, h, hf => by
    unfold firstI
    by_cases ha : f k a = true
    · rw [if_pos ha]; exact ⟨k, rfl, by omega⟩
    · rw [if_neg ha]
      cases j with
      | zero => exact absurd hf ha
      | succ j =>
        obtain ⟨m, h1, h2⟩ := firstI_le (f := f) (k := k + 1) j (by simpa using h) (by rw [show k + 1 + j = k + (j + 1) by omega]; simpa using hf)
        exact ⟨m, h1, by omega⟩

/-- Clause z is one of the clauses anew, as far as covering goes. -/
structure Twin (z c : Cl) : Prop where
  l : ∀ x, coversD z x = coversD c x
  r : ∀ x, coversD x z = coversD x c
theorem Twin.ren {c : Cl} {off : Int} (h1 : clauseE c = 0) (h2 : clauseE (c.ren off) = 0) : Twin (c.ren off) c := ⟨covers_left h1 h2, covers_right h1 h2⟩

theorem take_append_le {α : Type} (l m : List α) (i : Nat) (h : i ≤ l.length) : (l ++ m).take i = l.take i := by
  rw [List.take_append, show i - l.length = 0 by omega, List.take_zero, List.append_nil]
theorem twiceO_snoc (cs : List Cl) (z : Cl) (i : Nat) (x : Cl) (h : i ≤ cs.length) : twiceO (cs ++ [z]) i x = twiceO cs i x := by
  unfold twiceO
  rw [take_append_le cs [z] i h]
theorem coveredO_snoc {cs : List Cl} {z c : Cl} {k : Nat} (hk : cs[k]? = some c) (ht : Twin z c) {i : Nat} {x : Cl} (hi : cs[i]? = some x) : coveredO (cs ++ [z]) i x = coveredO cs i x := by
  have hil : i < cs.length := by
    rcases Nat.lt_or_ge i cs.length with h | h
    · exact h
    · rw [List.getElem?_eq_none h] at hi; cases hi
  have hkl : k < cs.length := by
    rcases Nat.lt_or_ge k cs.length with h | h
    · exact h
    · rw [List.getElem?_eq_none h] at hk; cases hk
  unfold coveredO
  rw [firstI_append]
  cases hf : firstI (covB i x) 0 cs with
  | some m => rfl
  | none =>
    dsimp only
    rw [if_neg]
    intro hc
    unfold covB at hc
    rw [ht.l, ht.r] at hc
    simp only [Nat.zero_add, Bool.and_eq_true, decide_eq_true_eq, Bool.or_eq_true, Bool.not_eq_true'] at hc
    obtain ⟨_, h1, h2o⟩ := hc
    have h2 : coversD x c = false := by
      rcases h2o with h2 | h2
      · omega
      · exact h2
    have hne : k ≠ i := fun e => by
      subst e
      rw [hk] at hi
      injection hi with hi
      subst hi
      exact Bool.noConfusion (h1.symm.trans h2 : true = false)
    have h3 := firstI_none_at hf k hkl
    rw [List.getElem?_eq_getElem hkl] at hk
    injection hk with hk
    rw [hk] at h3
    unfold covB at h3
    rw [h1, h2] at h3
    simp [hne] at h3
theorem othersF_snoc {cs : List Cl} {z c : Cl} {k : Nat} (hk : cs[k]? = some c) (ht : Twin z c) {i : Nat} {x : Cl} (hi : cs[i]? = some x) : othersF (cs ++ [z]) i x = othersF cs i x := by
  have hil : i ≤ cs.length := by
    rcases Nat.lt_or_ge i cs.length with h | h
    · omega
    · rw [List.getElem?_eq_none h] at hi; cases hi
  unfold othersF
  rw [twiceO_snoc cs z i x hil, coveredO_snoc hk ht hi]
theorem keptB_snoc {cs : List Cl} {z c : Cl} {k : Nat} (hk : cs[k]? = some c) (ht : Twin z c) {i : Nat} {x : Cl} (hi : cs[i]? = some x) : keptB (cs ++ [z]) i x = keptB cs i x := by
  have hil : i ≤ cs.length := by
    rcases Nat.lt_or_ge i cs.length with h | h
    · omega
    · rw [List.getElem?_eq_none h] at hi; cases hi
  unfold keptB
  rw [twiceO_snoc cs z i x hil, coveredO_snoc hk ht hi]
theorem named_snoc {cs : List Cl} {z c : Cl} {k : Nat} (hk : cs[k]? = some c) (ha : ∀ s, z.ls.any (askB s) = c.ls.any (askB s)) (s : ByteArray) : namedB' (cs ++ [z]) s = namedB' cs s := by
  unfold namedB'
  rw [List.any_append, List.any_cons, List.any_nil, Bool.or_false, ha]
  cases hc : c.ls.any (askB s) with
  | false => simp
  | true =>
    have : (cs.any fun y => y.ls.any (askB s)) = true := List.any_eq_true.2 ⟨c, List.mem_of_getElem? hk, hc⟩
    rw [this]; rfl
theorem findF_snoc {cs : List Cl} {z c : Cl} {k : Nat} (hk : cs[k]? = some c) (ht : Twin z c) (ha : ∀ s, z.ls.any (askB s) = c.ls.any (askB s)) {i : Nat} {x : Cl} (hi : cs[i]? = some x) : findF (cs ++ [z]) i x = findF cs i x := by
  have hil : i ≤ cs.length := by
    rcases Nat.lt_or_ge i cs.length with h | h
    · omega
    · rw [List.getElem?_eq_none h] at hi; cases hi
  unfold findF
  rw [othersF_snoc hk ht hi]
  have e : unusedF (cs ++ [z]) i x = unusedF cs i x := by
    unfold unusedF unusedB toldB
    rw [named_snoc hk ha, take_append_le cs [z] i hil]
  rw [e]
theorem lookN_snoc {cs : List Cl} {z c : Cl} {k : Nat} (hk : cs[k]? = some c) (ht : Twin z c) (ha : ∀ s, z.ls.any (askB s) = c.ls.any (askB s)) : ∀ i, i ≤ cs.length → lookN (cs ++ [z]) i = lookN cs i
  | 0, _ => rfl
  | i + 1, h => by
    rw [lookN, lookN, lookN_snoc hk ht ha i (by omega)]
    have hi : cs[i]? = some cs[i] := List.getElem?_eq_getElem (by omega)
    rw [List.getElem?_append_left (by omega), hi]
    simp only [Option.map_some, Option.getD_some]
    rw [findF_snoc hk ht ha hi]
theorem clause_of_findF {cs : List Cl} {i : Nat} {x : Cl} : ∀ f ∈ findF cs i x, f.c = i := by
  intro f hf
  unfold findF at hf
  simp only [List.mem_append] at hf
  rcases hf with h | h | h | h | h
  · unfold othersF at h
    split at h
    · rw [List.mem_singleton.1 h]
    · split at h
      · rw [List.mem_singleton.1 h]
      · cases h
  · unfold neverF at h
    split at h
    · rw [List.mem_singleton.1 h]
    · cases h
  · unfold singlesF singlesL at h
    obtain ⟨t, _, rfl⟩ := List.mem_map.1 h
    rfl
  · unfold idlesF idlesL at h
    obtain ⟨t, _, rfl⟩ := List.mem_map.1 h
    rfl
  · unfold unusedF at h
    split at h
    · rw [List.mem_singleton.1 h]
    · cases h
theorem wellE_of {cs : List Cl} (hl : cs.length ≤ 512) (h : ∀ x ∈ cs, clauseE x = 0) : wellE cs = 0 := by
  unfold wellE
  rw [if_neg (by omega)]
  exact firstE_zero_of h
/-- What Look finds behind a clause that is put in again. -/
theorem look_again {cs : List Cl} {z c : Cl} {k : Nat} (hl : cs.length ≤ 511) (he : ∀ x ∈ cs, clauseE x = 0) (hz : clauseE z = 0) (hk : cs[k]? = some c) (ht : Twin z c) (ha : ∀ s, z.ls.any (askB s) = c.ls.any (askB s)) (hg : againR z c = true) :
    ∃ j rest, lookF (cs ++ [z]) = lookF cs ++ (⟨1, cs.length, j, z.h.o, noS⟩ : Fd) :: rest ∧ 0 ≤ j ∧ j ≤ k ∧ ∀ f ∈ rest, f.c = cs.length := by
  have hkl : k < cs.length := by
    rcases Nat.lt_or_ge k cs.length with h | h
    · exact h
    · rw [List.getElem?_eq_none h] at hk; cases hk
  have hw : wellE cs = 0 := wellE_of (by omega) he
  have hw2 : wellE (cs ++ [z]) = 0 := wellE_of (by simp; omega) fun x hx => by
    rcases List.mem_append.1 hx with hx | hx
    · exact he x hx
    · rw [List.mem_singleton.1 hx]; exact hz
  have htw : ∃ m, twiceO (cs ++ [z]) cs.length z = some m ∧ m ≤ k := by
    rw [twiceO_snoc cs z _ z (Nat.le_refl _)]
    unfold twiceO
    rw [List.take_of_length_le (Nat.le_refl _)]
    obtain ⟨m, h1, h2⟩ := firstI_le (f := fun _ y => againR z y) (l := cs) (k := 0) k hkl (by
      rw [List.getElem?_eq_getElem hkl] at hk
      injection hk with hk
      rw [hk]; exact hg)
    exact ⟨m, h1, by omega⟩
  obtain ⟨m, hm, hmk⟩ := htw
  have ho : othersF (cs ++ [z]) cs.length z = [⟨1, cs.length, m, z.h.o, noS⟩] := by unfold othersF; rw [hm]
  refine ⟨m, neverF cs.length z ++ (singlesF cs.length z ++ (idlesF cs.length z ++ unusedF (cs ++ [z]) cs.length z)), ?_, by omega, by omega, fun f hf => ?_⟩
  · unfold lookF
    rw [if_pos hw, if_pos hw2, show (cs ++ [z]).length = cs.length + 1 by simp, lookN, lookN_snoc hk ht ha _ (Nat.le_refl _), List.getElem?_append_right (Nat.le_refl _), Nat.sub_self]
    simp only [List.getElem?_cons_zero, Option.map_some, Option.getD_some]
    unfold findF
    rw [ho]
    rfl
  · exact clause_of_findF (cs := cs ++ [z]) (x := z) f (by unfold findF; exact List.mem_append_right _ hf)

theorem trimN_snoc {L : List Cl} {z c : Cl} {k : Nat} (hk : L[k]? = some c) (ht : Twin z c) : ∀ i, i ≤ L.length → trimN (L ++ [z]) i = trimN L i
  | 0, _ => rfl
  | i + 1, h => by
    rw [trimN, trimN, trimN_snoc hk ht i (by omega)]
    have hi : L[i]? = some L[i] := List.getElem?_eq_getElem (by omega)
    unfold keptOne
    rw [List.getElem?_append_left (by omega), hi]
    dsimp only
    rw [keptB_snoc hk ht hi]
theorem trim_again {cs : List Cl} {c : Cl} {off : Int} {k : Nat} (hl : cs.length ≤ 511) (he : ∀ x ∈ cs, clauseE x = 0) (hz : clauseE (c.ren off) = 0) (hk : cs[k]? = some c) : trimF (cs ++ [c.ren off]) = trimF cs := by
  have hc : clauseE c = 0 := he c (List.mem_of_getElem? hk)
  have hw : wellE cs = 0 := wellE_of (by omega) he
  have hw2 : wellE (cs ++ [c.ren off]) = 0 := wellE_of (by simp; omega) fun x hx => by
    rcases List.mem_append.1 hx with hx | hx
    · exact he x hx
    · rw [List.mem_singleton.1 hx]; exact hz
  unfold trimF
  rw [if_pos hw, if_pos hw2]
  have hL : trimL (cs ++ [c.ren off]) = trimL cs ++ (if freeB (cleanC c) = true then [(cleanC c).ren off] else []) := by
    unfold trimL
    rw [List.map_append, List.filter_append, List.map_singleton, cleanC_ren]
    congr 1
    rw [List.filter_cons, freeB_ren]
    rfl
  rw [hL]
  by_cases hf : freeB (cleanC c) = true
  · rw [if_pos hf]
    have hmem : cleanC c ∈ trimL cs := List.mem_filter.2 ⟨List.mem_map_of_mem (List.mem_of_getElem? hk), hf⟩
    obtain ⟨q, hq, hqe⟩ := List.mem_iff_getElem.1 hmem
    have hk' : (trimL cs)[q]? = some (cleanC c) := by rw [List.getElem?_eq_getElem hq, hqe]
    have hcz : clauseE ((cleanC c).ren off) = 0 := by rw [← cleanC_ren]; exact cleanC_well hz
    have ht : Twin ((cleanC c).ren off) (cleanC c) := Twin.ren (cleanC_well hc) hcz
    rw [show (trimL cs ++ [(cleanC c).ren off]).length = (trimL cs).length + 1 by simp, trimN, trimN_snoc hk' ht _ (Nat.le_refl _)]
    have hone : keptOne (trimL cs ++ [(cleanC c).ren off]) (trimL cs).length = [] := by
      unfold keptOne
      rw [List.getElem?_append_right (Nat.le_refl _), Nat.sub_self]
      simp only [List.getElem?_cons_zero]
      rw [if_neg]
      unfold keptB
      rw [twiceO_snoc _ _ _ _ (Nat.le_refl _)]
      unfold twiceO
      rw [List.take_of_length_le (Nat.le_refl _)]
      obtain ⟨m, h1, _⟩ := firstI_le (f := fun _ y => againR ((cleanC c).ren off) y) (l := trimL cs) (k := 0) q hq (by rw [hqe]; exact again_ren off (cleanC c))
      rw [h1]
      simp
    rw [hone, List.append_nil]
  · rw [if_neg hf, List.append_nil]

/-- A fact without terms. -/
def bareC (p : ByteArray) (x : Cl) : Prop := x.h.p = p ∧ x.h.es = [] ∧ x.ls = []
theorem bare_covers {p : ByteArray} {x y : Cl} (hx : bareC p x) (hy : bareC p y) (ex : clauseE x = 0) (ey : clauseE y = 0) : coversD x y = true := by
  unfold coversD
  rw [if_pos ⟨ex, ey, by rw [hx.2.2]; simp⟩, coversR_iff]
  have h1 : bodyPts x = [] := by unfold bodyPts; rw [hx.2.2]; rfl
  rw [h1]
  refine ⟨fun a => a, ⟨⟨rfl, ?_, rfl, ?_⟩, ?_⟩, by simp⟩
  · show x.h.p = y.h.p
    rw [hx.1, hy.1]
  · show (num 0 x.h.es).length = (num 0 y.h.es).length
    rw [hx.2.1, hy.2.1]
  · show FitL _ (num 0 x.h.es) (num 0 y.h.es)
    rw [hx.2.1, hy.2.1]; trivial
theorem covers_bare {p : ByteArray} {x y : Cl} (hy : bareC p y) (h : coversD x y = true) : bareC p x := by
  unfold coversD at h
  split at h
  · rw [coversR_iff] at h
    obtain ⟨s, ⟨⟨_, h1, _, h2⟩, _⟩, h3⟩ := h
    have hb : bodyPts y = [] := by unfold bodyPts; rw [hy.2.2]; rfl
    refine ⟨h1.trans hy.1, ?_, ?_⟩
    · have h4 : (num 0 x.h.es).length = (num 0 y.h.es).length := h2
      rw [num_length, num_length, hy.2.1] at h4
      exact List.length_eq_zero_iff.1 h4
    · cases hx : x.ls with
      | nil => rfl
      | cons l ls =>
        have hm : mkPt (l, num (cnt x.h.es) l.terms) ∈ bodyPts x := by
          unfold bodyPts
          rw [hx, pairL, List.map_cons]
          exact List.mem_cons_self ..
        obtain ⟨q, hq, _⟩ := h3 _ hm
        rw [hb] at hq; cases hq
  · cases h
theorem again_bare {p : ByteArray} {x y : Cl} (hx : bareC p x) (h : againR x y = true) : bareC p y := by
  rw [againR_iff] at h
  obtain ⟨h1, s, u, ⟨⟨⟨_, h2, _, h3⟩, _⟩, _⟩, _⟩ := h
  refine ⟨h2.symm.trans hx.1, ?_, ?_⟩
  · have h4 : (num 0 x.h.es).length = (num 0 y.h.es).length := h3
    rw [num_length, num_length, hx.2.1] at h4
    exact List.length_eq_zero_iff.1 h4.symm
  · rw [hx.2.2] at h1
    exact List.length_eq_zero_iff.1 h1.symm
theorem least_of {p : Nat → Prop} {n : Nat} (h : p n) : ∃ m, p m ∧ m ≤ n ∧ ∀ j, j < m → ¬ p j := by
  classical
  induction n using Nat.strongRecOn with
  | _ n ih =>
    by_cases hex : ∃ j, j < n ∧ p j
    · obtain ⟨j, hj, hp⟩ := hex
      obtain ⟨m, h1, h2, h3⟩ := ih j hj hp
      exact ⟨m, h1, by omega, h3⟩
    · exact ⟨n, h, Nat.le_refl _, fun j hj hp => hex ⟨j, hj, hp⟩⟩
theorem keptOne_mem {L : List Cl} {i n : Nat} {x : Cl} (hi : i < n) (h : x ∈ keptOne L i) : x ∈ trimN L n := by
  induction n with
  | zero => omega
  | succ n ih =>
    rw [trimN]
    rcases Nat.lt_or_ge i n with h1 | h1
    · exact List.mem_append_left _ (ih h1)
    · have : i = n := by omega
      subst this
      exact List.mem_append_right _ h
theorem firstI_none_of {α : Type} {f : Nat → α → Bool} : ∀ {l : List α} {k : Nat}, (∀ j, (h : j < l.length) → f (k + j) l[j] = false) → firstI f k l = none
  | [], _, _ => rfl
  | a :: l, k, h => by
    unfold firstI
    rw [if_neg (by have := h 0 (by simp); simp only [Nat.add_zero, List.getElem_cons_zero] at this; simp [this])]
    exact firstI_none_of fun j hj => by
      have := h (j + 1) (by simpa using hj)
      simp only [List.getElem_cons_succ] at this
      rw [show k + 1 + j = k + (j + 1) by omega]; exact this
/-- Where a fact without terms stands, something is left. -/
theorem trim_some {cs : List Cl} {p : ByteArray} {x : Cl} (hl : cs.length ≤ 512) (he : ∀ x ∈ cs, clauseE x = 0) (hx : x ∈ cs) (hb : bareC p x) : 0 < (trimF cs).length := by
  have hw : wellE cs = 0 := wellE_of hl he
  unfold trimF
  rw [if_pos hw]
  have hcl : cleanC x = ⟨x.h, none, 0, 0, []⟩ := by unfold cleanC idleLs; rw [hb.2.2]; rfl
  have hbc : bareC p (cleanC x) := by rw [hcl]; exact ⟨hb.1, hb.2.1, rfl⟩
  have hmem : cleanC x ∈ trimL cs := List.mem_filter.2 ⟨List.mem_map_of_mem hx, by rw [hcl]; rfl⟩
  obtain ⟨q, hq, hqe⟩ := List.mem_iff_getElem.1 hmem
  have hE : ∀ y ∈ trimL cs, clauseE y = 0 := fun y hy => by
    obtain ⟨z, hz, rfl⟩ := List.mem_map.1 (List.mem_filter.1 hy).1
    exact cleanC_well (he z hz)
  generalize trimL cs = L at *
  obtain ⟨m, ⟨hm, hmb⟩, hmq, hmin⟩ := least_of (p := fun i => ∃ h : i < L.length, bareC p L[i]) (n := q) ⟨hq, by rw [hqe]; exact hbc⟩
  have hkept : keptB L m L[m] = true := by
    unfold keptB
    have h1 : twiceO L m L[m] = none := by
      unfold twiceO
      refine firstI_none_of fun j hj => ?_
      rw [List.length_take] at hj
      cases hr : againR L[m] (L.take m)[j] with
      | false => rfl
      | true =>
        exfalso
        rw [List.getElem_take] at hr
        exact hmin j (by omega) ⟨by omega, again_bare hmb hr⟩
    have h2 : coveredO L m L[m] = none := by
      unfold coveredO
      refine firstI_none_of fun j hj => ?_
      rw [Nat.zero_add]
      cases hr : covB m L[m] j L[j] with
      | false => rfl
      | true =>
        exfalso
        unfold covB at hr
        simp only [Bool.and_eq_true, decide_eq_true_eq, Bool.or_eq_true, Bool.not_eq_true'] at hr
        obtain ⟨hne, hc, h3⟩ := hr
        have hjb : bareC p L[j] := covers_bare hmb hc
        have hjm : ¬ j < m := fun hj2 => hmin j hj2 ⟨hj, hjb⟩
        rcases h3 with h3 | h3
        · exact hjm h3
        · rw [bare_covers hmb hjb (hE _ (List.getElem_mem hm)) (hE _ (List.getElem_mem hj))] at h3; cases h3
    rw [h1, h2]; rfl
  have h3 : L[m] ∈ trimN L L.length := keptOne_mem hm (by
    unfold keptOne
    rw [List.getElem?_eq_getElem hm]
    dsimp only
    rw [if_pos hkept]
    exact List.mem_singleton.2 rfl)
  exact List.length_pos_of_mem h3
end Go.Proofs.Ytjcgkplphiedjaa
