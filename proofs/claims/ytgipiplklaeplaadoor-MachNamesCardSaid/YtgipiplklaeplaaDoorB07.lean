/- Texts of this proof that belong together: words of memory, plain laws, walks. -/
import Derived.Test.YtgipiplklaeplaaDoorRows
import Derived.Test.YtgipiplklaeplaaDoorB01
import Derived.Test.YtgipiplklaeplaaDoorB06
set_option linter.unusedVariables false
set_option linter.unusedSimpArgs false
namespace Go.Proofs.YtgipiplklaeplaaDoor
open Go.RowKit
def Ext (b a : List Int) : Prop := ∀ v, 0 ≤ atA a v → atA b v = atA a v
theorem Ext.refl (a : List Int) : Ext a a := fun _ _ => rfl
theorem Ext.trans {a b c : List Int} (h : Ext c b) (h' : Ext b a) : Ext c a := fun v hv => by
 have h1 := h' v hv
 rw [h v (by omega), h1]
theorem ext_ext (a : List Int) (v : Nat) : Ext (extA a v) a := fun u _ => atA_ext a v u
theorem atA_set {a : List Int} {v : Nat} (h : v < a.length) (x : Int) (u : Nat) : atA (a.set v x) u = if u = v then x else atA a u := by
 unfold atA
 rw [List.getElem?_set]
 by_cases e : v = u
 ·subst e; simp [h]
 ·rw [if_neg e, if_neg (fun h => e h.symm)]
theorem ext_set {a : List Int} {v : Nat} (h : atA a v < 0) (x : Int) : Ext ((extA a v).set v x) a := fun u hu => by
 rw [atA_set (extA_len a v), atA_ext]
 by_cases e : u = v
 ·subst e; omega
 ·rw [if_neg e]
theorem slotA_v (n : Int) (P q : Nat) (a : List Int) : slotA (.v n) P q a = if atA a n.toNat < 0 then (⟨1, emp, P⟩, (extA a n.toNat).set n.toNat P) else (⟨1, emp, atA a n.toNat⟩, extA a n.toNat) := rfl
theorem slotA_ext (u : Tm) (P q : Nat) (a : List Int) : Ext (slotA u P q a).2 a := by
 cases u with
 | i n => exact Ext.refl a
 | f s us => exact Ext.refl a
 | v n =>
  rw [slotA_v]
  split
  ·rename_i h; exact ext_set h _
  ·exact ext_ext a _
theorem slotsA_ext : ∀ (us : List Tm) (P q : Nat) (a : List Int), Ext (slotsA us P q a).2 a
 | [], _, _, a => Ext.refl a
 | u :: us, P, q, a => (slotsA_ext us _ _ _).trans (slotA_ext u P q a)
mutual
theorem layA_ext : ∀ (T : Tm) (P : Nat) (a : List Int), Ext (layA T P a).2 a
 | .f s us, P, a => (laysA_ext us _ _).trans (slotsA_ext us _ _ _)
 | .i _, _, a => Ext.refl a
 | .v _, _, a => Ext.refl a
theorem laysA_ext : ∀ (us : List Tm) (P : Nat) (a : List Int), Ext (laysA us P a).2 a
 | [], _, a => Ext.refl a
 | u :: us, P, a => (laysA_ext us _ _).trans (layA_ext u P a)
end
theorem atOk_ext {L : List C} {n0 : Nat} {a : List Int} (h : AtOk L n0 a) (v : Nat) : AtOk L n0 (extA a v) := fun u => by rw [atA_ext]; exact h u
theorem atOk_set {L : List C} {n0 v P : Nat} {a : List Int} (h : AtOk L n0 a) (hf : Free1 L P) : AtOk L n0 ((extA a v).set v P) := fun u => by
 rw [atA_set (extA_len a v), atA_ext]
 split
 ·exact .inr ⟨P, rfl, hf.lt, .inr hf⟩
 ·exact h u
def TopsAt (L : List C) : List Tm → Nat → Prop
 | [], _ => True
 | u :: us, q => (u.c0.kind = 3 → (sAt L q).kind = 4) ∧ TopsAt L us (q + u.hs)
theorem lays_tops {L : List C} : ∀ (us : List Tm) (P : Nat) (a : List Int), Seg L P (laysA us P a).1 → TopsAt L us P
 | [], _, _, _ => trivial
 | u :: us, P, a, h => by
  obtain ⟨h1, h2⟩ := Seg.app h
  rw [layA_len] at h2
  refine ⟨fun hk => ?_, lays_tops us _ _ h2⟩
  cases u with
  | f s vs =>
   obtain ⟨g, _⟩ := Seg.cons h1
   rw [sAt_get g]
  | i n => simp [Tm.c0] at hk
  | v n => simp [Tm.c0] at hk
theorem kind4_lt {L : List C} {q : Nat} (h : (sAt L q).kind = 4) : q < L.length := by
 by_cases hq : q < L.length
 ·exact hq
 ·rw [sAt_past (by omega)] at h; simp at h
theorem slots_ok {L : List C} {n0 : Nat} : ∀ (us : List Tm) (P q : Nat) (a : List Int), Seg L P (slotsA us P q a).1 → TopsAt L us q → oks us = true → AtOk L n0 a → P + us.length ≤ q → n0 ≤ L.length →
  AtOk L n0 (slotsA us P q a).2 ∧ ∀ i, i < us.length → EdgeOk L n0 (P + i) ∧ (sAt L (P + i)).kind ≠ 4
 | [], _, _, _, _, _, _, ha, _, _ => ⟨ha, fun i hi => by simp at hi⟩
 | u :: us, P, q, a, hs, ht, ho, ha, hq, hn0 => by
  rw [oks_cons, Bool.and_eq_true] at ho
  obtain ⟨h1, h2⟩ := Seg.cons hs
  obtain ⟨t1, t2⟩ := ht
  have hPL := (List.getElem?_eq_some_iff.1 h1).1
  have hsx := sAt_get h1
  simp only [List.length_cons] at hq
  have key : EdgeOk L n0 P ∧ (sAt L P).kind ≠ 4 ∧ AtOk L n0 (slotA u P q a).2 := by
   cases u with
   | i n =>
    have hs2 : sAt L P = ⟨2, emp, n⟩ := hsx
    simp [Tm.ok] at ho
    refine ⟨⟨?_, fun k => ?_, fun k => ?_⟩, by rw [hs2]; simp, ha⟩
    ·rw [hs2]; simp [okSl, emp, empty_toList, ho.1]
    ·rw [hs2] at k; simp at k
    ·rw [hs2] at k; simp at k
   | f s vs =>
    have hs2 : sAt L P = ⟨3, emp, q⟩ := hsx
    have h4 := t1 rfl
    have hqL := kind4_lt h4
    refine ⟨⟨?_, fun k => ?_, fun k => ⟨q, by rw [hs2], by omega, hqL⟩⟩, by rw [hs2]; simp, ha⟩
    ·rw [hs2]; simp [okSl, emp, empty_toList, h4]; exact hqL
    ·rw [hs2] at k; simp at k
   | v n =>
    rw [slotA_v] at hsx ⊢
    split
    ·rename_i hneg
     rw [if_pos hneg] at hsx
     have hf : Free1 L P := ⟨hPL, by rw [hsx], by rw [hsx]⟩
     refine ⟨⟨?_, fun k => ⟨P, by rw [hsx], .inl rfl⟩, fun k => ?_⟩, by rw [hsx]; simp, atOk_set ha hf⟩
     ·rw [hsx]; simp [okSl, emp, empty_toList]; exact hPL
     ·rw [hsx] at k; simp at k
    ·rename_i hneg
     rw [if_neg hneg] at hsx
     rcases ha n.toNat with e | ⟨p, e, hp1, hp2⟩
     ·omega
     ·rw [e] at hsx
      refine ⟨⟨?_, fun k => ⟨p, by rw [hsx], .inr hp2⟩, fun k => ?_⟩, by rw [hsx]; simp, atOk_ext ha _⟩
      ·rw [hsx]; simp [okSl, emp, empty_toList]; exact hp1
      ·rw [hsx] at k; simp at k
  obtain ⟨g1, g2⟩ := slots_ok us (P + 1) (q + u.hs) (slotA u P q a).2 h2 t2 ho.2 key.2.2 (by omega) hn0
  refine ⟨g1, fun i hi => ?_⟩
  cases i with
  | zero => exact ⟨key.1, key.2.1⟩
  | succ i =>
   have := g2 i (by simpa using hi)
   rwa [show P + 1 + i = P + (i + 1) by omega] at this
mutual
theorem lay_ok {L : List C} {n0 : Nat} : ∀ (T : Tm) (P : Nat) (a : List Int), Seg L P (layA T P a).1 → T.ok = true → AtOk L n0 a → n0 ≤ L.length → AtOk L n0 (layA T P a).2 ∧ ∀ i, i < T.hs → EdgeOk L n0 (P + i)
 | .i _, _, _, _, _, ha, _ => ⟨ha, fun i hi => by simp [Tm.hs] at hi⟩
 | .v _, _, _, _, _, ha, _ => ⟨ha, fun i hi => by simp [Tm.hs] at hi⟩
 | .f s us, P, a, hs, ho, ha, hn0 => by
  simp only [Tm.ok, Bool.and_eq_true, decide_eq_true_eq] at ho
  obtain ⟨ho1, ho2, ho3⟩ := ho
  obtain ⟨h1, h2⟩ := Seg.cons hs
  obtain ⟨h3, h4⟩ := Seg.app h2
  rw [slotsA_len] at h4
  have ht := lays_tops us _ _ h4
  obtain ⟨g1, g2⟩ := slots_ok us (P + 1) (P + 1 + us.length) a h3 ht ho3 ha (by omega) hn0
  obtain ⟨g3, g4⟩ := lays_ok us (P + 1 + us.length) _ h4 ho3 g1 hn0
  refine ⟨g3, fun i hi => ?_⟩
  have hsx := sAt_get h1
  have hPL := (List.getElem?_eq_some_iff.1 h1).1
  simp only [Tm.hs] at hi
  rcases Nat.eq_zero_or_pos i with rfl | hpos
  ·refine ⟨?_, fun k => ?_, fun k => ?_⟩
   ·simp only [Nat.add_zero]
    rw [hsx]
    have h5 : ((List.range us.length).any fun i => (sAt L (P + 1 + i)).kind == 4) = false := by
     rw [List.any_eq_false]
     intro i hi
     simpa using (g2 i (by simpa using hi)).2
    have h6 : P + us.length < L.length := by
     rcases Nat.eq_zero_or_pos us.length with h0 | h0
     ·omega
     ·have := Seg.lt h3 (by rw [slotsA_len]; exact h0)
      rw [slotsA_len] at this
      omega
    simp [okSl, h5, ho1]
    omega
   ·simp only [Nat.add_zero] at k; rw [hsx] at k; simp at k
   ·simp only [Nat.add_zero] at k; rw [hsx] at k; simp at k
  ·rcases Nat.lt_or_ge i (1 + us.length) with h5 | h5
   ·have := (g2 (i - 1) (by omega)).1
    rwa [show P + 1 + (i - 1) = P + i by omega] at this
   ·have := g4 (i - 1 - us.length) (by omega)
    rwa [show P + 1 + us.length + (i - 1 - us.length) = P + i by omega] at this
theorem lays_ok {L : List C} {n0 : Nat} : ∀ (us : List Tm) (P : Nat) (a : List Int), Seg L P (laysA us P a).1 → oks us = true → AtOk L n0 a → n0 ≤ L.length → AtOk L n0 (laysA us P a).2 ∧ ∀ i, i < hss us → EdgeOk L n0 (P + i)
 | [], _, _, _, _, ha, _ => ⟨ha, fun i hi => by simp [hss] at hi⟩
 | u :: us, P, a, hs, ho, ha, hn0 => by
  rw [oks_cons, Bool.and_eq_true] at ho
  obtain ⟨h1, h2⟩ := Seg.app hs
  rw [layA_len] at h2
  obtain ⟨g1, g2⟩ := lay_ok u P a h1 ho.1 ha hn0
  obtain ⟨g3, g4⟩ := lays_ok us (P + u.hs) _ h2 ho.2 g1 hn0
  refine ⟨g3, fun i hi => ?_⟩
  simp only [hss] at hi
  rcases Nat.lt_or_ge i u.hs with h | h
  ·exact g2 i h
  ·have := g4 (i - u.hs) (by omega)
   rwa [show P + u.hs + (i - u.hs) = P + i by omega] at this
end
mutual
def Tm.sub (S : Int → Tm) : Tm → Tm
 | .v n => S n
 | .i n => .i n
 | .f s us => .f s (subs S us)
def subs (S : Int → Tm) : List Tm → List Tm
 | [] => []
 | u :: us => u.sub S :: subs S us
end
theorem subs_map (S : Int → Tm) : ∀ us : List Tm, subs S us = us.map (Tm.sub S)
 | [] => rfl
 | u :: us => by rw [subs, subs_map S us]; rfl
def stand (L : List C) (b : List Int) (n : Int) : Tm := den L (atA b n.toNat).toNat
def TopsDen (L : List C) (S : Int → Tm) : List Tm → Nat → Prop
 | [], _ => True
 | u :: us, q => (u.c0.kind = 3 → den L q = u.sub S) ∧ TopsDen L S us (q + u.hs)
theorem slots_den {L : List C} (hg : Good L) {n0 : Nat} {b : List Int} : ∀ (us : List Tm) (P q : Nat) (a : List Int), Seg L P (slotsA us P q a).1 → TopsDen L (stand L b) us q → TopsAt L us q → AtOk L n0 a → Ext b (slotsA us P q a).2 →
  ∀ i u, us[i]? = some u → den L (P + i) = u.sub (stand L b)
 | [], _, _, _, _, _, _, _, _ => fun i u hi => by simp at hi
 | u :: us, P, q, a, hs, hd, ht, ha, hb => by
  obtain ⟨h1, h2⟩ := Seg.cons hs
  obtain ⟨d1, d2⟩ := hd
  obtain ⟨t1, t2⟩ := ht
  have hPL := (List.getElem?_eq_some_iff.1 h1).1
  have hsx := sAt_get h1
  have hb1 : Ext b (slotA u P q a).2 := hb.trans (slotsA_ext us _ _ _)
  have key : den L P = u.sub (stand L b) ∧ AtOk L n0 (slotA u P q a).2 := by
   cases u with
   | i n =>
    have hs2 : sAt L P = ⟨2, emp, n⟩ := hsx
    exact ⟨by rw [hg.den_num (by rw [hs2]), hs2]; rfl, ha⟩
   | f s vs =>
    have hs2 : sAt L P = ⟨3, emp, q⟩ := hsx
    exact ⟨by rw [hg.den_step (on_ptr (by rw [hs2])), nx, hs2]; simpa using d1 rfl, ha⟩
   | v n =>
    rw [slotA_v] at hsx hb1 ⊢
    split
    ·rename_i hneg
     rw [if_pos hneg] at hsx hb1
     have hf : Free1 L P := ⟨hPL, by rw [hsx], by rw [hsx]⟩
     refine ⟨?_, atOk_set ha hf⟩
     have := hb1 n.toNat (by rw [atA_set (extA_len a _)]; simp)
     rw [atA_set (extA_len a _)] at this
     simp at this
     simp only [Tm.sub, stand, this]
     simp
    ·rename_i hneg
     rw [if_neg hneg] at hsx hb1
     have hbn := hb1 n.toNat (by rw [atA_ext]; omega)
     rw [atA_ext] at hbn
     refine ⟨?_, atOk_ext ha _⟩
     simp only [Tm.sub, stand, hbn]
     rcases ha n.toNat with e | ⟨p, e, hp1, hp2⟩
     ·omega
     ·rw [e] at hsx ⊢
      by_cases hpP : p = P
      ·subst hpP; simp
      ·have hon : onB L P = true := by
        rw [on_ref (by rw [hsx]), hsx]
        simp; omega
       rw [hg.den_step hon, nx, hsx]
  intro i w hi
  cases i with
  | zero => simp at hi; subst hi; exact key.1
  | succ i =>
   have := slots_den hg us (P + 1) (q + u.hs) _ h2 d2 t2 key.2 hb i w (by simpa using hi)
   rwa [show P + 1 + i = P + (i + 1) by omega] at this
mutual
theorem lay_den {L : List C} (hg : Good L) {n0 : Nat} (hn0 : n0 ≤ L.length) {b : List Int} : ∀ (T : Tm) (P : Nat) (a : List Int), Seg L P (layA T P a).1 → T.ok = true → AtOk L n0 a → Ext b (layA T P a).2 → T.c0.kind = 3 → den L P = T.sub (stand L b)
 | .i _, _, _, _, _, _, _, hk => by simp [Tm.c0] at hk
 | .v _, _, _, _, _, _, _, hk => by simp [Tm.c0] at hk
 | .f s us, P, a, hs, ho, ha, hb, _ => by
  simp only [Tm.ok, Bool.and_eq_true, decide_eq_true_eq] at ho
  obtain ⟨ho1, ho2, ho3⟩ := ho
  obtain ⟨h1, h2⟩ := Seg.cons hs
  obtain ⟨h3, h4⟩ := Seg.app h2
  rw [slotsA_len] at h4
  have ht := lays_tops us _ _ h4
  obtain ⟨g1, g2⟩ := slots_ok us (P + 1) (P + 1 + us.length) a h3 ht ho3 ha (by omega) hn0
  have hd := lays_den hg hn0 us (P + 1 + us.length) _ h4 ho3 g1 hb
  have hsl := slots_den hg us (P + 1) (P + 1 + us.length) a h3 hd ht ha (hb.trans (laysA_ext us _ _))
  have hsx := sAt_get h1
  rw [hg.den_top (by rw [hsx]), hsx]
  simp only [Int.toNat_natCast, Tm.sub, subs_map]
  congr 1
  refine List.ext_getElem? fun i => ?_
  rw [List.getElem?_map, List.getElem?_map]
  by_cases hi : i < us.length
  ·rw [List.getElem?_range hi, List.getElem?_eq_getElem hi]
   exact congrArg some (hsl i _ (List.getElem?_eq_getElem hi))
  ·rw [List.getElem?_eq_none (by simp; omega), List.getElem?_eq_none (by omega)]; rfl
theorem lays_den {L : List C} (hg : Good L) {n0 : Nat} (hn0 : n0 ≤ L.length) {b : List Int} : ∀ (us : List Tm) (P : Nat) (a : List Int), Seg L P (laysA us P a).1 → oks us = true → AtOk L n0 a → Ext b (laysA us P a).2 → TopsDen L (stand L b) us P
 | [], _, _, _, _, _, _ => trivial
 | u :: us, P, a, hs, ho, ha, hb => by
  rw [oks_cons, Bool.and_eq_true] at ho
  obtain ⟨h1, h2⟩ := Seg.app hs
  rw [layA_len] at h2
  obtain ⟨g1, g2⟩ := lay_ok u P a h1 ho.1 ha hn0
  exact ⟨fun hk => lay_den hg hn0 u P a h1 ho.1 ha (hb.trans (laysA_ext us _ _)) hk, lays_den hg hn0 us _ _ h2 ho.2 g1 hb⟩
end
structure PutOk (l : List C) (T : Tm) (a : List Int) (L : List C) (P : Nat) (b : List Int) : Prop where
 pre : Pre l L
 good : Good L
 lt : P < L.length
 at_ : AtOk L L.length b
 ext : Ext b a
 den : den L P = T.sub (stand L b)
 more : ∃ x, L = l ++ x ∧ (∀ c ∈ x, c.wf)
theorem seg_append (l x : List C) : Seg (l ++ x) l.length x := fun i c hc => by rw [List.getElem?_append_right (by omega)]; simpa using hc
theorem atOk_more {L : List C} {n0 : Nat} {a : List Int} (h : AtOk L n0 a) : AtOk L L.length a := fun v => by
 rcases h v with e | ⟨p, e, h1, h2⟩
 ·exact .inl e
 ·exact .inr ⟨p, e, h1, .inl h1⟩
theorem atOk_pre {l L : List C} {a : List Int} (h : AtOk l l.length a) (hp : Pre l L) : AtOk L l.length a := fun v => by
 rcases h v with e | ⟨p, e, h1, h2⟩
 ·exact .inl e
 ·exact .inr ⟨p, e, by have := hp.le; omega, .inl h1⟩
theorem okSl_wf {L : List C} (hL : L.length ≤ 1000000) {p : Nat} {c : C} (h : okSl L p c = true) : c.wf := by
 rcases ok_kind h with k | k | k | k
 ·obtain ⟨h1, h2, h3⟩ := ok_ref h k
  exact ⟨by unfold i64; omega, by unfold i64; omega, by rw [h1]; decide⟩
 ·obtain ⟨h1, h2, h3⟩ := ok_num h k
  exact ⟨by unfold i64; omega, by unfold i64; omega, by rw [h1]; decide⟩
 ·obtain ⟨h1, h2, h3, h4⟩ := ok_ptr h k
  exact ⟨by unfold i64; omega, by unfold i64; omega, by rw [h1]; decide⟩
 ·obtain ⟨h1, h2, h3, h4, h5⟩ := ok_top h k
  refine ⟨by unfold i64; omega, by unfold i64; omega, ?_⟩
  unfold okName at h4
  simp at h4
  simp [maxLen]; omega
theorem put_ok {l : List C} (hg : Good l) {T : Tm} (ho : T.ok = true) {a : List Int} (ha : AtOk l l.length a) (hlen : (putA l T a).1.length ≤ 1000000) : PutOk l T a (putA l T a).1 (putA l T a).2.1 (putA l T a).2.2 := by
 cases T with
 | f s us =>
  simp only [putA] at hlen ⊢
  have hp := Pre.append l (layA (.f s us) l.length a).1
  have hseg := seg_append l (layA (.f s us) l.length a).1
  have ha' := atOk_pre ha hp
  obtain ⟨h1, h2⟩ := lay_ok (.f s us) l.length a hseg ho ha' hp.le
  have hedge : ∀ p, l.length ≤ p → p < (l ++ (layA (.f s us) l.length a).1).length → EdgeOk (l ++ (layA (.f s us) l.length a).1) l.length p := fun p hp1 hp2 => by
   have := h2 (p - l.length) (by simp [layA_len] at hp2; omega)
   rwa [show l.length + (p - l.length) = p by omega] at this
  have hgood := edges_good hp hg hedge
  have hpos : 0 < (Tm.f s us).hs := by simp [Tm.hs]; omega
  refine ⟨hp, hgood, by simp [layA_len]; exact hpos, atOk_more h1, layA_ext _ _ _, lay_den hgood hp.le (.f s us) l.length a hseg ho ha' (Ext.refl _) rfl, _, rfl, fun c hc => ?_⟩
  obtain ⟨i, hi, rfl⟩ := List.getElem_of_mem hc
  have := hseg i _ (List.getElem?_eq_getElem hi)
  rw [← sAt_get this]
  exact okSl_wf hlen (hedge (l.length + i) (by omega) (by rw [List.length_append]; omega)).ok
 | i n =>
  simp only [putA] at hlen ⊢
  have hp := Pre.append l [⟨2, emp, n⟩]
  have hsx : sAt (l ++ [⟨2, emp, n⟩]) l.length = ⟨2, emp, n⟩ := sAt_get (by simp)
  simp [Tm.ok] at ho
  have hgood := edges_good hp hg (fun p hp1 hp2 => by
   have : p = l.length := by simp at hp2; omega
   subst this
   refine ⟨by rw [hsx]; simp [okSl, emp, empty_toList, ho], fun k => ?_, fun k => ?_⟩
   ·rw [hsx] at k; simp at k
   ·rw [hsx] at k; simp at k)
  refine ⟨hp, hgood, by simp, atOk_more (atOk_pre ha hp), Ext.refl _, ?_, _, rfl, fun c hc => ?_⟩
  ·rw [hgood.den_num (by rw [hsx]), hsx]; rfl
  ·simp at hc; subst hc; exact ⟨by unfold i64; simp, by unfold i64; simp; omega, (by decide : emp.size ≤ maxLen)⟩
 | v n =>
  by_cases hneg : atA a n.toNat < 0
  ·simp only [putA, if_pos hneg] at hlen ⊢
   have hp := Pre.append l [⟨1, emp, l.length⟩]
   have hsx : sAt (l ++ [⟨1, emp, l.length⟩]) l.length = ⟨1, emp, l.length⟩ := sAt_get (by simp)
   have hf : Free1 (l ++ [⟨1, emp, l.length⟩]) l.length := ⟨by simp, by rw [hsx], by rw [hsx]⟩
   have hgood := edges_good hp hg (fun p hp1 hp2 => by
    have : p = l.length := by simp at hp2; omega
    subst this
    refine ⟨by rw [hsx]; simp [okSl, emp, empty_toList]; omega, fun k => ⟨_, by rw [hsx], .inl rfl⟩, fun k => ?_⟩
    rw [hsx] at k; simp at k)
   refine ⟨hp, hgood, by simp, atOk_more (atOk_set (atOk_pre ha hp) hf), ext_set hneg _, ?_, _, rfl, fun c hc => ?_⟩
   ·simp only [Tm.sub, stand]
    rw [atA_set (extA_len a _)]
    simp
   ·simp at hc; subst hc
    simp at hlen
    exact ⟨by unfold i64; simp, by unfold i64; simp; omega, (by decide : emp.size ≤ maxLen)⟩
  ·simp only [putA, if_neg hneg] at hlen ⊢
   rcases ha n.toNat with e | ⟨p, e, hp1, hp2⟩
   ·omega
   ·refine ⟨⟨fun _ _ => rfl, Nat.le_refl _⟩, hg, by rw [e]; simpa using hp1, atOk_ext ha _, ext_ext a _, ?_, [], by simp, by simp⟩
    simp only [Tm.sub, stand, atA_ext]
end Go.Proofs.YtgipiplklaeplaaDoor
namespace Go.Proofs.YtgipiplklaeplaaDoor
open Go.RowKit
theorem in_any (n lo hi : Int) (w : World) : Calls Tryd.prog 111 #[.int .i64 n, .int .i64 lo, .int .i64 hi] w fun e w' => e = .returned (.bool (decide (lo ≤ n) && decide (n ≤ hi))) ∧ w = w' := by
 by_cases h1 : lo ≤ n
 ·go_enter Tryd.func111, Tryd.ntmps111
  go_wp2
  go_ret
  exact ⟨by simp [h1], rfl⟩
 ·go_enter Tryd.func111, Tryd.ntmps111
  go_wp2
  go_ret
  exact ⟨ret_bool (by simp; intro _; omega), rfl⟩
theorem in_yes (n lo hi : Int) (w : World) (h1 : lo ≤ n) (h2 : n ≤ hi) : Calls Tryd.prog 111 #[.int .i64 n, .int .i64 lo, .int .i64 hi] w fun e w' => e = .returned (.bool true) ∧ w = w' :=
 (in_any n lo hi w).mono fun e w' ⟨h, h'⟩ => ⟨by rw [h]; simp [h1, h2], h'⟩
theorem in_no (n lo hi : Int) (w : World) (h : n < lo ∨ hi < n) : Calls Tryd.prog 111 #[.int .i64 n, .int .i64 lo, .int .i64 hi] w fun e w' => e = .returned (.bool false) ∧ w = w' :=
 (in_any n lo hi w).mono fun e w' ⟨h1, h'⟩ => ⟨by rw [h1]; exact ret_bool (by simp; intro _; omega), h'⟩
set_option maxHeartbeats 400000 in
theorem name_any (s : ByteArray) (w : World) (hs : s.size ≤ 9223372036854775807) : Calls Tryd.prog 114 #[.string s] w fun e w' => e = .returned (.bool (okName s)) ∧ w = w' := by
 go_enter Tryd.func114, Tryd.ntmps114
 go_wp2
 go_loop [3] (fun i => ∃ k : Nat, k ≤ s.size ∧ i = .int .i64 k ∧ Hid ((s.data.toList.drop k).any oddB = s.data.toList.any oddB)) (fun i => s.size - (intOf i).toNat)
 case atStart => exact ⟨0, Nat.zero_le _, rfl, rfl⟩
 case round =>
  obtain ⟨k, hk, rfl, hres⟩ := hrel
  by_cases hlt : k < s.size
  ·have hodd : (s[k].toNat : Int) < 32 ∨ 126 < (s[k].toNat : Int) ∨ (s[k].toNat : Int) = 39 → okName s = false := fun h => by
    have := hres.out
    rw [any_drop oddB s k hlt, oddB_yes h] at this
    simp [okName, ← this]
   have hnext : 32 ≤ (s[k].toNat : Int) → (s[k].toNat : Int) ≤ 126 → (s[k].toNat : Int) ≠ 39 → (s.data.toList.drop (k + 1)).any oddB = s.data.toList.any oddB := fun h1 h2 h3 => by
    have := hres.out
    rw [any_drop oddB s k hlt, oddB_no h1 h2 h3] at this
    simpa using this
   have Hodd := Lib.hid hodd
   have Hnext := Lib.hid hnext
   clear hodd hnext hres
   go_wp2
   ·go_ret
    rename_i h _
    exact ⟨ret_bool (Eq.symm (Hodd.out (by simp at h; omega))), rfl⟩
   ·rename_i h
    obtain ⟨_, h⟩ := h
    go_round
    case rel => exact ⟨k + 1, by omega, by go_num, Hnext.out (by omega) (by omega) (by simpa using h)⟩
    case measure => simp [intOf]; omega
   ·go_ret
    exact ⟨ret_bool (Eq.symm (Hodd.out (by omega))), rfl⟩
   ·go_ret
    exact ⟨ret_bool (Eq.symm (Hodd.out (by omega))), rfl⟩
  ·have hall : s.data.toList.any oddB = false := by
    have := hres.out
    rw [List.drop_of_length_le (by simp; omega)] at this
    simpa using this.symm
   have Hall := Lib.hid hall
   clear hall hres
   go_wp2
   all_goals go_ret
   all_goals exact ⟨ret_bool (by rw [Bool.eq_iff_iff]; simp [okName, Hall.out]; omega), rfl⟩
set_option maxHeartbeats 400000 in
theorem right1_any (r : Int) (w : World) : Calls Tryd.prog 117 #[.int .i32 r] w fun e w' => e = .returned (.bool (oddR r)) ∧ w = w' := by
 go_enter Tryd.func117, Tryd.ntmps117
 go_wp2
 all_goals go_ret
 all_goals exact ⟨ret_bool (by rw [Bool.eq_iff_iff]; simp [oddR]; omega), rfl⟩
set_option maxHeartbeats 400000 in
theorem indexR_any (A : Option Addr) (n cap : Nat) (rs : List Int) (w : World) (h : IsR w A n cap rs) (hn : n ≤ 100000) :
  Calls Tryd.prog 119 #[.slice A n cap, .func (.func 117) #[] #[]] w fun e w' => e = .returned (.int .i64 (idxF oddR 0 rs)) ∧ w = w' := by
 go_enter Tryd.func119, Tryd.ntmps119
 go_wp2
 go_loop [8] (fun i => ∃ k : Nat, k ≤ n ∧ i = .int .i64 k ∧ Hid (idxF oddR k (rs.drop k) = idxF oddR 0 rs)) (fun i => n - (intOf i).toNat)
 case atStart => exact ⟨0, Nat.zero_le _, rfl, rfl⟩
 case round =>
  obtain ⟨k, hk, rfl, hres⟩ := hrel
  by_cases hlt : k < n
  ·obtain ⟨x, hx⟩ := h.get hlt
   obtain ⟨b, off, rfl, hb, hwf, hc⟩ := h.at_ hx
   have hd : rs.drop k = x :: rs.drop (k + 1) := by
    obtain ⟨hl, he⟩ := List.getElem?_eq_some_iff.1 hx
    rw [List.drop_eq_getElem_cons hl, he]
   have Hd := Lib.hid hd
   clear hx hd
   cases ho : oddR x
   all_goals
    have Ho := Lib.hid ho
    go_wp2_with (go_at_call 117; go_must (refine (right1_any x _).mono ?_); rintro e w1 ⟨rfl, rfl⟩)
   ·go_round
    case rel => exact ⟨k + 1, by omega, by go_num, by have := hres.out; rw [Hd.out, idxF, if_neg (by simp [Ho.out])] at this; exact this⟩
    case measure => simp [intOf]; omega
   ·go_ret
    exact ⟨ret_int (by have := hres.out; rw [Hd.out, idxF, if_pos (by simp [Ho.out])] at this; exact this), rfl⟩
  ·go_wp2
   go_ret
   exact ⟨ret_int (by have := hres.out; rw [List.drop_of_length_le (by have := h.len; omega)] at this; simpa [idxF] using this), rfl⟩
theorem containsR_any (A : Option Addr) (n cap : Nat) (rs : List Int) (w : World) (h : IsR w A n cap rs) (hn : n ≤ 100000) :
  Calls Tryd.prog 118 #[.slice A n cap, .func (.func 117) #[] #[]] w fun e w' => e = .returned (.bool (rs.any oddR)) ∧ w = w' := by
 have hi := idxF_any oddR rs 0
 have Hi := Lib.hid hi
 clear hi
 go_enter Tryd.func118, Tryd.ntmps118
 go_wp2_with (go_at_call 119; go_must (refine (indexR_any A n cap rs _ h hn).mono ?_); rintro e w1 ⟨rfl, rfl⟩)
 go_ret
 exact ⟨ret_bool Hi.out, rfl⟩
set_option maxHeartbeats 400000 in
theorem right_any (c : C) (w : World) (h : c.wf) : Calls Tryd.prog 116 #[c.val] w (RetV w (.bool c.ok)) := by
 obtain ⟨k, s, n⟩ := c
 obtain ⟨hk, hn, hs⟩ := h
 unfold maxLen at hs
 dsimp only [C.val] at *
 by_cases k1 : k = 1
 ·subst k1
  by_cases h2 : 0 ≤ n ∧ n ≤ 999
  ·obtain ⟨h3, h4⟩ := h2
   go_enter Tryd.func116, Tryd.ntmps116
   go_wp2_with (first | (go_at_call 111; go_must (refine (in_yes _ _ _ _ h3 h4).mono ?_); rintro e w1 ⟨rfl, rfl⟩))
   all_goals go_ret
   all_goals exact ⟨ret_bool (by simp [C.ok, *]), (by repeat (first | assumption | exact Below.refl _ _ | refine Below.drew ?_ | refine below_drewN ?_ _ | refine Below.alloc ?_ ?_ _ | refine Below.setCell ?_ ?_ _ | (apply Below.size; assumption) | (simp; done) | (simp; omega) | (have hz := hb.size; simp; omega) | (have hz := hb.size; omega) | omega))⟩
  ·have h3 : n < 0 ∨ 999 < n := by omega
   go_enter Tryd.func116, Tryd.ntmps116
   go_wp2_with (first | (go_at_call 111; go_must (refine (in_no _ _ _ _ h3).mono ?_); rintro e w1 ⟨rfl, rfl⟩))
   all_goals go_ret
   all_goals exact ⟨ret_bool (by simp [C.ok, *]; try omega), (by repeat (first | assumption | exact Below.refl _ _ | refine Below.drew ?_ | refine below_drewN ?_ _ | refine Below.alloc ?_ ?_ _ | refine Below.setCell ?_ ?_ _ | (apply Below.size; assumption) | (simp; done) | (simp; omega) | (have hz := hb.size; simp; omega) | (have hz := hb.size; omega) | omega))⟩
 ·by_cases k2 : k = 2
  ·subst k2
   by_cases h2 : -2147483647 ≤ n ∧ n ≤ 2147483647
   ·obtain ⟨h3, h4⟩ := h2
    go_enter Tryd.func116, Tryd.ntmps116
    go_wp2_with (first | (go_at_call 111; go_must (refine (in_yes _ _ _ _ h3 h4).mono ?_); rintro e w1 ⟨rfl, rfl⟩))
    all_goals go_ret
    all_goals exact ⟨ret_bool (by simp [C.ok, *]), (by repeat (first | assumption | exact Below.refl _ _ | refine Below.drew ?_ | refine below_drewN ?_ _ | refine Below.alloc ?_ ?_ _ | refine Below.setCell ?_ ?_ _ | (apply Below.size; assumption) | (simp; done) | (simp; omega) | (have hz := hb.size; simp; omega) | (have hz := hb.size; omega) | omega))⟩
   ·have h3 : n < -2147483647 ∨ 2147483647 < n := by omega
    go_enter Tryd.func116, Tryd.ntmps116
    go_wp2_with (first | (go_at_call 111; go_must (refine (in_no _ _ _ _ h3).mono ?_); rintro e w1 ⟨rfl, rfl⟩))
    all_goals go_ret
    all_goals exact ⟨ret_bool (by simp [C.ok, *]; try omega), (by repeat (first | assumption | exact Below.refl _ _ | refine Below.drew ?_ | refine below_drewN ?_ _ | refine Below.alloc ?_ ?_ _ | refine Below.setCell ?_ ?_ _ | (apply Below.size; assumption) | (simp; done) | (simp; omega) | (have hz := hb.size; simp; omega) | (have hz := hb.size; omega) | omega))⟩
  ·by_cases k3 : k = 3
   ·subst k3
    by_cases h2 : 0 ≤ n ∧ n ≤ 6
    ·obtain ⟨h3, h4⟩ := h2
     by_cases h5 : 1 ≤ s.size ∧ s.size ≤ 12
     ·have h6 : (1 : Int) ≤ (s.size : Int) := by omega
      have h7 : (s.size : Int) ≤ 12 := by omega
      go_enter Tryd.func116, Tryd.ntmps116
      go_wp2_with (first
       | (go_at_call 111; (first | (with_reducible refine (in_yes n 0 6 _ h3 h4).mono ?_) | (with_reducible refine (in_yes _ 1 12 _ h6 h7).mono ?_)); rintro e w1 ⟨rfl, rfl⟩)
       | (refine wpList_runes rfl (.tmp 43) 9 191 21 rfl Tryd.underlying9 Tryd.underlying191 Tryd.underlying21 s rfl (by omega) ?_; intro A m cap w1 rs hb hr hm hodd; have Hodd := Lib.hid hodd; clear hodd; replace hb := Below.trans (a := w) (B := w.heap.size) (by repeat (first | assumption | exact Below.refl _ _ | refine Below.drew ?_ | refine below_drewN ?_ _ | refine Below.alloc ?_ ?_ _ | refine Below.setCell ?_ ?_ _ | (apply Below.size; assumption) | (simp; done) | (simp; omega) | (have hz := hb.size; simp; omega) | (have hz := hb.size; omega) | omega)) (hb.mono (by first | exact Nat.le_refl _ | (simp; done) | (simp; omega))))
       | (go_at_call 118; go_must (refine (containsR_any A m cap rs _ hr hm).mono ?_); rintro e w1 ⟨rfl, rfl⟩))
      go_ret
      exact ⟨ret_bool (by simp [C.ok, okName, Hodd.out, h5, h3, h4]), hb⟩
     ·have h6 : (s.size : Int) < 1 ∨ 12 < (s.size : Int) := by omega
      go_enter Tryd.func116, Tryd.ntmps116
      go_wp2_with (first
       | (go_at_call 111; (first | (with_reducible refine (in_yes n 0 6 _ h3 h4).mono ?_) | (with_reducible refine (in_no _ 1 12 _ h6).mono ?_)); rintro e w1 ⟨rfl, rfl⟩))
      go_ret
      exact ⟨ret_bool (by simp [C.ok, okName, h3, h4]; omega), (by repeat (first | assumption | exact Below.refl _ _ | refine Below.drew ?_ | refine below_drewN ?_ _ | refine Below.alloc ?_ ?_ _ | refine Below.setCell ?_ ?_ _ | (apply Below.size; assumption) | (simp; done) | (simp; omega) | (have hz := hb.size; simp; omega) | (have hz := hb.size; omega) | omega))⟩
    ·have h3 : n < 0 ∨ 6 < n := by omega
     go_enter Tryd.func116, Tryd.ntmps116
     go_wp2_with (first | (go_at_call 111; go_must (refine (in_no _ _ _ _ h3).mono ?_); rintro e w1 ⟨rfl, rfl⟩))
     all_goals go_ret
     all_goals exact ⟨ret_bool (by simp [C.ok, *]; try omega), (by repeat (first | assumption | exact Below.refl _ _ | refine Below.drew ?_ | refine below_drewN ?_ _ | refine Below.alloc ?_ ?_ _ | refine Below.setCell ?_ ?_ _ | (apply Below.size; assumption) | (simp; done) | (simp; omega) | (have hz := hb.size; simp; omega) | (have hz := hb.size; omega) | omega))⟩
   ·go_enter Tryd.func116, Tryd.ntmps116
    go_wp2
    all_goals go_ret
    all_goals exact ⟨ret_bool (by simp [C.ok, *]), (by repeat (first | assumption | exact Below.refl _ _ | refine Below.drew ?_ | refine below_drewN ?_ _ | refine Below.alloc ?_ ?_ _ | refine Below.setCell ?_ ?_ _ | (apply Below.size; assumption) | (simp; done) | (simp; omega) | (have hz := hb.size; simp; omega) | (have hz := hb.size; omega) | omega))⟩
set_option maxHeartbeats 400000 in
theorem cell_any (c : C) (w : World) (h : c.wf) : Calls Tryd.prog 110 #[c.val] w (RetV w (.bool c.ok)) := by
 obtain ⟨k, s, n⟩ := c
 obtain ⟨hk, hn, hs⟩ := h
 unfold maxLen at hs
 dsimp only [C.val] at *
 by_cases k1 : k = 1
 ·subst k1
  go_enter Tryd.func110, Tryd.ntmps110
  go_wp2
  all_goals go_ret
  all_goals exact ⟨ret_bool (by rw [Bool.eq_iff_iff]; simp [C.ok, *]; try omega), (by repeat (first | assumption | exact Below.refl _ _ | refine Below.drew ?_ | refine below_drewN ?_ _ | refine Below.alloc ?_ ?_ _ | refine Below.setCell ?_ ?_ _ | (apply Below.size; assumption) | (simp; done) | (simp; omega) | (have hz := hb.size; simp; omega) | (have hz := hb.size; omega) | omega))⟩
 ·by_cases k2 : k = 2
  ·subst k2
   go_enter Tryd.func110, Tryd.ntmps110
   go_wp2
   all_goals go_ret
   all_goals exact ⟨ret_bool (by rw [Bool.eq_iff_iff]; simp [C.ok, *]; try omega), (by repeat (first | assumption | exact Below.refl _ _ | refine Below.drew ?_ | refine below_drewN ?_ _ | refine Below.alloc ?_ ?_ _ | refine Below.setCell ?_ ?_ _ | (apply Below.size; assumption) | (simp; done) | (simp; omega) | (have hz := hb.size; simp; omega) | (have hz := hb.size; omega) | omega))⟩
  ·by_cases k3 : k = 3
   ·subst k3
    cases ho : okName s
    all_goals
     have Ho := Lib.hid ho
     have hno := name_any s
     rw [ho] at hno
     have Hno := Lib.hid hno
     clear ho hno
     go_enter Tryd.func110, Tryd.ntmps110
     go_wp2_with (first | (go_at_call 114; go_must (refine (Hno.out _ hs).mono ?_); rintro e w1 ⟨rfl, rfl⟩))
     all_goals go_ret
     all_goals exact ⟨ret_bool (by rw [Bool.eq_iff_iff]; simp [C.ok, Ho.out, *]; try omega), (by repeat (first | assumption | exact Below.refl _ _ | refine Below.drew ?_ | refine below_drewN ?_ _ | refine Below.alloc ?_ ?_ _ | refine Below.setCell ?_ ?_ _ | (apply Below.size; assumption) | (simp; done) | (simp; omega) | (have hz := hb.size; simp; omega) | (have hz := hb.size; omega) | omega))⟩
   ·go_enter Tryd.func110, Tryd.ntmps110
    go_wp2
    all_goals go_ret
    all_goals exact ⟨ret_bool (by simp [C.ok, *]), (by repeat (first | assumption | exact Below.refl _ _ | refine Below.drew ?_ | refine below_drewN ?_ _ | refine Below.alloc ?_ ?_ _ | refine Below.setCell ?_ ?_ _ | (apply Below.size; assumption) | (simp; done) | (simp; omega) | (have hz := hb.size; simp; omega) | (have hz := hb.size; omega) | omega))⟩
end Go.Proofs.YtgipiplklaeplaaDoor
