/- What is done to a heap can be undone: histories, in plain words. No program in sight. -/
import Derived.Test.YtlndjooddkjnoaaB3
import Derived.Test.YtlndjooddkjnoaaB1
import Derived.Test.YtlndjooddkjnoaaHU1
import Derived.Test.YtlndjooddkjnoaaHF
import Derived.Test.YtlndjooddkjnoaaHV3
set_option linter.unusedVariables false
set_option linter.unusedSimpArgs false
namespace Go.Proofs.Ytlndjooddkjnoaa
open Go.RowKit

/-- L, TR came of l, tr: slots more, variables bound that were free -/
structure Hst (l : List C) (tr : List Int) (L : List C) (TR : List Int) (d : List Int) : Prop where
  le : l.length ≤ L.length
  tr : TR = tr ++ d
  at_ : ∀ t ∈ d, ∃ p : Nat, t = (p : Int) ∧ p < L.length
  kind : ∀ p, p < l.length → (sAt L p).kind = (sAt l p).kind ∧ (sAt L p).name = (sAt l p).name
  no : ∀ p, p < l.length → (p : Int) ∉ d → (sAt L p).n = (sAt l p).n
  yes : ∀ p, p < l.length → (p : Int) ∈ d → (sAt l p).n = (p : Int)
theorem Hst.refl (l : List C) (tr : List Int) : Hst l tr l tr [] := ⟨Nat.le_refl _, by simp, by simp, fun _ _ => ⟨rfl, rfl⟩, fun _ _ _ => rfl, by simp⟩
theorem Hst.trans {l L M : List C} {tr TR UR d e : List Int} (h : Hst l tr L TR d) (h' : Hst L TR M UR e) : Hst l tr M UR (d ++ e) := by
  refine ⟨Nat.le_trans h.le h'.le, by rw [h'.tr, h.tr, List.append_assoc], ?_, ?_, ?_, ?_⟩
  · intro t ht
    rcases List.mem_append.1 ht with ht | ht
    · obtain ⟨p, h1, h2⟩ := h.at_ t ht
      exact ⟨p, h1, Nat.lt_of_lt_of_le h2 h'.le⟩
    · exact h'.at_ t ht
  · intro p hp
    have h1 := h.kind p hp
    have h2 := h'.kind p (Nat.lt_of_lt_of_le hp h.le)
    exact ⟨h2.1.trans h1.1, h2.2.trans h1.2⟩
  · intro p hp hn
    rw [List.mem_append, not_or] at hn
    exact (h'.no p (Nat.lt_of_lt_of_le hp h.le) hn.2).trans (h.no p hp hn.1)
  · intro p hp hy
    by_cases hd : (p : Int) ∈ d
    · exact h.yes p hp hd
    · have he := (List.mem_append.1 hy).resolve_left hd
      rw [← h.no p hp hd]
      exact h'.yes p (Nat.lt_of_lt_of_le hp h.le) he
theorem Hst.pre {l L : List C} (h : Pre l L) (tr : List Int) : Hst l tr L tr [] := ⟨h.le, by simp, by simp, fun p hp => by rw [h.sAt hp]; exact ⟨rfl, rfl⟩, fun p hp _ => by rw [h.sAt hp], by simp⟩
theorem Hst.bnd {l : List C} {tr : List Int} {p q : Nat} (h : Free1 l p) : Hst l tr (bnd l p q) (tr ++ [(p : Int)]) [(p : Int)] := by
  refine ⟨by rw [bnd_len]; exact Nat.le_refl _, rfl, ?_, ?_, ?_, ?_⟩
  · intro t ht
    simp at ht
    exact ⟨p, ht, by rw [bnd_len]; exact h.lt⟩
  · intro r hr
    by_cases e : r = p
    · subst e; rw [bnd_self h.lt]; exact ⟨rfl, rfl⟩
    · rw [bnd_other e]; exact ⟨rfl, rfl⟩
  · intro r hr hn
    have e : r ≠ p := by rintro rfl; simp at hn
    rw [bnd_other e]
  · intro r hr hy
    have e : r = p := by simp at hy; omega
    subst e
    exact h.own
theorem sAt_setN {l : List C} {i q p : Nat} (hi : i < l.length) : sAt (setN l i q) p = if p = i then { sAt l i with n := (q : Int) } else sAt l p := by
  unfold setN
  conv => lhs; unfold sAt
  by_cases e : p = i
  · subst e; rw [List.getElem?_set_self hi, if_pos rfl]; rfl
  · rw [List.getElem?_set_ne (by omega), if_neg e]; rfl
theorem sAt_setA : ∀ (d : List Int) (L : List C), (∀ t ∈ d, ∃ p : Nat, t = (p : Int) ∧ p < L.length) → ∀ p, sAt (setA L d) p = if (p : Int) ∈ d then { sAt L p with n := (p : Int) } else sAt L p
  | [], L, _, p => by simp [setA]
  | t :: d, L, h, p => by
    obtain ⟨q, rfl, hq⟩ := h t (by simp)
    rw [setA, sAt_setA d (setN L _ _) (fun t ht => by rw [setN_len]; exact h t (by simp [ht])), Int.toNat_natCast, sAt_setN hq]
    by_cases e : p = q
    · subst e
      simp
    · have e2 : ¬ (p : Int) = (q : Int) := by omega
      by_cases hd : (p : Int) ∈ d
      · simp [e, hd]
      · simp [e, e2, hd]
theorem sAt_ext {l L : List C} (h : l.length = L.length) (hs : ∀ p, p < l.length → sAt l p = sAt L p) : l = L := by
  apply List.ext_getElem?
  intro i
  by_cases hi : i < l.length
  · rw [sAt_some hi, sAt_some (by omega), hs i hi]
  · rw [List.getElem?_eq_none (by omega), List.getElem?_eq_none (by omega)]
theorem sAt_take {l : List C} {k p : Nat} (h : p < k) : sAt (l.take k) p = sAt l p := by
  unfold sAt
  rw [List.getElem?_take_of_lt h]
theorem Hst.undo {l L : List C} {tr TR d : List Int} (h : Hst l tr L TR d) : undoL L TR l.length tr.length = l ∧ TR.take tr.length = tr := by
  refine ⟨?_, by rw [h.tr]; simp⟩
  unfold undoL
  rw [h.tr, List.drop_left]
  refine sAt_ext (by rw [List.length_take, setA_len]; have := h.le; omega) fun p hp => ?_
  have hp : p < l.length := by
    rw [List.length_take, setA_len] at hp
    omega
  rw [sAt_take hp, sAt_setA d L h.at_]
  obtain ⟨k1, k2⟩ := h.kind p hp
  split
  · rename_i hy
    have := h.yes p hp hy
    cases hL : sAt L p
    cases hl : sAt l p
    rw [hL, hl] at k1 k2
    rw [hl] at this
    simp only at k1 k2 this
    simp only [k1, k2, this]
  · rename_i hy
    have := h.no p hp hy
    show sAt L p = sAt l p
    cases hL : sAt L p
    cases hl : sAt l p
    rw [hL, hl] at k1 k2 this
    simp only at k1 k2 this
    rw [k1, k2, this]
theorem Hst.drops {l L : List C} {tr TR d : List Int} (h : Hst l tr L TR d) : ∀ t ∈ TR.drop tr.length, ∃ p : Nat, t = (p : Int) ∧ p < L.length := by
  rw [h.tr, List.drop_left]
  exact h.at_
theorem Hst.room {l L : List C} {tr TR d : List Int} (h : Hst l tr L TR d) : tr.length ≤ TR.length := by rw [h.tr]; simp

/-! ### unifying -/
theorem uOne_step {s : US} (h : UOk s) {row : List (Nat × Nat)} {a b : Nat} (hrow : s.row = (a, b) :: row) {s' : US} (hs : uOne s row (fol s.l a) (fol s.l b) = some s') :
    (s'.l = s.l ∧ s'.tr = s.tr) ∨ ∃ p q, Free1 s.l p ∧ q < s.l.length ∧ q ≠ p ∧ ¬ Path s.l q p ∧ s'.l = bnd s.l p q ∧ s'.tr = s.tr ++ [(p : Int)] := by
  obtain ⟨ha, hb⟩ := h.row (a, b) (by rw [hrow]; simp)
  obtain ⟨ex, hx⟩ := h.good.fol_end ha
  obtain ⟨ey, hy⟩ := h.good.fol_end hb
  simp only at ha hb
  generalize fol s.l a = x at *
  generalize fol s.l b = y at *
  unfold uOne at hs
  have free : ∀ z, z < s.l.length → onB s.l z = false → (sAt s.l z).kind = 1 → Free1 s.l z := fun z hz ho k => ⟨hz, k, by rw [on_ref k] at ho; simpa using ho⟩
  by_cases c1 : x = y ∨ (x, y) ∈ s.seen
  · rw [if_pos c1] at hs
    injection hs with hs
    subst hs
    exact .inl ⟨rfl, rfl⟩
  have hxy : x ≠ y := fun e => c1 (.inl e)
  rw [if_neg c1] at hs
  by_cases c2 : (sAt s.l x).kind = 1 ∧ (sAt s.l y).kind = 1
  · rw [if_pos c2] at hs
    injection hs with hs
    subst hs
    have fx := free x hx ex c2.1
    have fy := free y hy ey c2.2
    rcases Nat.le_total x y with e | e
    · exact .inr ⟨y, x, fy, hx, hxy, fun hp => hxy (free_path fx hp).symm, by rw [Nat.max_eq_right e, Nat.min_eq_left e]; rfl, by rw [Nat.max_eq_right e, Nat.min_eq_left e]; rfl⟩
    · exact .inr ⟨x, y, fx, hy, fun e => hxy e.symm, fun hp => hxy (free_path fy hp), by rw [Nat.max_eq_left e, Nat.min_eq_right e]; rfl, by rw [Nat.max_eq_left e, Nat.min_eq_right e]; rfl⟩
  rw [if_neg c2] at hs
  by_cases c3 : (sAt s.l x).kind = 1
  · rw [if_pos c3] at hs
    cases hc : rch s.l y x
    · rw [hc] at hs
      simp at hs
      subst hs
      exact .inr ⟨x, y, free x hx ex c3, hy, fun e => hxy e.symm, (h.good.rch_no hy).1 hc, rfl, rfl⟩
    · rw [hc] at hs; simp at hs
  rw [if_neg c3] at hs
  by_cases c4 : (sAt s.l y).kind = 1
  · rw [if_pos c4] at hs
    cases hc : rch s.l x y
    · rw [hc] at hs
      simp at hs
      subst hs
      exact .inr ⟨y, x, free y hy ey c4, hx, hxy, (h.good.rch_no hx).1 hc, rfl, rfl⟩
    · rw [hc] at hs; simp at hs
  rw [if_neg c4] at hs
  by_cases c5 : (sAt s.l x).beq (sAt s.l y) = true
  · rw [if_pos c5] at hs
    injection hs with hs
    subst hs
    exact .inl ⟨rfl, rfl⟩
  · rw [if_neg c5] at hs; cases hs
theorem uRun_hst : ∀ (k : Nat) (s s' : US), UOk s → uRun k s = some s' → ∃ d, Hst s.l s.tr s'.l s'.tr d
  | 0, s, s', _, hr => by cases hr
  | k + 1, s, s', h, hr => by
    cases hrow : s.row with
    | nil =>
      rw [uRun_zero hrow (by omega)] at hr
      injection hr with hr
      subst hr
      exact ⟨[], Hst.refl _ _⟩
    | cons p row =>
      obtain ⟨a, b⟩ := p
      rw [uRun_step hrow] at hr
      cases ho : uOne s row (fol s.l a) (fol s.l b) with
      | none => rw [ho] at hr; cases hr
      | some s1 =>
        rw [ho] at hr
        obtain ⟨h1, _, h2⟩ := uOne_ok h hrow ho
        obtain ⟨d, hd⟩ := uRun_hst k s1 s' h1 hr
        rcases uOne_step h hrow ho with ⟨e1, e2⟩ | ⟨p, q, hf, _, _, _, e1, e2⟩
        · rw [e1, e2] at hd
          exact ⟨d, hd⟩
        · rw [e1, e2] at hd
          exact ⟨_, (Hst.bnd hf).trans hd⟩
/-- what unifying makes of a heap, or leaves of it -/
def uRes (l : List C) (tr : List Int) (x y : Int) : List C × List Int := (uniZ l tr x y).getD (l, tr)
theorem uni_ok {l : List C} {tr : List Int} {r : Int} (h : OkH ⟨l, tr, r⟩) (x y : Int) : OkH ⟨(uRes l tr x y).1, (uRes l tr x y).2, r⟩ ∧ (uRes l tr x y).1.length = l.length ∧ ∃ d, Hst l tr (uRes l tr x y).1 (uRes l tr x y).2 d := by
  unfold uRes
  cases hu : uniZ l tr x y with
  | none => exact ⟨h, rfl, [], Hst.refl _ _⟩
  | some u =>
    unfold uniZ at hu
    split at hu
    · rename_i hxy
      unfold uniF at hu
      cases hr : uRun (fuelU l.length) ⟨l, tr, [(x.toNat, y.toNat)], []⟩ with
      | none => rw [hr] at hu; cases hu
      | some s =>
        rw [hr] at hu
        simp at hu
        subst hu
        have h0 := start_ok h.good h.tr (a := x.toNat) (b := y.toNat) (by simp only; omega) (by simp only; omega)
        obtain ⟨h1, _, h2⟩ := uRun_ok _ _ _ h0 hr
        exact ⟨⟨h.room1, h.room2, by have := h.fit; simp only [Option.getD_some] at this ⊢; simp only at h2; omega, h1.good, h1.tr⟩, h2, uRun_hst _ _ _ h0 hr⟩
    · cases hu

/-! ### putting -/
theorem TrOk.pre {l L : List C} {tr : List Int} (h : TrOk l tr) (hp : Pre l L) : TrOk L tr := by
  refine ⟨fun t ht => ?_, h.nd⟩
  obtain ⟨p, rfl, h1, h2, h3⟩ := h.at_ t ht
  exact ⟨p, rfl, by have := hp.le; omega, by rw [hp.sAt h1]; exact h2, by rw [hp.sAt h1]; exact h3⟩
/-- a row of places -/
def AtL (n : Nat) (a : List Int) : Prop := ∀ v, atA a v = -1 ∨ ∃ p : Nat, atA a v = (p : Int) ∧ p < n
theorem AtL.ok {l : List C} {a : List Int} (h : AtL l.length a) : AtOk l l.length a := fun v => by
  rcases h v with h | ⟨p, h1, h2⟩
  · exact .inl h
  · exact .inr ⟨p, h1, h2, .inl h2⟩
theorem AtOk.atL {l : List C} {n : Nat} {a : List Int} (h : AtOk l n a) : AtL l.length a := fun v => by
  rcases h v with h | ⟨p, h1, h2, _⟩
  · exact .inl h
  · exact .inr ⟨p, h1, h2⟩
theorem AtL.mono {n m : Nat} {a : List Int} (h : AtL n a) (hnm : n ≤ m) : AtL m a := fun v => by
  rcases h v with h | ⟨p, h1, h2⟩
  · exact .inl h
  · exact .inr ⟨p, h1, by omega⟩
theorem atL_nil (n : Nat) : AtL n [] := fun v => .inl rfl
theorem atL_fits (n : Nat) (a : List Int) : AtL n (fitsF n a) := fun v => by
  unfold atA fitsF
  rw [List.getElem?_map]
  cases (a.take 20)[v]? with
  | none => exact .inl rfl
  | some x =>
    simp only [Option.map_some, Option.getD_some]
    unfold fitI
    split
    · exact .inr ⟨x.toNat, by omega, by omega⟩
    · exact .inl rfl
theorem put_okH {l : List C} {tr : List Int} {r : Int} (h : OkH ⟨l, tr, r⟩) {T : Tm} (ho : T.ok = true) {a : List Int} (ha : AtL l.length a) (hfit : ((putA l T a).1.length : Int) ≤ r) :
    OkH ⟨(putA l T a).1, tr, r⟩ ∧ Pre l (putA l T a).1 ∧ AtL (putA l T a).1.length (putA l T a).2.2 ∧ (putA l T a).2.1 < (putA l T a).1.length := by
  have hr := h.room2
  simp only at hr
  have hp := put_ok h.good ho ha.ok (by simp only; omega)
  exact ⟨⟨h.room1, h.room2, hfit, hp.good, h.tr.pre hp.pre⟩, hp.pre, hp.at_.atL, hp.lt⟩
theorem slotA_row8 {u : Tm} (ho : u.ok = true) (P q : Nat) {a : List Int} (h : a.length ≤ 1000) : (slotA u P q a).2.length ≤ 1000 := by
  cases u with
  | i n => exact h
  | f s us => exact h
  | v n =>
    have hx : n ≤ 999 := by simp [Tm.ok] at ho; omega
    rw [slotA_v]
    split
    · simp only [List.length_set, extA_len_le]; omega
    · simp only [extA_len_le]; omega
theorem slotsA_row8 : ∀ {us : List Tm}, oks us = true → ∀ (P q : Nat) {a : List Int}, a.length ≤ 1000 → (slotsA us P q a).2.length ≤ 1000
  | [], _, _, _, _, h => h
  | u :: us, ho, P, q, a, h => by
    rw [oks_cons, Bool.and_eq_true] at ho
    exact slotsA_row8 ho.2 _ _ (slotA_row8 ho.1 _ _ h)
mutual
theorem layA_row8 : ∀ (T : Tm), T.ok = true → ∀ (P : Nat) (a : List Int), a.length ≤ 1000 → (layA T P a).2.length ≤ 1000
  | .f s us, ho, P, a, h => by
    simp only [Tm.ok, Bool.and_eq_true] at ho
    exact laysA_row8 us ho.2.2 _ _ (slotsA_row8 ho.2.2 _ _ h)
  | .i _, _, _, _, h => h
  | .v _, _, _, _, h => h
theorem laysA_row8 : ∀ (us : List Tm), oks us = true → ∀ (P : Nat) (a : List Int), a.length ≤ 1000 → (laysA us P a).2.length ≤ 1000
  | [], _, _, _, h => h
  | u :: us, ho, P, a, h => by
    rw [oks_cons, Bool.and_eq_true] at ho
    exact laysA_row8 us ho.2 _ _ (layA_row8 u ho.1 _ _ h)
end
theorem putA_row8 {T : Tm} (ho : T.ok = true) (l : List C) {a : List Int} (h : a.length ≤ 1000) : (putA l T a).2.2.length ≤ 1000 := by
  cases T with
  | f s us => exact layA_row8 _ ho _ _ h
  | i n => exact h
  | v n =>
    have hx : n ≤ 999 := by simp [Tm.ok] at ho; omega
    simp only [putA]
    split
    · simp only [List.length_set, extA_len_le]; omega
    · simp only [extA_len_le]; omega
end Go.Proofs.Ytlndjooddkjnoaa
