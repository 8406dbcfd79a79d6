/- Texts of this proof that belong together: words of memory, plain laws, walks. -/
import Derived.Test.YtgipiplklaeplaaDoorB20
set_option linter.unusedVariables false
set_option linter.unusedSimpArgs false
namespace Go.Proofs.YtgipiplklaeplaaDoor
open Go.RowKit
theorem size_mem8 {us : List Tm} {u : Tm} (h : u ∈ us) : u.size ≤ sizes us := by
 induction us with
 | nil => cases h
 | cons a us ih =>
  rcases List.mem_cons.1 h with rfl | h
  ·simp only [sizes]; omega
  ·have := ih h; simp only [sizes]; omega
structure Mod (l : List C) (σ : Nat → Tm) : Prop where
 on : ∀ p, onB l p = true → σ p = σ (nx l p)
 num : ∀ p, (sAt l p).kind = 2 → σ p = .i (sAt l p).n
 top : ∀ p, (sAt l p).kind = 4 → σ p = .f (sAt l p).name ((List.range (sAt l p).n.toNat).map fun i => σ (p + 1 + i))
theorem Mod.fol {l : List C} (h : Good l) {σ : Nat → Tm} (m : Mod l σ) : ∀ p, p < l.length → σ p = σ (fol l p) := by
 refine h.induct fun p hp ih => ?_
 cases ho : onB l p
 ·rw [fol_here ho]
 ·rw [h.fol_step ho, m.on p ho]
  exact ih _ (by rw [leads_on ho]; simp)
theorem Mod.size_le {l : List C} {σ : Nat → Tm} (m : Mod l σ) {p q : Nat} (h : Path l p q) : (σ q).size ≤ (σ p).size := by
 induction h with
 | refl p => exact Nat.le_refl _
 | step hq _ ih =>
  refine Nat.le_trans ih ?_
  rename_i p q r _
  cases ho : onB l p
  ·by_cases k : (sAt l p).kind = 4
   ·rw [leads_top k] at hq
    obtain ⟨i, hi, rfl⟩ := List.mem_map.1 hq
    rw [m.top p k]
    have h2 := size_mem8 (List.mem_map.2 ⟨i, hi, rfl⟩ : σ (p + 1 + i) ∈ (List.range (sAt l p).n.toNat).map fun i => σ (p + 1 + i))
    simp only [Tm.size]
    omega
   ·rw [leads_no ho k] at hq; cases hq
  ·rw [leads_on ho] at hq
   simp at hq
   subst hq
   rw [m.on p ho]
   exact Nat.le_refl _
theorem Mod.size_lt {l : List C} {σ : Nat → Tm} (m : Mod l σ) {p q : Nat} (k : (sAt l p).kind = 4) (h : Path l p q) (hne : p ≠ q) : (σ q).size < (σ p).size := by
 cases h with
 | refl => exact absurd rfl hne
 | step hq hp =>
  rename_i r
  have h1 := m.size_le hp
  rw [leads_top k] at hq
  obtain ⟨i, hi, rfl⟩ := List.mem_map.1 hq
  have h2 := size_mem8 (List.mem_map.2 ⟨i, hi, rfl⟩ : σ (p + 1 + i) ∈ (List.range (sAt l p).n.toNat).map fun i => σ (p + 1 + i))
  have h3 : (σ p).size = 1 + sizes ((List.range (sAt l p).n.toNat).map fun i => σ (p + 1 + i)) := by rw [m.top p k]; rfl
  omega
theorem Mod.bnd {l : List C} {σ : Nat → Tm} (m : Mod l σ) {p q : Nat} (hf : Free1 l p) (hne : q ≠ p) (he : σ p = σ q) : Mod (bnd l p q) σ := by
 have hn : nx (Go.Proofs.YtgipiplklaeplaaDoor.bnd l p q) p = q := by unfold nx; rw [bnd_self hf.lt]; simp
 refine ⟨fun r hr => ?_, fun r hr => ?_, fun r hr => ?_⟩
 ·by_cases e : r = p
  ·subst e
   rw [hn]; exact he
  ·rw [bnd_on_other e] at hr
   have : nx (Go.Proofs.YtgipiplklaeplaaDoor.bnd l p q) r = nx l r := by unfold nx; rw [bnd_other e]
   rw [this]
   exact m.on r hr
 ·rw [bnd_kind hf.lt] at hr
  have e : r ≠ p := by rintro rfl; have := hf.kind; omega
  rw [bnd_other e]
  exact m.num r hr
 ·rw [bnd_kind hf.lt] at hr
  have e : r ≠ p := by rintro rfl; have := hf.kind; omega
  rw [bnd_other e]
  exact m.top r hr
theorem Mod.den {l : List C} (h : Good l) {σ : Nat → Tm} (m : Mod l σ) : ∀ p, p < l.length → σ p = (den l p).sub (fun n => σ n.toNat) := by
 refine h.induct fun p hp ih => ?_
 cases ho : onB l p
 ·rcases ok_kind (shp_at h.shp hp) with k | k | k | k
  ·have hf : Free1 l p := ⟨hp, k, by rw [on_ref k] at ho; simpa using ho⟩
   rw [h.den_free hf]
   simp [Tm.sub]
  ·rw [h.den_num k, m.num p k]; rfl
  ·rw [on_ptr k] at ho; cases ho
  ·rw [h.den_top k, m.top p k, Tm.sub, subs_map, List.map_map]
   refine congrArg _ (List.map_congr_left fun i hi => ?_)
   exact ih _ (by rw [leads_top k]; exact List.mem_map.2 ⟨i, hi, rfl⟩)
 ·rw [h.den_step ho, m.on p ho]
  exact ih _ (by rw [leads_on ho]; simp)
theorem Good.mod {l : List C} (h : Good l) (S : Int → Tm) : Mod l (fun p => (den l p).sub S) :=
 ⟨fun p ho => by simp only [h.den_step ho], fun p k => by simp only [h.den_num k]; rfl, fun p k => by
  simp only [h.den_top k, Tm.sub, subs_map, List.map_map]; rfl⟩
theorem Hst.mod {l L : List C} {tr TR d : List Int} (h : Hst l tr L TR d) (ht : TrOk L TR) {σ : Nat → Tm} (m : Mod L σ) : Mod l σ := by
 have lt : ∀ p k, 0 < k → (sAt l p).kind = k → p < l.length := fun p k hk hkk => by
  rcases Nat.lt_or_ge p l.length with h | h
  ·exact h
  ·rw [sAt_past h] at hkk; simp at hkk; omega
 have hk : ∀ p, p < l.length → (p : Int) ∈ d → (sAt l p).kind = 1 := fun p hp hd => by
  obtain ⟨q, hq, _, h2, _⟩ := ht.at_ (p : Int) (by rw [h.tr]; exact List.mem_append.2 (.inr hd))
  have : q = p := by omega
  subst this
  rw [← (h.kind q hp).1]; exact h2
 refine ⟨fun p ho => ?_, fun p k => ?_, fun p k => ?_⟩
 ·have hp := on_lt ho
  obtain ⟨h1, h2⟩ := h.kind p hp
  have hd : (p : Int) ∉ d := fun hd => by
   rcases on_kind ho with ⟨_, h4⟩ | h4
   ·exact h4 (h.yes p hp hd)
   ·have := hk p hp hd; omega
  have h5 := h.no p hp hd
  have hoL : onB L p = true := by unfold onB at ho ⊢; rw [h1, h5]; exact ho
  have := m.on p hoL
  unfold nx at this ⊢
  rw [h5] at this
  exact this
 ·have hp : p < l.length := by
   rcases Nat.lt_or_ge p l.length with h | h
   ·exact h
   ·rw [sAt_past h] at k; simp at k
  obtain ⟨h1, h2⟩ := h.kind p hp
  have h5 := h.no p hp (fun hd => by have := hk p hp hd; omega)
  rw [m.num p (by rw [h1]; exact k), h5]
 ·have hp : p < l.length := by
   rcases Nat.lt_or_ge p l.length with h | h
   ·exact h
   ·rw [sAt_past h] at k; simp at k
  obtain ⟨h1, h2⟩ := h.kind p hp
  have h5 := h.no p hp (fun hd => by have := hk p hp hd; omega)
  rw [m.top p (by rw [h1]; exact k), h5, h2]
theorem beq_refl8 (c : C) : c.beq c = true := by
 cases c
 simp [C.beq]
theorem uOne_mod {s : US} (h : UOk s) {row : List (Nat × Nat)} {a b : Nat} (hrow : s.row = (a, b) :: row) {σ : Nat → Tm} (m : Mod s.l σ) (he : ∀ p ∈ s.row, σ p.1 = σ p.2) :
  ∃ s', uOne s row (fol s.l a) (fol s.l b) = some s' ∧ Mod s'.l σ ∧ ∀ p ∈ s'.row, σ p.1 = σ p.2 := by
 obtain ⟨ha, hb⟩ := h.row (a, b) (by rw [hrow]; simp)
 have hr : ∀ p ∈ row, σ p.1 = σ p.2 := fun p hp => he p (by rw [hrow]; simp [hp])
 have hab := he (a, b) (by rw [hrow]; simp)
 simp only at ha hb hab
 rw [m.fol h.good a ha, m.fol h.good b hb] at hab
 obtain ⟨ex, hx⟩ := h.good.fol_end ha
 obtain ⟨ey, hy⟩ := h.good.fol_end hb
 have kx := h.good.fol_kind ha
 have ky := h.good.fol_kind hb
 generalize fol s.l a = x at *
 generalize fol s.l b = y at *
 have free : ∀ z, z < s.l.length → onB s.l z = false → (sAt s.l z).kind = 1 → Free1 s.l z := fun z hz ho k => ⟨hz, k, by rw [on_ref k] at ho; simpa using ho⟩
 unfold uOne
 by_cases c1 : x = y ∨ (x, y) ∈ s.seen
 ·rw [if_pos c1]
  exact ⟨_, rfl, m, hr⟩
 rw [if_neg c1]
 have hxy : x ≠ y := fun e => c1 (.inl e)
 by_cases c2 : (sAt s.l x).kind = 1 ∧ (sAt s.l y).kind = 1
 ·rw [if_pos c2]
  refine ⟨_, rfl, ?_, hr⟩
  have fx := free x hx ex c2.1
  have fy := free y hy ey c2.2
  rcases Nat.le_total x y with e | e
  ·rw [Nat.max_eq_right e, Nat.min_eq_left e]
   exact m.bnd fy hxy hab.symm
  ·rw [Nat.max_eq_left e, Nat.min_eq_right e]
   exact m.bnd fx (fun e => hxy e.symm) hab
 rw [if_neg c2]
 by_cases c3 : (sAt s.l x).kind = 1
 ·rw [if_pos c3]
  have k4 : (sAt s.l y).kind = 2 ∨ (sAt s.l y).kind = 4 := by
   rcases ky with ⟨k, _⟩ | k | k
   ·exact absurd ⟨c3, k⟩ c2
   ·exact .inl k
   ·exact .inr k
  cases hc : rch s.l y x
  ·exact ⟨_, rfl, m.bnd (free x hx ex c3) (fun e => hxy e.symm) hab, hr⟩
  ·exfalso
   have hp := (h.good.rch_iff hy).1 hc
   rcases k4 with k | k
   ·cases hp with
    | refl => exact hxy rfl
    | step hq _ => rw [leads_no ey (by omega)] at hq; cases hq
   ·have := m.size_lt k hp (fun e => hxy e.symm)
    rw [hab] at this
    omega
 rw [if_neg c3]
 by_cases c4 : (sAt s.l y).kind = 1
 ·rw [if_pos c4]
  have k4 : (sAt s.l x).kind = 2 ∨ (sAt s.l x).kind = 4 := by
   rcases kx with ⟨k, _⟩ | k | k
   ·exact absurd k c3
   ·exact .inl k
   ·exact .inr k
  cases hc : rch s.l x y
  ·exact ⟨_, rfl, m.bnd (free y hy ey c4) hxy hab.symm, hr⟩
  ·exfalso
   have hp := (h.good.rch_iff hx).1 hc
   rcases k4 with k | k
   ·cases hp with
    | refl => exact hxy rfl
    | step hq _ => rw [leads_no ex (by omega)] at hq; cases hq
   ·have := m.size_lt k hp hxy
    rw [hab] at this
    omega
 rw [if_neg c4]
 have kx2 : (sAt s.l x).kind = 2 ∨ (sAt s.l x).kind = 4 := by
  rcases kx with ⟨k, _⟩ | k | k
  ·exact absurd k c3
  ·exact .inl k
  ·exact .inr k
 have ky2 : (sAt s.l y).kind = 2 ∨ (sAt s.l y).kind = 4 := by
  rcases ky with ⟨k, _⟩ | k | k
  ·exact absurd k c4
  ·exact .inl k
  ·exact .inr k
 have hsame : sAt s.l x = sAt s.l y ∧ ∀ p ∈ argPairs x y (sAt s.l x), σ p.1 = σ p.2 := by
  rcases kx2 with k | k
  ·have e1 := m.num x k
   rcases ky2 with k' | k'
   ·have e2 := m.num y k'
    rw [hab, e2] at e1
    injection e1 with e1
    have n1 := (ok_num (shp_at h.good.shp hx) k).1
    have n2 := (ok_num (shp_at h.good.shp hy) k').1
    refine ⟨?_, fun p hp => by unfold argPairs at hp; rw [if_neg (by omega)] at hp; cases hp⟩
    generalize sAt s.l x = c at *
    generalize sAt s.l y = c' at *
    cases c; cases c'
    simp only at k k' n1 n2 e1
    rw [k, k', n1, n2, e1]
   ·rw [hab, m.top y k'] at e1
    cases e1
  ·have e1 := m.top x k
   rcases ky2 with k' | k'
   ·rw [hab, m.num y k'] at e1
    cases e1
   ·have e2 := m.top y k'
    rw [hab, e2] at e1
    injection e1 with e1 e3
    have hl := congrArg List.length e3
    simp at hl
    have t1 := ok_top (shp_at h.good.shp hx) k
    have t2 := ok_top (shp_at h.good.shp hy) k'
    have hn : (sAt s.l x).n = (sAt s.l y).n := by omega
    refine ⟨?_, fun p hp => ?_⟩
    ·generalize sAt s.l x = c at *
     generalize sAt s.l y = c' at *
     cases c; cases c'
     simp only at k k' hn e1
     rw [k, k', hn, e1]
    ·unfold argPairs at hp
     rw [if_pos k] at hp
     obtain ⟨i, hi, rfl⟩ := List.mem_map.1 hp
     have hi' := List.mem_range.1 hi
     have := congrArg (fun q : List Tm => q[i]?) e3
     simp only [List.getElem?_map, List.getElem?_range (show i < (sAt s.l y).n.toNat by omega), List.getElem?_range hi', Option.map_some] at this
     injection this with this
     exact this.symm
 have hb : (sAt s.l x).beq (sAt s.l y) = true := by rw [hsame.1]; exact beq_refl8 _
 rw [if_pos hb]
 refine ⟨_, rfl, m, fun p hp => ?_⟩
 rcases List.mem_append.1 hp with hp | hp
 ·exact hsame.2 p hp
 ·exact hr p hp
theorem uRun_mod : ∀ (k : Nat) (s : US), UOk s → s.mu < k → ∀ {σ : Nat → Tm}, Mod s.l σ → (∀ p ∈ s.row, σ p.1 = σ p.2) → ∃ s', uRun k s = some s' ∧ Mod s'.l σ
 | 0, s, _, hm, _, _, _ => by omega
 | k + 1, s, h, hm, σ, m, he => by
  cases hrow : s.row with
  | nil => exact ⟨s, uRun_zero hrow (by omega), m⟩
  | cons p row =>
   obtain ⟨a, b⟩ := p
   obtain ⟨s', h1, h2, h3⟩ := uOne_mod h hrow m he
   obtain ⟨o1, o2, o3⟩ := uOne_ok h hrow h1
   obtain ⟨s2, r1, r2⟩ := uRun_mod k s' o1 (by omega) h2 h3
   exact ⟨s2, by rw [uRun_step hrow, h1]; exact r1, r2⟩
theorem uniF_mod {l : List C} {tr : List Int} (hg : Good l) (ht : TrOk l tr) {a b : Nat} (ha : a < l.length) (hb : b < l.length) {σ : Nat → Tm} (m : Mod l σ) (he : σ a = σ b) :
  ∃ L TR, uniF l tr a b = some (L, TR) ∧ Mod L σ := by
 obtain ⟨s', h1, h2⟩ := uRun_mod (fuelU l.length) ⟨l, tr, [(a, b)], []⟩ (start_ok hg ht ha hb) (start_mu l tr a b) m (fun p hp => by simp at hp; subst hp; exact he)
 exact ⟨s'.l, s'.tr, by unfold uniF; rw [h1]; rfl, h2⟩
end Go.Proofs.YtgipiplklaeplaaDoor
namespace Go.Proofs.YtgipiplklaeplaaDoor
open Go.RowKit
theorem bnd_fol_no {l : List C} (h : Good l) {p q : Nat} (hf : Free1 l p) (hq : q < l.length) (hn : ¬ Path l q p) : ∀ a, a < l.length → ¬ Path l a p → fol (bnd l p q) a = fol l a := by
 have h' := h.bind hf hq hn
 refine h.induct (M := fun a => ¬ Path l a p → fol (bnd l p q) a = fol l a) fun a ha ih hna => ?_
 have hap : a ≠ p := by rintro rfl; exact hna (.refl _)
 cases ho : onB l a
 ·rw [fol_here ho, fol_here (by rw [bnd_on_other hap]; exact ho)]
 ·have hm : nx l a ∈ leads l a := by rw [leads_on ho]; simp
  rw [h.fol_step ho, h'.fol_step (by rw [bnd_on_other hap]; exact ho)]
  have : nx (bnd l p q) a = nx l a := by unfold nx; rw [bnd_other hap]
  rw [this]
  exact ih _ hm (fun hp => hna (.step hm hp))
theorem bnd_fol {l : List C} (h : Good l) {p q : Nat} (hf : Free1 l p) (hq : q < l.length) (hn : ¬ Path l q p) : ∀ a, a < l.length → fol (bnd l p q) a = if fol l a = p then fol l q else fol l a := by
 have h' := h.bind hf hq hn
 have hne : q ≠ p := by rintro rfl; exact hn (.refl _)
 refine h.induct (M := fun a => fol (bnd l p q) a = if fol l a = p then fol l q else fol l a) fun a ha ih => ?_
 by_cases hap : a = p
 ·subst hap
  rw [fol_here hf.on, if_pos rfl, h'.fol_step (bnd_on_self hf hne)]
  have : nx (bnd l a q) a = q := by unfold nx; rw [bnd_self hf.lt]; simp
  rw [this]
  exact bnd_fol_no h hf hq hn q hq hn
 ·cases ho : onB l a
  ·rw [fol_here ho, fol_here (by rw [bnd_on_other hap]; exact ho), if_neg hap]
  ·have hm : nx l a ∈ leads l a := by rw [leads_on ho]; simp
   have : nx (bnd l p q) a = nx l a := by unfold nx; rw [bnd_other hap]
   rw [h.fol_step ho, h'.fol_step (by rw [bnd_on_other hap]; exact ho), this]
   exact ih _ hm
def Settled (s : US) (p : Nat × Nat) : Prop := fol s.l p.1 = fol s.l p.2 ∨ (fol s.l p.1, fol s.l p.2) ∈ s.seen
structure UAll (s : US) (K : List (Nat × Nat)) : Prop where
 lt : ∀ p ∈ K, p.1 < s.l.length ∧ p.2 < s.l.length
 all : ∀ p ∈ K, p ∈ s.row ∨ Settled s p
 same : ∀ p ∈ s.seen, sAt s.l p.1 = sAt s.l p.2 ∧ (sAt s.l p.1).kind ≠ 1 ∧ onB s.l p.1 = false ∧ onB s.l p.2 = false
 args : ∀ p ∈ s.seen, ∀ a ∈ argPairs p.1 p.2 (sAt s.l p.1), a ∈ K
theorem UAll.start {l : List C} {tr : List Int} {a b : Nat} (ha : a < l.length) (hb : b < l.length) : UAll ⟨l, tr, [(a, b)], []⟩ [(a, b)] :=
 ⟨fun p hp => by simp at hp; subst hp; exact ⟨ha, hb⟩, fun p hp => .inl hp, by simp, by simp⟩
theorem UAll.bound {s : US} {K row : List (Nat × Nat)} {a b p q : Nat} (h : UAll s K) (hg : Good s.l) (hrow : s.row = (a, b) :: row) (hf : Free1 s.l p) (hq : q < s.l.length) (hn : ¬ Path s.l q p) (hseen : ∀ p ∈ s.seen, p.1 < s.l.length ∧ p.2 < s.l.length)
  (hab : (fol s.l a = p ∧ fol s.l b = q) ∨ (fol s.l b = p ∧ fol s.l a = q)) (hfq : fol s.l q = q) : UAll (s.bound row p q) K := by
 have hne : q ≠ p := by rintro rfl; exact hn (.refl _)
 have hb := bnd_fol hg hf hq hn
 have old : ∀ x, (sAt s.l x).kind ≠ 1 → sAt (bnd s.l p q) x = sAt s.l x := fun x hx => bnd_other (by rintro rfl; exact hx hf.kind)
 refine ⟨fun x hx => by simp only [US.bound, bnd_len]; exact h.lt x hx, fun x hx => ?_, fun x hx => ?_, fun x hx => ?_⟩
 ·obtain ⟨l1, l2⟩ := h.lt x hx
  have set : ∀ {x : Nat × Nat}, x.1 < s.l.length → x.2 < s.l.length → Settled s x → Settled (s.bound row p q) x := by
   intro x l1 l2 hs
   unfold Settled
   simp only [US.bound]
   rw [hb _ l1, hb _ l2]
   rcases hs with e | e
   ·rw [e]; exact .inl rfl
   ·obtain ⟨k1, k2, _⟩ := h.same _ e
    simp only at k1 k2
    rw [if_neg (fun e => k2 (by rw [e]; exact hf.kind)), if_neg (fun e => k2 (by rw [k1, e]; exact hf.kind))]
    exact .inr e
  rcases h.all x hx with hr | hs
  ·rw [hrow] at hr
   rcases List.mem_cons.1 hr with rfl | hr
   ·refine .inr (.inl ?_)
    simp only [US.bound] at *
    rw [hb _ l1, hb _ l2]
    rcases hab with ⟨e1, e2⟩ | ⟨e1, e2⟩
    ·rw [e1, e2, if_pos rfl, if_neg hne, hfq]
    ·rw [e1, e2, if_pos rfl, if_neg hne, hfq]
   ·exact .inl hr
  ·exact .inr (set l1 l2 hs)
 ·obtain ⟨k1, k2, k3, k4⟩ := h.same x hx
  have n1 : x.1 ≠ p := fun e => k2 (by rw [e]; exact hf.kind)
  have n2 : x.2 ≠ p := fun e => k2 (by rw [k1, e]; exact hf.kind)
  show sAt (bnd s.l p q) x.1 = sAt (bnd s.l p q) x.2 ∧ _
  refine ⟨by rw [bnd_other n1, bnd_other n2]; exact k1, ?_, ?_, ?_⟩
  ·show (sAt (bnd s.l p q) x.1).kind ≠ 1
   rw [bnd_other n1]; exact k2
  ·show onB (bnd s.l p q) x.1 = false
   rw [bnd_on_other n1]; exact k3
  ·show onB (bnd s.l p q) x.2 = false
   rw [bnd_on_other n2]; exact k4
 ·obtain ⟨k1, k2, _⟩ := h.same x hx
  intro y hy
  have n1 : x.1 ≠ p := fun e => k2 (by rw [e]; exact hf.kind)
  simp only [US.bound] at hy
  rw [bnd_other n1] at hy
  exact h.args x hx y hy
theorem uOne_all {s : US} {K : List (Nat × Nat)} (ok : UOk s) (h : UAll s K) {row : List (Nat × Nat)} {a b : Nat} (hrow : s.row = (a, b) :: row) {s' : US} (hs : uOne s row (fol s.l a) (fol s.l b) = some s') : ∃ K', UAll s' K' ∧ ∀ p ∈ K, p ∈ K' := by
 obtain ⟨ha, hb⟩ := ok.row (a, b) (by rw [hrow]; simp)
 obtain ⟨ex, hx⟩ := ok.good.fol_end ha
 obtain ⟨ey, hy⟩ := ok.good.fol_end hb
 have kx := ok.good.fol_kind ha
 have ky := ok.good.fol_kind hb
 simp only at ha hb
 obtain ⟨x, hxe⟩ : ∃ x, fol s.l a = x := ⟨_, rfl⟩
 obtain ⟨y, hye⟩ : ∃ y, fol s.l b = y := ⟨_, rfl⟩
 simp only at ex hx ey hy kx ky
 rw [hxe] at ex hx kx hs
 rw [hye] at ey hy ky hs
 have fx : fol s.l x = x := fol_here ex
 have fy : fol s.l y = y := fol_here ey
 unfold uOne at hs
 have free : ∀ z, z < s.l.length → onB s.l z = false → (sAt s.l z).kind = 1 → Free1 s.l z := fun z hz ho k => ⟨hz, k, by rw [on_ref k] at ho; simpa using ho⟩
 by_cases c1 : x = y ∨ (x, y) ∈ s.seen
 ·rw [if_pos c1] at hs
  injection hs with hs
  subst hs
  refine ⟨K, ⟨h.lt, fun p hp => ?_, h.same, h.args⟩, fun p hp => hp⟩
  rcases h.all p hp with hr | hs
  ·rw [hrow] at hr
   rcases List.mem_cons.1 hr with rfl | hr
   ·refine .inr ?_
    show fol s.l a = fol s.l b ∨ (fol s.l a, fol s.l b) ∈ s.seen
    rw [hxe, hye]; exact c1
   ·exact .inl hr
  ·exact .inr hs
 rw [if_neg c1] at hs
 have hxy : x ≠ y := fun e => c1 (.inl e)
 by_cases c2 : (sAt s.l x).kind = 1 ∧ (sAt s.l y).kind = 1
 ·rw [if_pos c2] at hs
  injection hs with hs
  subst hs
  have frx := free x hx ex c2.1
  have fry := free y hy ey c2.2
  rcases Nat.le_total x y with e | e
  ·rw [Nat.max_eq_right e, Nat.min_eq_left e]
   exact ⟨K, h.bound ok.good hrow fry hx (fun hp => hxy ((free_path frx hp).symm)) ok.seen (.inr ⟨hye, hxe⟩) fx, fun p hp => hp⟩
  ·rw [Nat.max_eq_left e, Nat.min_eq_right e]
   exact ⟨K, h.bound ok.good hrow frx hy (fun hp => hxy (free_path fry hp)) ok.seen (.inl ⟨hxe, hye⟩) fy, fun p hp => hp⟩
 rw [if_neg c2] at hs
 by_cases c3 : (sAt s.l x).kind = 1
 ·rw [if_pos c3] at hs
  cases hc : rch s.l y x
  ·rw [hc] at hs
   simp at hs
   subst hs
   exact ⟨K, h.bound ok.good hrow (free x hx ex c3) hy ((ok.good.rch_no hy).1 hc) ok.seen (.inl ⟨hxe, hye⟩) fy, fun p hp => hp⟩
  ·rw [hc] at hs; simp at hs
 rw [if_neg c3] at hs
 by_cases c4 : (sAt s.l y).kind = 1
 ·rw [if_pos c4] at hs
  cases hc : rch s.l x y
  ·rw [hc] at hs
   simp at hs
   subst hs
   exact ⟨K, h.bound ok.good hrow (free y hy ey c4) hx ((ok.good.rch_no hx).1 hc) ok.seen (.inr ⟨hye, hxe⟩) fx, fun p hp => hp⟩
  ·rw [hc] at hs; simp at hs
 rw [if_neg c4] at hs
 by_cases c5 : (sAt s.l x).beq (sAt s.l y) = true
 ·rw [if_pos c5] at hs
  injection hs with hs
  subst hs
  have he := beq_true c5
  have ho := shp_at ok.good.shp hx
  have hoy := shp_at ok.good.shp hy
  refine ⟨argPairs x y (sAt s.l x) ++ K, ⟨?_, ?_, ?_, ?_⟩, fun p hp => List.mem_append.2 (.inr hp)⟩
  ·intro p hp
   rcases List.mem_append.1 hp with hp | hp
   ·unfold argPairs at hp
    split at hp
    ·rename_i k4
     obtain ⟨i, hi, rfl⟩ := List.mem_map.1 hp
     have h1 := ok_top ho k4
     have h2 := ok_top hoy (by rw [← he]; exact k4)
     rw [← he] at h2
     simp at hi
     simp only
     omega
    ·cases hp
   ·exact h.lt p hp
  ·intro p hp
   rcases List.mem_append.1 hp with hp | hp
   ·exact .inl (List.mem_append.2 (.inl hp))
   ·rcases h.all p hp with hr | hs
    ·rw [hrow] at hr
     rcases List.mem_cons.1 hr with rfl | hr
     ·refine .inr (.inr ?_)
      show (fol s.l a, fol s.l b) ∈ (x, y) :: s.seen
      rw [hxe, hye]; simp
     ·exact .inl (List.mem_append.2 (.inr hr))
    ·refine .inr ?_
     rcases hs with e | e
     ·exact .inl e
     ·exact .inr (List.mem_cons.2 (.inr e))
  ·intro p hp
   rcases List.mem_cons.1 hp with rfl | hp
   ·exact ⟨he, c3, ex, ey⟩
   ·exact h.same p hp
  ·intro p hp q hq
   rcases List.mem_cons.1 hp with rfl | hp
   ·exact List.mem_append.2 (.inl hq)
   ·exact List.mem_append.2 (.inr (h.args p hp q hq))
 ·rw [if_neg c5] at hs; cases hs
theorem uRun_all : ∀ (k : Nat) (s s' : US) (K : List (Nat × Nat)), UOk s → UAll s K → uRun k s = some s' → ∃ K', UAll s' K' ∧ ∀ p ∈ K, p ∈ K'
 | 0, s, s', K, _, _, hr => by cases hr
 | k + 1, s, s', K, ok, h, hr => by
  cases hrow : s.row with
  | nil =>
   rw [uRun_zero hrow (by omega)] at hr
   injection hr with hr
   subst hr
   exact ⟨K, h, fun p hp => hp⟩
  | cons p row =>
   obtain ⟨a, b⟩ := p
   rw [uRun_step hrow] at hr
   cases ho : uOne s row (fol s.l a) (fol s.l b) with
   | none => rw [ho] at hr; cases hr
   | some s1 =>
    rw [ho] at hr
    obtain ⟨K1, h1, i1⟩ := uOne_all ok h hrow ho
    obtain ⟨K2, h2, i2⟩ := uRun_all k s1 s' K1 (uOne_ok ok hrow ho).1 h1 hr
    exact ⟨K2, h2, fun p hp => i2 p (i1 p hp)⟩
theorem UAll.alike {s : US} {K : List (Nat × Nat)} (ok : UOk s) (h : UAll s K) (hrow : s.row = []) : ∀ p ∈ K, den s.l p.1 = den s.l p.2 := by
 have seen : ∀ p, p < s.l.length → ∀ y, (fol s.l p, y) ∈ s.seen → den s.l (fol s.l p) = den s.l y := by
  refine ok.good.induct (M := fun p => ∀ y, (fol s.l p, y) ∈ s.seen → den s.l (fol s.l p) = den s.l y) fun x hx ih y hy => ?_
  cases hox : onB s.l x
  ·rw [fol_here hox] at hy ⊢
   obtain ⟨k1, k2, k3, k4⟩ := h.same _ hy
   obtain ⟨_, hyl⟩ := ok.seen _ hy
   simp only at k1 k2 k3 k4 hyl
   rcases ok_kind (shp_at ok.good.shp hx) with k | k | k | k
   ·exact absurd k k2
   ·rw [ok.good.den_num k, ok.good.den_num (by rw [← k1]; exact k), k1]
   ·rw [on_ptr k] at k3; cases k3
   ·rw [ok.good.den_top k, ok.good.den_top (by rw [← k1]; exact k), ← k1]
    congr 1
    apply List.map_congr_left
    intro i hi
    have hm : (x + 1 + i, y + 1 + i) ∈ argPairs x y (sAt s.l x) := by
     unfold argPairs
     rw [if_pos k]
     exact List.mem_map.2 ⟨i, hi, rfl⟩
    have hK := h.args _ hy _ hm
    obtain ⟨b1, b2⟩ := h.lt _ hK
    simp only at b1 b2
    rcases h.all _ hK with hr | hs
    ·rw [hrow] at hr; cases hr
    ·rcases hs with e | e
     ·simp only at e
      rw [← ok.good.den_fol b1, ← ok.good.den_fol b2, e]
     ·simp only at e
      rw [← ok.good.den_fol b1, ← ok.good.den_fol b2]
      exact ih _ (by rw [leads_top k]; exact List.mem_map.2 ⟨i, hi, rfl⟩) _ e
  ·have := ih (nx s.l x) (by rw [leads_on hox]; simp)
   rw [ok.good.fol_step hox] at hy ⊢
   exact this y hy
 intro p hp
 obtain ⟨b1, b2⟩ := h.lt _ hp
 rcases h.all _ hp with hr | hs
 ·rw [hrow] at hr; cases hr
 ·rcases hs with e | e
  ·rw [← ok.good.den_fol b1, ← ok.good.den_fol b2, e]
  ·rw [← ok.good.den_fol b1, ← ok.good.den_fol b2]
   exact seen _ b1 _ e
theorem den_kind1 {l : List C} (h : Good l) {x : Nat} (hx : x < l.length) (ho : onB l x = false) (k : (sAt l x).kind = 1) : den l x = .v x := h.den_free ⟨hx, k, by rw [on_ref k] at ho; simpa using ho⟩
theorem uRun_same : ∀ (k : Nat) (s : US), UOk s → (∀ p ∈ s.row, den s.l p.1 = den s.l p.2) → s.mu < k → ∃ s', uRun k s = some s' ∧ s'.l = s.l ∧ s'.tr = s.tr
 | 0, s, _, _, h => by omega
 | k + 1, s, ok, hall, hmu => by
  cases hrow : s.row with
  | nil => exact ⟨s, uRun_zero hrow (by omega), rfl, rfl⟩
  | cons p row =>
   obtain ⟨a, b⟩ := p
   have hab := hall (a, b) (by rw [hrow]; simp)
   obtain ⟨ha, hb⟩ := ok.row (a, b) (by rw [hrow]; simp)
   obtain ⟨ex, hx⟩ := ok.good.fol_end ha
   obtain ⟨ey, hy⟩ := ok.good.fol_end hb
   simp only at ha hb hab ex hx ey hy
   rw [← ok.good.den_fol ha, ← ok.good.den_fol hb] at hab
   have key : ∃ s1, uOne s row (fol s.l a) (fol s.l b) = some s1 ∧ s1.l = s.l ∧ s1.tr = s.tr ∧ ∀ p ∈ s1.row, den s.l p.1 = den s.l p.2 := by
    have hrest : ∀ p ∈ row, den s.l p.1 = den s.l p.2 := fun p hp => hall p (by rw [hrow]; simp [hp])
    generalize fol s.l a = x at *
    generalize fol s.l b = y at *
    unfold uOne
    by_cases c1 : x = y ∨ (x, y) ∈ s.seen
    ·rw [if_pos c1]
     exact ⟨_, rfl, rfl, rfl, hrest⟩
    rw [if_neg c1]
    have hxy : x ≠ y := fun e => c1 (.inl e)
    have nv : ∀ z, z < s.l.length → onB s.l z = false → (sAt s.l z).kind ≠ 1 → (sAt s.l z).kind = 2 ∨ (sAt s.l z).kind = 4 := by
     intro z hz hoz k1
     rcases ok_kind (shp_at ok.good.shp hz) with k | k | k | k
     ·exact absurd k k1
     ·exact .inl k
     ·rw [on_ptr k] at hoz; cases hoz
     ·exact .inr k
    have c3 : ¬ (sAt s.l x).kind = 1 := by
     intro k
     have d1 := den_kind1 ok.good hx ex k
     by_cases ky : (sAt s.l y).kind = 1
     ·rw [d1, den_kind1 ok.good hy ey ky] at hab
      injection hab with hab
      exact hxy (by omega)
     ·rcases nv y hy ey ky with k2 | k4
      ·rw [d1, ok.good.den_num k2] at hab; cases hab
      ·rw [d1, ok.good.den_top k4] at hab; cases hab
    have c4 : ¬ (sAt s.l y).kind = 1 := by
     intro k
     have d1 := den_kind1 ok.good hy ey k
     rcases nv x hx ex c3 with k2 | k4
     ·rw [d1, ok.good.den_num k2] at hab; cases hab
     ·rw [d1, ok.good.den_top k4] at hab; cases hab
    rw [if_neg (fun h => c3 h.1), if_neg c3, if_neg c4]
    rcases nv x hx ex c3 with kx | kx
    ·rcases nv y hy ey c4 with ky | ky
     ·rw [ok.good.den_num kx, ok.good.den_num ky] at hab
      injection hab with hab
      have ox := ok_num (shp_at ok.good.shp hx) kx
      have oy := ok_num (shp_at ok.good.shp hy) ky
      have hb : (sAt s.l x).beq (sAt s.l y) = true := by
       rw [beq_iff]
       cases h1 : sAt s.l x
       cases h2 : sAt s.l y
       rw [h1] at kx hab ox
       rw [h2] at ky hab oy
       simp only at kx ky hab ox oy
       rw [kx, ky, hab, ox.1, oy.1]
      rw [if_pos hb]
      refine ⟨_, rfl, rfl, rfl, fun p hp => ?_⟩
      rcases List.mem_append.1 hp with hp | hp
      ·unfold argPairs at hp
       rw [if_neg (by rw [kx]; decide)] at hp
       cases hp
      ·exact hrest p hp
     ·rw [ok.good.den_num kx, ok.good.den_top ky] at hab; cases hab
    ·rcases nv y hy ey c4 with ky | ky
     ·rw [ok.good.den_top kx, ok.good.den_num ky] at hab; cases hab
     ·rw [ok.good.den_top kx, ok.good.den_top ky] at hab
      injection hab with h1 h2
      have ox := ok_top (shp_at ok.good.shp hx) kx
      have oy := ok_top (shp_at ok.good.shp hy) ky
      have hn : (sAt s.l x).n.toNat = (sAt s.l y).n.toNat := by simpa using congrArg List.length h2
      have hb : (sAt s.l x).beq (sAt s.l y) = true := by
       rw [beq_iff]
       have hn2 : (sAt s.l x).n = (sAt s.l y).n := by omega
       cases e1 : sAt s.l x
       cases e2 : sAt s.l y
       rw [e1] at kx h1 hn2
       rw [e2] at ky h1 hn2
       simp only at kx ky h1 hn2
       rw [kx, ky, h1, hn2]
      rw [if_pos hb]
      refine ⟨_, rfl, rfl, rfl, fun p hp => ?_⟩
      rcases List.mem_append.1 hp with hp | hp
      ·unfold argPairs at hp
       rw [if_pos kx] at hp
       obtain ⟨i, hi, rfl⟩ := List.mem_map.1 hp
       have hi' : i < (sAt s.l x).n.toNat := by simpa using hi
       have g := congrArg (fun l => l[i]?) h2
       simp only [List.getElem?_map] at g
       rw [List.getElem?_range hi', List.getElem?_range (by omega)] at g
       simpa using g
      ·exact hrest p hp
   obtain ⟨s1, h1, h2, h3, h4⟩ := key
   obtain ⟨g1, g2, _⟩ := uOne_ok ok hrow h1
   obtain ⟨s', r1, r2, r3⟩ := uRun_same k s1 g1 (fun p hp => by rw [h2]; exact h4 p hp) (by omega)
   exact ⟨s', by rw [uRun_step hrow, h1]; exact r1, r2.trans h2, r3.trans h3⟩
theorem uniZ_alike {l : List C} {tr : List Int} {r : Int} (h : OkH ⟨l, tr, r⟩) {x y : Int} {L : List C} {TR : List Int} (hu : uniZ l tr x y = some (L, TR)) : (∃ p q : Nat, x = p ∧ y = q ∧ p < l.length ∧ q < l.length ∧ den L p = den L q) ∧ uniZ L TR y x = some (L, TR) := by
 obtain ⟨ok', len, _⟩ := uni_ok h x y
 unfold uRes at ok' len
 rw [hu] at ok' len
 simp only [Option.getD_some] at ok' len
 unfold uniZ at hu
 split at hu
 ·rename_i hxy
  obtain ⟨p, rfl⟩ : ∃ p : Nat, x = p := ⟨x.toNat, by omega⟩
  obtain ⟨q, rfl⟩ : ∃ q : Nat, y = q := ⟨y.toNat, by omega⟩
  simp only [Int.toNat_natCast] at hu
  have hp : p < l.length := by omega
  have hq : q < l.length := by omega
  unfold uniF at hu
  cases hr : uRun (fuelU l.length) ⟨l, tr, [(p, q)], []⟩ with
  | none => rw [hr] at hu; cases hu
  | some s =>
   rw [hr] at hu
   simp at hu
   obtain ⟨e1, e2⟩ := hu
   subst e1 e2
   have h0 := start_ok h.good h.tr hp hq
   obtain ⟨o1, o2, o3⟩ := uRun_ok _ _ _ h0 hr
   obtain ⟨K, a1, a2⟩ := uRun_all _ _ _ _ h0 (UAll.start hp hq) hr
   have hal := a1.alike o1 o2 (p, q) (a2 _ (by simp))
   simp only at hal
   refine ⟨⟨p, q, rfl, rfl, hp, hq, hal⟩, ?_⟩
   have hs0 := start_ok ok'.good ok'.tr (a := q) (b := p) (by simp only; omega) (by simp only; omega)
   obtain ⟨s', r1, r2, r3⟩ := uRun_same (fuelU s.l.length) ⟨s.l, s.tr, [(q, p)], []⟩ hs0 (fun z hz => by simp at hz; subst hz; exact hal.symm) (start_mu _ _ _ _)
   unfold uniZ
   rw [if_pos ⟨⟨by omega, by omega⟩, by omega, by omega⟩]
   simp only [Int.toNat_natCast]
   unfold uniF
   rw [r1]
   simp only [Option.map_some, r2, r3]
 ·cases hu
end Go.Proofs.YtgipiplklaeplaaDoor
