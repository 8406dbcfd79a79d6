/- Assignments that a heap's slots agree with: unifying keeps them, and finds none just if there is none. No program in sight. -/
import Derived.Test.YtlndjooddkjnoaaHpH
set_option linter.unusedVariables false
set_option linter.unusedSimpArgs false
namespace Go.Proofs.Ytlndjooddkjnoaa
open Go.RowKit

theorem size_mem8 {us : List Tm} {u : Tm} (h : u ∈ us) : u.size ≤ sizes us := by
  induction us with
  | nil => cases h
  | cons a us ih =>
    rcases List.mem_cons.1 h with rfl | h
    · simp only [sizes]; omega
    · have := ih h; simp only [sizes]; omega
/-- each slot's term is as the slot says -/
structure Mod (l : List C) (σ : Nat → Tm) : Prop where
  on : ∀ p, onB l p = true → σ p = σ (nx l p)
  num : ∀ p, (sAt l p).kind = 2 → σ p = .i (sAt l p).n
  top : ∀ p, (sAt l p).kind = 4 → σ p = .f (sAt l p).name ((List.range (sAt l p).n.toNat).map fun i => σ (p + 1 + i))
theorem Mod.fol {l : List C} (h : Good l) {σ : Nat → Tm} (m : Mod l σ) : ∀ p, p < l.length → σ p = σ (fol l p) := by
  refine h.induct fun p hp ih => ?_
  cases ho : onB l p
  · rw [fol_here ho]
  · rw [h.fol_step ho, m.on p ho]
    exact ih _ (by rw [leads_on ho]; simp)
theorem Mod.size_le {l : List C} {σ : Nat → Tm} (m : Mod l σ) {p q : Nat} (h : Path l p q) : (σ q).size ≤ (σ p).size := by
  induction h with
  | refl p => exact Nat.le_refl _
  | step hq _ ih =>
    refine Nat.le_trans ih ?_
    rename_i p q r _
    cases ho : onB l p
    · by_cases k : (sAt l p).kind = 4
      · rw [leads_top k] at hq
        obtain ⟨i, hi, rfl⟩ := List.mem_map.1 hq
        rw [m.top p k]
        have h2 := size_mem8 (List.mem_map.2 ⟨i, hi, rfl⟩ : σ (p + 1 + i) ∈ (List.range (sAt l p).n.toNat).map fun i => σ (p + 1 + i))
        simp only [Tm.size]
        omega
      · rw [leads_no ho k] at hq; cases hq
    · rw [leads_on ho] at hq
      simp at hq
      subst hq
      rw [m.on p ho]
      exact Nat.le_refl _
/-- what is strictly behind a structure is smaller -/
theorem Mod.size_lt {l : List C} {σ : Nat → Tm} (m : Mod l σ) {p q : Nat} (k : (sAt l p).kind = 4) (h : Path l p q) (hne : p ≠ q) : (σ q).size < (σ p).size := by
  cases h with
  | refl => exact absurd rfl hne
  | step hq hp =>
    rename_i r
    have h1 := m.size_le hp
    rw [leads_top k] at hq
    obtain ⟨i, hi, rfl⟩ := List.mem_map.1 hq
    have h2 := size_mem8 (List.mem_map.2 ⟨i, hi, rfl⟩ : σ (p + 1 + i) ∈ (List.range (sAt l p).n.toNat).map fun i => σ (p + 1 + i))
    have h3 : (σ p).size = 1 + sizes ((List.range (sAt l p).n.toNat).map fun i => σ (p + 1 + i)) := by rw [m.top p k]; rfl
    omega
theorem Mod.bnd {l : List C} {σ : Nat → Tm} (m : Mod l σ) {p q : Nat} (hf : Free1 l p) (hne : q ≠ p) (he : σ p = σ q) : Mod (bnd l p q) σ := by
  have hn : nx (Go.Proofs.Ytlndjooddkjnoaa.bnd l p q) p = q := by unfold nx; rw [bnd_self hf.lt]; simp
  refine ⟨fun r hr => ?_, fun r hr => ?_, fun r hr => ?_⟩
  · by_cases e : r = p
    · subst e
      rw [hn]; exact he
    · rw [bnd_on_other e] at hr
      have : nx (Go.Proofs.Ytlndjooddkjnoaa.bnd l p q) r = nx l r := by unfold nx; rw [bnd_other e]
      rw [this]
      exact m.on r hr
  · rw [bnd_kind hf.lt] at hr
    have e : r ≠ p := by rintro rfl; have := hf.kind; omega
    rw [bnd_other e]
    exact m.num r hr
  · rw [bnd_kind hf.lt] at hr
    have e : r ≠ p := by rintro rfl; have := hf.kind; omega
    rw [bnd_other e]
    exact m.top r hr
/-- a slot's term is its own one, with what its free variables are put in -/
theorem Mod.den {l : List C} (h : Good l) {σ : Nat → Tm} (m : Mod l σ) : ∀ p, p < l.length → σ p = (den l p).sub (fun n => σ n.toNat) := by
  refine h.induct fun p hp ih => ?_
  cases ho : onB l p
  · rcases ok_kind (shp_at h.shp hp) with k | k | k | k
    · have hf : Free1 l p := ⟨hp, k, by rw [on_ref k] at ho; simpa using ho⟩
      rw [h.den_free hf]
      simp [Tm.sub]
    · rw [h.den_num k, m.num p k]; rfl
    · rw [on_ptr k] at ho; cases ho
    · rw [h.den_top k, m.top p k, Tm.sub, subs_map, List.map_map]
      refine congrArg _ (List.map_congr_left fun i hi => ?_)
      exact ih _ (by rw [leads_top k]; exact List.mem_map.2 ⟨i, hi, rfl⟩)
  · rw [h.den_step ho, m.on p ho]
    exact ih _ (by rw [leads_on ho]; simp)
/-- whatever is put for the free variables gives one -/
theorem Good.mod {l : List C} (h : Good l) (S : Int → Tm) : Mod l (fun p => (den l p).sub S) :=
  ⟨fun p ho => by simp only [h.den_step ho], fun p k => by simp only [h.den_num k]; rfl, fun p k => by
    simp only [h.den_top k, Tm.sub, subs_map, List.map_map]; rfl⟩
/-- a heap that came of another one by binding: its assignments are that one's -/
theorem Hst.mod {l L : List C} {tr TR d : List Int} (h : Hst l tr L TR d) (ht : TrOk L TR) {σ : Nat → Tm} (m : Mod L σ) : Mod l σ := by
  have lt : ∀ p k, 0 < k → (sAt l p).kind = k → p < l.length := fun p k hk hkk => by
    rcases Nat.lt_or_ge p l.length with h | h
    · exact h
    · rw [sAt_past h] at hkk; simp at hkk; omega
  have hk : ∀ p, p < l.length → (p : Int) ∈ d → (sAt l p).kind = 1 := fun p hp hd => by
    obtain ⟨q, hq, _, h2, _⟩ := ht.at_ (p : Int) (by rw [h.tr]; exact List.mem_append.2 (.inr hd))
    have : q = p := by omega
    subst this
    rw [← (h.kind q hp).1]; exact h2
  refine ⟨fun p ho => ?_, fun p k => ?_, fun p k => ?_⟩
  · have hp := on_lt ho
    obtain ⟨h1, h2⟩ := h.kind p hp
    have hd : (p : Int) ∉ d := fun hd => by
      rcases on_kind ho with ⟨_, h4⟩ | h4
      · exact h4 (h.yes p hp hd)
      · have := hk p hp hd; omega
    have h5 := h.no p hp hd
    have hoL : onB L p = true := by unfold onB at ho ⊢; rw [h1, h5]; exact ho
    have := m.on p hoL
    unfold nx at this ⊢
    rw [h5] at this
    exact this
  · have hp : p < l.length := by
      rcases Nat.lt_or_ge p l.length with h | h
      · exact h
      · rw [sAt_past h] at k; simp at k
    obtain ⟨h1, h2⟩ := h.kind p hp
    have h5 := h.no p hp (fun hd => by have := hk p hp hd; omega)
    rw [m.num p (by rw [h1]; exact k), h5]
  · have hp : p < l.length := by
      rcases Nat.lt_or_ge p l.length with h | h
      · exact h
      · rw [sAt_past h] at k; simp at k
    obtain ⟨h1, h2⟩ := h.kind p hp
    have h5 := h.no p hp (fun hd => by have := hk p hp hd; omega)
    rw [m.top p (by rw [h1]; exact k), h5, h2]
theorem beq_refl8 (c : C) : c.beq c = true := by
  cases c
  simp [C.beq]
/-- one step keeps those that make all pairs alike -/
theorem uOne_mod {s : US} (h : UOk s) {row : List (Nat × Nat)} {a b : Nat} (hrow : s.row = (a, b) :: row) {σ : Nat → Tm} (m : Mod s.l σ) (he : ∀ p ∈ s.row, σ p.1 = σ p.2) :
    ∃ s', uOne s row (fol s.l a) (fol s.l b) = some s' ∧ Mod s'.l σ ∧ ∀ p ∈ s'.row, σ p.1 = σ p.2 := by
  obtain ⟨ha, hb⟩ := h.row (a, b) (by rw [hrow]; simp)
  have hr : ∀ p ∈ row, σ p.1 = σ p.2 := fun p hp => he p (by rw [hrow]; simp [hp])
  have hab := he (a, b) (by rw [hrow]; simp)
  simp only at ha hb hab
  rw [m.fol h.good a ha, m.fol h.good b hb] at hab
  obtain ⟨ex, hx⟩ := h.good.fol_end ha
  obtain ⟨ey, hy⟩ := h.good.fol_end hb
  have kx := h.good.fol_kind ha
  have ky := h.good.fol_kind hb
  generalize fol s.l a = x at *
  generalize fol s.l b = y at *
  have free : ∀ z, z < s.l.length → onB s.l z = false → (sAt s.l z).kind = 1 → Free1 s.l z := fun z hz ho k => ⟨hz, k, by rw [on_ref k] at ho; simpa using ho⟩
  unfold uOne
  by_cases c1 : x = y ∨ (x, y) ∈ s.seen
  · rw [if_pos c1]
    exact ⟨_, rfl, m, hr⟩
  rw [if_neg c1]
  have hxy : x ≠ y := fun e => c1 (.inl e)
  by_cases c2 : (sAt s.l x).kind = 1 ∧ (sAt s.l y).kind = 1
  · rw [if_pos c2]
    refine ⟨_, rfl, ?_, hr⟩
    have fx := free x hx ex c2.1
    have fy := free y hy ey c2.2
    rcases Nat.le_total x y with e | e
    · rw [Nat.max_eq_right e, Nat.min_eq_left e]
      exact m.bnd fy hxy hab.symm
    · rw [Nat.max_eq_left e, Nat.min_eq_right e]
      exact m.bnd fx (fun e => hxy e.symm) hab
  rw [if_neg c2]
  by_cases c3 : (sAt s.l x).kind = 1
  · rw [if_pos c3]
    have k4 : (sAt s.l y).kind = 2 ∨ (sAt s.l y).kind = 4 := by
      rcases ky with ⟨k, _⟩ | k | k
      · exact absurd ⟨c3, k⟩ c2
      · exact .inl k
      · exact .inr k
    cases hc : rch s.l y x
    · exact ⟨_, rfl, m.bnd (free x hx ex c3) (fun e => hxy e.symm) hab, hr⟩
    · exfalso
      have hp := (h.good.rch_iff hy).1 hc
      rcases k4 with k | k
      · cases hp with
        | refl => exact hxy rfl
        | step hq _ => rw [leads_no ey (by omega)] at hq; cases hq
      · have := m.size_lt k hp (fun e => hxy e.symm)
        rw [hab] at this
        omega
  rw [if_neg c3]
  by_cases c4 : (sAt s.l y).kind = 1
  · rw [if_pos c4]
    have k4 : (sAt s.l x).kind = 2 ∨ (sAt s.l x).kind = 4 := by
      rcases kx with ⟨k, _⟩ | k | k
      · exact absurd k c3
      · exact .inl k
      · exact .inr k
    cases hc : rch s.l x y
    · exact ⟨_, rfl, m.bnd (free y hy ey c4) hxy hab.symm, hr⟩
    · exfalso
      have hp := (h.good.rch_iff hx).1 hc
      rcases k4 with k | k
      · cases hp with
        | refl => exact hxy rfl
        | step hq _ => rw [leads_no ex (by omega)] at hq; cases hq
      · have := m.size_lt k hp hxy
        rw [hab] at this
        omega
  rw [if_neg c4]
  have kx2 : (sAt s.l x).kind = 2 ∨ (sAt s.l x).kind = 4 := by
    rcases kx with ⟨k, _⟩ | k | k
    · exact absurd k c3
    · exact .inl k
    · exact .inr k
  have ky2 : (sAt s.l y).kind = 2 ∨ (sAt s.l y).kind = 4 := by
    rcases ky with ⟨k, _⟩ | k | k
    · exact absurd k c4
    · exact .inl k
    · exact .inr k
  have hsame : sAt s.l x = sAt s.l y ∧ ∀ p ∈ argPairs x y (sAt s.l x), σ p.1 = σ p.2 := by
    rcases kx2 with k | k
    · have e1 := m.num x k
      rcases ky2 with k' | k'
      · have e2 := m.num y k'
        rw [hab, e2] at e1
        injection e1 with e1
        have n1 := (ok_num (shp_at h.good.shp hx) k).1
        have n2 := (ok_num (shp_at h.good.shp hy) k').1
        refine ⟨?_, fun p hp => by unfold argPairs at hp; rw [if_neg (by omega)] at hp; cases hp⟩
        generalize sAt s.l x = c at *
        generalize sAt s.l y = c' at *
        cases c; cases c'
        simp only at k k' n1 n2 e1
        rw [k, k', n1, n2, e1]
      · rw [hab, m.top y k'] at e1
        cases e1
    · have e1 := m.top x k
      rcases ky2 with k' | k'
      · rw [hab, m.num y k'] at e1
        cases e1
      · have e2 := m.top y k'
        rw [hab, e2] at e1
        injection e1 with e1 e3
        have hl := congrArg List.length e3
        simp at hl
        have t1 := ok_top (shp_at h.good.shp hx) k
        have t2 := ok_top (shp_at h.good.shp hy) k'
        have hn : (sAt s.l x).n = (sAt s.l y).n := by omega
        refine ⟨?_, fun p hp => ?_⟩
        · generalize sAt s.l x = c at *
          generalize sAt s.l y = c' at *
          cases c; cases c'
          simp only at k k' hn e1
          rw [k, k', hn, e1]
        · unfold argPairs at hp
          rw [if_pos k] at hp
          obtain ⟨i, hi, rfl⟩ := List.mem_map.1 hp
          have hi' := List.mem_range.1 hi
          have := congrArg (fun q : List Tm => q[i]?) e3
          simp only [List.getElem?_map, List.getElem?_range (show i < (sAt s.l y).n.toNat by omega), List.getElem?_range hi', Option.map_some] at this
          injection this with this
          exact this.symm
  have hb : (sAt s.l x).beq (sAt s.l y) = true := by rw [hsame.1]; exact beq_refl8 _
  rw [if_pos hb]
  refine ⟨_, rfl, m, fun p hp => ?_⟩
  rcases List.mem_append.1 hp with hp | hp
  · exact hsame.2 p hp
  · exact hr p hp
theorem uRun_mod : ∀ (k : Nat) (s : US), UOk s → s.mu < k → ∀ {σ : Nat → Tm}, Mod s.l σ → (∀ p ∈ s.row, σ p.1 = σ p.2) → ∃ s', uRun k s = some s' ∧ Mod s'.l σ
  | 0, s, _, hm, _, _, _ => by omega
  | k + 1, s, h, hm, σ, m, he => by
    cases hrow : s.row with
    | nil => exact ⟨s, uRun_zero hrow (by omega), m⟩
    | cons p row =>
      obtain ⟨a, b⟩ := p
      obtain ⟨s', h1, h2, h3⟩ := uOne_mod h hrow m he
      obtain ⟨o1, o2, o3⟩ := uOne_ok h hrow h1
      obtain ⟨s2, r1, r2⟩ := uRun_mod k s' o1 (by omega) h2 h3
      exact ⟨s2, by rw [uRun_step hrow, h1]; exact r1, r2⟩
/-- THE LAW OF UNIFYING ON A HEAP: what makes both places alike is an assignment of what comes of it; and there is none, if nothing comes -/
theorem uniF_mod {l : List C} {tr : List Int} (hg : Good l) (ht : TrOk l tr) {a b : Nat} (ha : a < l.length) (hb : b < l.length) {σ : Nat → Tm} (m : Mod l σ) (he : σ a = σ b) :
    ∃ L TR, uniF l tr a b = some (L, TR) ∧ Mod L σ := by
  obtain ⟨s', h1, h2⟩ := uRun_mod (fuelU l.length) ⟨l, tr, [(a, b)], []⟩ (start_ok hg ht ha hb) (start_mu l tr a b) m (fun p hp => by simp at hp; subst hp; exact he)
  exact ⟨s'.l, s'.tr, by unfold uniF; rw [h1]; rfl, h2⟩
end Go.Proofs.Ytlndjooddkjnoaa
