/- Texts of this proof that belong together: words of memory, plain laws, short walks. -/
import Derived.Test.YtlndjooddkjnoaaHpH
set_option linter.unusedVariables false
set_option linter.unusedSimpArgs false
/- What unifying makes is alike at both places; done again it changes nothing. No program in sight. -/
namespace Go.Proofs.Ytlndjooddkjnoaa
open Go.RowKit

theorem path_fol_no {l : List C} (h : Good l) {q p : Nat} (hq : q < l.length) (hn : ¬ Path l q p) : fol l q ≠ p := fun e => hn (e ▸ path_fol h hq)
/-- where places lead when a variable is bound -/
theorem bnd_fol_no {l : List C} (h : Good l) {p q : Nat} (hf : Free1 l p) (hq : q < l.length) (hn : ¬ Path l q p) : ∀ a, a < l.length → ¬ Path l a p → fol (bnd l p q) a = fol l a := by
  have h' := h.bind hf hq hn
  refine h.induct (M := fun a => ¬ Path l a p → fol (bnd l p q) a = fol l a) fun a ha ih hna => ?_
  have hap : a ≠ p := by rintro rfl; exact hna (.refl _)
  cases ho : onB l a
  · rw [fol_here ho, fol_here (by rw [bnd_on_other hap]; exact ho)]
  · have hm : nx l a ∈ leads l a := by rw [leads_on ho]; simp
    rw [h.fol_step ho, h'.fol_step (by rw [bnd_on_other hap]; exact ho)]
    have : nx (bnd l p q) a = nx l a := by unfold nx; rw [bnd_other hap]
    rw [this]
    exact ih _ hm (fun hp => hna (.step hm hp))
theorem bnd_fol {l : List C} (h : Good l) {p q : Nat} (hf : Free1 l p) (hq : q < l.length) (hn : ¬ Path l q p) : ∀ a, a < l.length → fol (bnd l p q) a = if fol l a = p then fol l q else fol l a := by
  have h' := h.bind hf hq hn
  have hne : q ≠ p := by rintro rfl; exact hn (.refl _)
  refine h.induct (M := fun a => fol (bnd l p q) a = if fol l a = p then fol l q else fol l a) fun a ha ih => ?_
  by_cases hap : a = p
  · subst hap
    rw [fol_here hf.on, if_pos rfl, h'.fol_step (bnd_on_self hf hne)]
    have : nx (bnd l a q) a = q := by unfold nx; rw [bnd_self hf.lt]; simp
    rw [this]
    exact bnd_fol_no h hf hq hn q hq hn
  · cases ho : onB l a
    · rw [fol_here ho, fol_here (by rw [bnd_on_other hap]; exact ho), if_neg hap]
    · have hm : nx l a ∈ leads l a := by rw [leads_on ho]; simp
      have : nx (bnd l p q) a = nx l a := by unfold nx; rw [bnd_other hap]
      rw [h.fol_step ho, h'.fol_step (by rw [bnd_on_other hap]; exact ho), this]
      exact ih _ hm
/-- a pair that was asked: they lead to the same place, or to a pair that was -/
def Settled (s : US) (p : Nat × Nat) : Prop := fol s.l p.1 = fol s.l p.2 ∨ (fol s.l p.1, fol s.l p.2) ∈ s.seen
/-- tr is what was ever asked for -/
structure UAll (s : US) (K : List (Nat × Nat)) : Prop where
  lt : ∀ p ∈ K, p.1 < s.l.length ∧ p.2 < s.l.length
  all : ∀ p ∈ K, p ∈ s.row ∨ Settled s p
  same : ∀ p ∈ s.seen, sAt s.l p.1 = sAt s.l p.2 ∧ (sAt s.l p.1).kind ≠ 1 ∧ onB s.l p.1 = false ∧ onB s.l p.2 = false
  args : ∀ p ∈ s.seen, ∀ a ∈ argPairs p.1 p.2 (sAt s.l p.1), a ∈ K
theorem UAll.start {l : List C} {tr : List Int} {a b : Nat} (ha : a < l.length) (hb : b < l.length) : UAll ⟨l, tr, [(a, b)], []⟩ [(a, b)] :=
  ⟨fun p hp => by simp at hp; subst hp; exact ⟨ha, hb⟩, fun p hp => .inl hp, by simp, by simp⟩
theorem UAll.bound {s : US} {K row : List (Nat × Nat)} {a b p q : Nat} (h : UAll s K) (hg : Good s.l) (hrow : s.row = (a, b) :: row) (hf : Free1 s.l p) (hq : q < s.l.length) (hn : ¬ Path s.l q p) (hseen : ∀ p ∈ s.seen, p.1 < s.l.length ∧ p.2 < s.l.length)
    (hab : (fol s.l a = p ∧ fol s.l b = q) ∨ (fol s.l b = p ∧ fol s.l a = q)) (hfq : fol s.l q = q) : UAll (s.bound row p q) K := by
  have hne : q ≠ p := by rintro rfl; exact hn (.refl _)
  have hb := bnd_fol hg hf hq hn
  have old : ∀ x, (sAt s.l x).kind ≠ 1 → sAt (bnd s.l p q) x = sAt s.l x := fun x hx => bnd_other (by rintro rfl; exact hx hf.kind)
  refine ⟨fun x hx => by simp only [US.bound, bnd_len]; exact h.lt x hx, fun x hx => ?_, fun x hx => ?_, fun x hx => ?_⟩
  · obtain ⟨l1, l2⟩ := h.lt x hx
    have set : ∀ {x : Nat × Nat}, x.1 < s.l.length → x.2 < s.l.length → Settled s x → Settled (s.bound row p q) x := by
      intro x l1 l2 hs
      unfold Settled
      simp only [US.bound]
      rw [hb _ l1, hb _ l2]
      rcases hs with e | e
      · rw [e]; exact .inl rfl
      · obtain ⟨k1, k2, _⟩ := h.same _ e
        simp only at k1 k2
        rw [if_neg (fun e => k2 (by rw [e]; exact hf.kind)), if_neg (fun e => k2 (by rw [k1, e]; exact hf.kind))]
        exact .inr e
    rcases h.all x hx with hr | hs
    · rw [hrow] at hr
      rcases List.mem_cons.1 hr with rfl | hr
      · refine .inr (.inl ?_)
        simp only [US.bound] at *
        rw [hb _ l1, hb _ l2]
        rcases hab with ⟨e1, e2⟩ | ⟨e1, e2⟩
        · rw [e1, e2, if_pos rfl, if_neg hne, hfq]
        · rw [e1, e2, if_pos rfl, if_neg hne, hfq]
      · exact .inl hr
    · exact .inr (set l1 l2 hs)
  · obtain ⟨k1, k2, k3, k4⟩ := h.same x hx
    have n1 : x.1 ≠ p := fun e => k2 (by rw [e]; exact hf.kind)
    have n2 : x.2 ≠ p := fun e => k2 (by rw [k1, e]; exact hf.kind)
    show sAt (bnd s.l p q) x.1 = sAt (bnd s.l p q) x.2 ∧ _
    refine ⟨by rw [bnd_other n1, bnd_other n2]; exact k1, ?_, ?_, ?_⟩
    · show (sAt (bnd s.l p q) x.1).kind ≠ 1
      rw [bnd_other n1]; exact k2
    · show onB (bnd s.l p q) x.1 = false
      rw [bnd_on_other n1]; exact k3
    · show onB (bnd s.l p q) x.2 = false
      rw [bnd_on_other n2]; exact k4
  · obtain ⟨k1, k2, _⟩ := h.same x hx
    intro y hy
    have n1 : x.1 ≠ p := fun e => k2 (by rw [e]; exact hf.kind)
    simp only [US.bound] at hy
    rw [bnd_other n1] at hy
    exact h.args x hx y hy
theorem uOne_all {s : US} {K : List (Nat × Nat)} (ok : UOk s) (h : UAll s K) {row : List (Nat × Nat)} {a b : Nat} (hrow : s.row = (a, b) :: row) {s' : US} (hs : uOne s row (fol s.l a) (fol s.l b) = some s') : ∃ K', UAll s' K' ∧ ∀ p ∈ K, p ∈ K' := by
  obtain ⟨ha, hb⟩ := ok.row (a, b) (by rw [hrow]; simp)
  obtain ⟨ex, hx⟩ := ok.good.fol_end ha
  obtain ⟨ey, hy⟩ := ok.good.fol_end hb
  have kx := ok.good.fol_kind ha
  have ky := ok.good.fol_kind hb
  simp only at ha hb
  obtain ⟨x, hxe⟩ : ∃ x, fol s.l a = x := ⟨_, rfl⟩
  obtain ⟨y, hye⟩ : ∃ y, fol s.l b = y := ⟨_, rfl⟩
  simp only at ex hx ey hy kx ky
  rw [hxe] at ex hx kx hs
  rw [hye] at ey hy ky hs
  have fx : fol s.l x = x := fol_here ex
  have fy : fol s.l y = y := fol_here ey
  unfold uOne at hs
  have free : ∀ z, z < s.l.length → onB s.l z = false → (sAt s.l z).kind = 1 → Free1 s.l z := fun z hz ho k => ⟨hz, k, by rw [on_ref k] at ho; simpa using ho⟩
  by_cases c1 : x = y ∨ (x, y) ∈ s.seen
  · rw [if_pos c1] at hs
    injection hs with hs
    subst hs
    refine ⟨K, ⟨h.lt, fun p hp => ?_, h.same, h.args⟩, fun p hp => hp⟩
    rcases h.all p hp with hr | hs
    · rw [hrow] at hr
      rcases List.mem_cons.1 hr with rfl | hr
      · refine .inr ?_
        show fol s.l a = fol s.l b ∨ (fol s.l a, fol s.l b) ∈ s.seen
        rw [hxe, hye]; exact c1
      · exact .inl hr
    · exact .inr hs
  rw [if_neg c1] at hs
  have hxy : x ≠ y := fun e => c1 (.inl e)
  by_cases c2 : (sAt s.l x).kind = 1 ∧ (sAt s.l y).kind = 1
  · rw [if_pos c2] at hs
    injection hs with hs
    subst hs
    have frx := free x hx ex c2.1
    have fry := free y hy ey c2.2
    rcases Nat.le_total x y with e | e
    · rw [Nat.max_eq_right e, Nat.min_eq_left e]
      exact ⟨K, h.bound ok.good hrow fry hx (fun hp => hxy ((free_path frx hp).symm)) ok.seen (.inr ⟨hye, hxe⟩) fx, fun p hp => hp⟩
    · rw [Nat.max_eq_left e, Nat.min_eq_right e]
      exact ⟨K, h.bound ok.good hrow frx hy (fun hp => hxy (free_path fry hp)) ok.seen (.inl ⟨hxe, hye⟩) fy, fun p hp => hp⟩
  rw [if_neg c2] at hs
  by_cases c3 : (sAt s.l x).kind = 1
  · rw [if_pos c3] at hs
    cases hc : rch s.l y x
    · rw [hc] at hs
      simp at hs
      subst hs
      exact ⟨K, h.bound ok.good hrow (free x hx ex c3) hy ((ok.good.rch_no hy).1 hc) ok.seen (.inl ⟨hxe, hye⟩) fy, fun p hp => hp⟩
    · rw [hc] at hs; simp at hs
  rw [if_neg c3] at hs
  by_cases c4 : (sAt s.l y).kind = 1
  · rw [if_pos c4] at hs
    cases hc : rch s.l x y
    · rw [hc] at hs
      simp at hs
      subst hs
      exact ⟨K, h.bound ok.good hrow (free y hy ey c4) hx ((ok.good.rch_no hx).1 hc) ok.seen (.inr ⟨hye, hxe⟩) fx, fun p hp => hp⟩
    · rw [hc] at hs; simp at hs
  rw [if_neg c4] at hs
  by_cases c5 : (sAt s.l x).beq (sAt s.l y) = true
  · rw [if_pos c5] at hs
    injection hs with hs
    subst hs
    have he := beq_true c5
    have ho := shp_at ok.good.shp hx
    have hoy := shp_at ok.good.shp hy
    refine ⟨argPairs x y (sAt s.l x) ++ K, ⟨?_, ?_, ?_, ?_⟩, fun p hp => List.mem_append.2 (.inr hp)⟩
    · intro p hp
      rcases List.mem_append.1 hp with hp | hp
      · unfold argPairs at hp
        split at hp
        · rename_i k4
          obtain ⟨i, hi, rfl⟩ := List.mem_map.1 hp
          have h1 := ok_top ho k4
          have h2 := ok_top hoy (by rw [← he]; exact k4)
          rw [← he] at h2
          simp at hi
          simp only
          omega
        · cases hp
      · exact h.lt p hp
    · intro p hp
      rcases List.mem_append.1 hp with hp | hp
      · exact .inl (List.mem_append.2 (.inl hp))
      · rcases h.all p hp with hr | hs
        · rw [hrow] at hr
          rcases List.mem_cons.1 hr with rfl | hr
          · refine .inr (.inr ?_)
            show (fol s.l a, fol s.l b) ∈ (x, y) :: s.seen
            rw [hxe, hye]; simp
          · exact .inl (List.mem_append.2 (.inr hr))
        · refine .inr ?_
          rcases hs with e | e
          · exact .inl e
          · exact .inr (List.mem_cons.2 (.inr e))
    · intro p hp
      rcases List.mem_cons.1 hp with rfl | hp
      · exact ⟨he, c3, ex, ey⟩
      · exact h.same p hp
    · intro p hp q hq
      rcases List.mem_cons.1 hp with rfl | hp
      · exact List.mem_append.2 (.inl hq)
      · exact List.mem_append.2 (.inr (h.args p hp q hq))
  · rw [if_neg c5] at hs; cases hs
theorem uRun_all : ∀ (k : Nat) (s s' : US) (K : List (Nat × Nat)), UOk s → UAll s K → uRun k s = some s' → ∃ K', UAll s' K' ∧ ∀ p ∈ K, p ∈ K'
  | 0, s, s', K, _, _, hr => by cases hr
  | k + 1, s, s', K, ok, h, hr => by
    cases hrow : s.row with
    | nil =>
      rw [uRun_zero hrow (by omega)] at hr
      injection hr with hr
      subst hr
      exact ⟨K, h, fun p hp => hp⟩
    | cons p row =>
      obtain ⟨a, b⟩ := p
      rw [uRun_step hrow] at hr
      cases ho : uOne s row (fol s.l a) (fol s.l b) with
      | none => rw [ho] at hr; cases hr
      | some s1 =>
        rw [ho] at hr
        obtain ⟨K1, h1, i1⟩ := uOne_all ok h hrow ho
        obtain ⟨K2, h2, i2⟩ := uRun_all k s1 s' K1 (uOne_ok ok hrow ho).1 h1 hr
        exact ⟨K2, h2, fun p hp => i2 p (i1 p hp)⟩
/-- all that was asked for is alike -/
theorem UAll.alike {s : US} {K : List (Nat × Nat)} (ok : UOk s) (h : UAll s K) (hrow : s.row = []) : ∀ p ∈ K, den s.l p.1 = den s.l p.2 := by
  have seen : ∀ p, p < s.l.length → ∀ y, (fol s.l p, y) ∈ s.seen → den s.l (fol s.l p) = den s.l y := by
    refine ok.good.induct (M := fun p => ∀ y, (fol s.l p, y) ∈ s.seen → den s.l (fol s.l p) = den s.l y) fun x hx ih y hy => ?_
    cases hox : onB s.l x
    · rw [fol_here hox] at hy ⊢
      obtain ⟨k1, k2, k3, k4⟩ := h.same _ hy
      obtain ⟨_, hyl⟩ := ok.seen _ hy
      simp only at k1 k2 k3 k4 hyl
      rcases ok_kind (shp_at ok.good.shp hx) with k | k | k | k
      · exact absurd k k2
      · rw [ok.good.den_num k, ok.good.den_num (by rw [← k1]; exact k), k1]
      · rw [on_ptr k] at k3; cases k3
      · rw [ok.good.den_top k, ok.good.den_top (by rw [← k1]; exact k), ← k1]
        congr 1
        apply List.map_congr_left
        intro i hi
        have hm : (x + 1 + i, y + 1 + i) ∈ argPairs x y (sAt s.l x) := by
          unfold argPairs
          rw [if_pos k]
          exact List.mem_map.2 ⟨i, hi, rfl⟩
        have hK := h.args _ hy _ hm
        obtain ⟨b1, b2⟩ := h.lt _ hK
        simp only at b1 b2
        rcases h.all _ hK with hr | hs
        · rw [hrow] at hr; cases hr
        · rcases hs with e | e
          · simp only at e
            rw [← ok.good.den_fol b1, ← ok.good.den_fol b2, e]
          · simp only at e
            rw [← ok.good.den_fol b1, ← ok.good.den_fol b2]
            exact ih _ (by rw [leads_top k]; exact List.mem_map.2 ⟨i, hi, rfl⟩) _ e
    · have := ih (nx s.l x) (by rw [leads_on hox]; simp)
      rw [ok.good.fol_step hox] at hy ⊢
      exact this y hy
  intro p hp
  obtain ⟨b1, b2⟩ := h.lt _ hp
  rcases h.all _ hp with hr | hs
  · rw [hrow] at hr; cases hr
  · rcases hs with e | e
    · rw [← ok.good.den_fol b1, ← ok.good.den_fol b2, e]
    · rw [← ok.good.den_fol b1, ← ok.good.den_fol b2]
      exact seen _ b1 _ e
/-! ### done again -/
theorem den_kind1 {l : List C} (h : Good l) {x : Nat} (hx : x < l.length) (ho : onB l x = false) (k : (sAt l x).kind = 1) : den l x = .v x := h.den_free ⟨hx, k, by rw [on_ref k] at ho; simpa using ho⟩
theorem uRun_same : ∀ (k : Nat) (s : US), UOk s → (∀ p ∈ s.row, den s.l p.1 = den s.l p.2) → s.mu < k → ∃ s', uRun k s = some s' ∧ s'.l = s.l ∧ s'.tr = s.tr
  | 0, s, _, _, h => by omega
  | k + 1, s, ok, hall, hmu => by
    cases hrow : s.row with
    | nil => exact ⟨s, uRun_zero hrow (by omega), rfl, rfl⟩
    | cons p row =>
      obtain ⟨a, b⟩ := p
      have hab := hall (a, b) (by rw [hrow]; simp)
      obtain ⟨ha, hb⟩ := ok.row (a, b) (by rw [hrow]; simp)
      obtain ⟨ex, hx⟩ := ok.good.fol_end ha
      obtain ⟨ey, hy⟩ := ok.good.fol_end hb
      simp only at ha hb hab ex hx ey hy
      rw [← ok.good.den_fol ha, ← ok.good.den_fol hb] at hab
      have key : ∃ s1, uOne s row (fol s.l a) (fol s.l b) = some s1 ∧ s1.l = s.l ∧ s1.tr = s.tr ∧ ∀ p ∈ s1.row, den s.l p.1 = den s.l p.2 := by
        have hrest : ∀ p ∈ row, den s.l p.1 = den s.l p.2 := fun p hp => hall p (by rw [hrow]; simp [hp])
        generalize fol s.l a = x at *
        generalize fol s.l b = y at *
        unfold uOne
        by_cases c1 : x = y ∨ (x, y) ∈ s.seen
        · rw [if_pos c1]
          exact ⟨_, rfl, rfl, rfl, hrest⟩
        rw [if_neg c1]
        have hxy : x ≠ y := fun e => c1 (.inl e)
        have nv : ∀ z, z < s.l.length → onB s.l z = false → (sAt s.l z).kind ≠ 1 → (sAt s.l z).kind = 2 ∨ (sAt s.l z).kind = 4 := by
          intro z hz hoz k1
          rcases ok_kind (shp_at ok.good.shp hz) with k | k | k | k
          · exact absurd k k1
          · exact .inl k
          · rw [on_ptr k] at hoz; cases hoz
          · exact .inr k
        have c3 : ¬ (sAt s.l x).kind = 1 := by
          intro k
          have d1 := den_kind1 ok.good hx ex k
          by_cases ky : (sAt s.l y).kind = 1
          · rw [d1, den_kind1 ok.good hy ey ky] at hab
            injection hab with hab
            exact hxy (by omega)
          · rcases nv y hy ey ky with k2 | k4
            · rw [d1, ok.good.den_num k2] at hab; cases hab
            · rw [d1, ok.good.den_top k4] at hab; cases hab
        have c4 : ¬ (sAt s.l y).kind = 1 := by
          intro k
          have d1 := den_kind1 ok.good hy ey k
          rcases nv x hx ex c3 with k2 | k4
          · rw [d1, ok.good.den_num k2] at hab; cases hab
          · rw [d1, ok.good.den_top k4] at hab; cases hab
        rw [if_neg (fun h => c3 h.1), if_neg c3, if_neg c4]
        rcases nv x hx ex c3 with kx | kx
        · rcases nv y hy ey c4 with ky | ky
          · rw [ok.good.den_num kx, ok.good.den_num ky] at hab
            injection hab with hab
            have ox := ok_num (shp_at ok.good.shp hx) kx
            have oy := ok_num (shp_at ok.good.shp hy) ky
            have hb : (sAt s.l x).beq (sAt s.l y) = true := by
              rw [beq_iff]
              cases h1 : sAt s.l x
              cases h2 : sAt s.l y
              rw [h1] at kx hab ox
              rw [h2] at ky hab oy
              simp only at kx ky hab ox oy
              rw [kx, ky, hab, ox.1, oy.1]
            rw [if_pos hb]
            refine ⟨_, rfl, rfl, rfl, fun p hp => ?_⟩
            rcases List.mem_append.1 hp with hp | hp
            · unfold argPairs at hp
              rw [if_neg (by rw [kx]; decide)] at hp
              cases hp
            · exact hrest p hp
          · rw [ok.good.den_num kx, ok.good.den_top ky] at hab; cases hab
        · rcases nv y hy ey c4 with ky | ky
          · rw [ok.good.den_top kx, ok.good.den_num ky] at hab; cases hab
          · rw [ok.good.den_top kx, ok.good.den_top ky] at hab
            injection hab with h1 h2
            have ox := ok_top (shp_at ok.good.shp hx) kx
            have oy := ok_top (shp_at ok.good.shp hy) ky
            have hn : (sAt s.l x).n.toNat = (sAt s.l y).n.toNat := by simpa using congrArg List.length h2
            have hb : (sAt s.l x).beq (sAt s.l y) = true := by
              rw [beq_iff]
              have hn2 : (sAt s.l x).n = (sAt s.l y).n := by omega
              cases e1 : sAt s.l x
              cases e2 : sAt s.l y
              rw [e1] at kx h1 hn2
              rw [e2] at ky h1 hn2
              simp only at kx ky h1 hn2
              rw [kx, ky, h1, hn2]
            rw [if_pos hb]
            refine ⟨_, rfl, rfl, rfl, fun p hp => ?_⟩
            rcases List.mem_append.1 hp with hp | hp
            · unfold argPairs at hp
              rw [if_pos kx] at hp
              obtain ⟨i, hi, rfl⟩ := List.mem_map.1 hp
              have hi' : i < (sAt s.l x).n.toNat := by simpa using hi
              have g := congrArg (fun l => l[i]?) h2
              simp only [List.getElem?_map] at g
              rw [List.getElem?_range hi', List.getElem?_range (by omega)] at g
              simpa using g
            · exact hrest p hp
      obtain ⟨s1, h1, h2, h3, h4⟩ := key
      obtain ⟨g1, g2, _⟩ := uOne_ok ok hrow h1
      obtain ⟨s', r1, r2, r3⟩ := uRun_same k s1 g1 (fun p hp => by rw [h2]; exact h4 p hp) (by omega)
      exact ⟨s', by rw [uRun_step hrow, h1]; exact r1, r2.trans h2, r3.trans h3⟩
/-- what is made alike: both places, and once more -/
theorem uniZ_alike {l : List C} {tr : List Int} {r : Int} (h : OkH ⟨l, tr, r⟩) {x y : Int} {L : List C} {TR : List Int} (hu : uniZ l tr x y = some (L, TR)) : (∃ p q : Nat, x = p ∧ y = q ∧ p < l.length ∧ q < l.length ∧ den L p = den L q) ∧ uniZ L TR y x = some (L, TR) := by
  obtain ⟨ok', len, _⟩ := uni_ok h x y
  unfold uRes at ok' len
  rw [hu] at ok' len
  simp only [Option.getD_some] at ok' len
  unfold uniZ at hu
  split at hu
  · rename_i hxy
    obtain ⟨p, rfl⟩ : ∃ p : Nat, x = p := ⟨x.toNat, by omega⟩
    obtain ⟨q, rfl⟩ : ∃ q : Nat, y = q := ⟨y.toNat, by omega⟩
    simp only [Int.toNat_natCast] at hu
    have hp : p < l.length := by omega
    have hq : q < l.length := by omega
    unfold uniF at hu
    cases hr : uRun (fuelU l.length) ⟨l, tr, [(p, q)], []⟩ with
    | none => rw [hr] at hu; cases hu
    | some s =>
      rw [hr] at hu
      simp at hu
      obtain ⟨e1, e2⟩ := hu
      subst e1 e2
      have h0 := start_ok h.good h.tr hp hq
      obtain ⟨o1, o2, o3⟩ := uRun_ok _ _ _ h0 hr
      obtain ⟨K, a1, a2⟩ := uRun_all _ _ _ _ h0 (UAll.start hp hq) hr
      have hal := a1.alike o1 o2 (p, q) (a2 _ (by simp))
      simp only at hal
      refine ⟨⟨p, q, rfl, rfl, hp, hq, hal⟩, ?_⟩
      have hs0 := start_ok ok'.good ok'.tr (a := q) (b := p) (by simp only; omega) (by simp only; omega)
      obtain ⟨s', r1, r2, r3⟩ := uRun_same (fuelU s.l.length) ⟨s.l, s.tr, [(q, p)], []⟩ hs0 (fun z hz => by simp at hz; subst hz; exact hal.symm) (start_mu _ _ _ _)
      unfold uniZ
      rw [if_pos ⟨⟨by omega, by omega⟩, by omega, by omega⟩]
      simp only [Int.toNat_natCast]
      unfold uniF
      rw [r1]
      simp only [Option.map_some, r2, r3]
  · cases hu
theorem uniZ_comm (l : List C) (tr : List Int) (x y : Int) : uniZ l tr y x = uniZ l tr x y := by
  unfold uniZ
  by_cases h : (0 ≤ x ∧ x < (l.length : Int)) ∧ (0 ≤ y ∧ y < (l.length : Int))
  · rw [if_pos h, if_pos ⟨h.2, h.1⟩, uniF_comm]
  · rw [if_neg h, if_neg (fun h' => h ⟨h'.2, h'.1⟩)]
theorem getF_alike {l : List C} {p q : Nat} (h : den l p = den l q) : getF l p = getF l q := by unfold getF; rw [h]
end Go.Proofs.Ytlndjooddkjnoaa

/- Bindings put into terms, in plain words. No program in sight. -/
namespace Go.Proofs.Ytlndjooddkjnoaa
open Go.RowKit

/-- the place of a variable's binding -/
def plB : List (Int × List C) → Int → Nat → Int
  | [], _, _ => -1
  | p :: s, v, k => if p.1 = v then (k : Int) else plB s v (k + 1)
def lkB : List (Int × List C) → Int → Option (List C)
  | [], _ => none
  | p :: s, v => if p.1 = v then some p.2 else lkB s v
theorem plB_lk : ∀ (s : List (Int × List C)) (v : Int) (k : Nat), (plB s v k = -1 ∧ lkB s v = none) ∨ ∃ i p, plB s v k = ((k + i : Nat) : Int) ∧ s[i]? = some p ∧ lkB s v = some p.2
  | [], v, k => .inl ⟨rfl, rfl⟩
  | p :: s, v, k => by
    unfold plB lkB
    by_cases h : p.1 = v
    · rw [if_pos h, if_pos h]
      exact .inr ⟨0, p, rfl, rfl, rfl⟩
    · rw [if_neg h, if_neg h]
      rcases plB_lk s v (k + 1) with h1 | ⟨i, q, h1, h2, h3⟩
      · exact .inl h1
      · exact .inr ⟨i + 1, q, by rw [h1]; congr 1; omega, by simpa using h2, h3⟩
def cellB (s : List (Int × List C)) (c : C) : List C := if c.kind = 1 then (lkB s c.n).getD [c] else [c]
def putB (s : List (Int × List C)) (t : List C) : List C := t.flatMap (cellB s)
theorem putB_append (s : List (Int × List C)) (a b : List C) : putB s (a ++ b) = putB s a ++ putB s b := by simp [putB]
theorem putB_take (s : List (Int × List C)) {t : List C} {k : Nat} {c : C} (h : t[k]? = some c) : putB s (t.take (k + 1)) = putB s (t.take k) ++ cellB s c := by
  rw [List.take_add_one, h, putB_append]
  simp [putB]
def applyB (s : List (Int × List C)) (t : List C) : Option (List C) := if (putB s t).length ≤ 200 then some (putB s t) else none
theorem putB_len {s : List (Int × List C)} {N : Nat} (h : ∀ p ∈ s, p.2.length ≤ N) (hN : 1 ≤ N) : ∀ t : List C, (putB s t).length ≤ t.length * N
  | [] => by simp [putB]
  | c :: t => by
    have ih := putB_len h hN t
    have hc : (cellB s c).length ≤ N := by
      unfold cellB
      split
      · rcases plB_lk s c.n 0 with ⟨_, e⟩ | ⟨i, p, _, h2, e⟩
        · rw [e]; simpa using hN
        · rw [e]; exact h p (List.mem_of_getElem? h2)
      · simpa using hN
    have : putB s (c :: t) = cellB s c ++ putB s t := by simp [putB]
    rw [this, List.length_append, List.length_cons, Nat.succ_mul]
    omega
mutual
/-- bindings that say what each variable is -/
theorem putB_sub {s : List (Int × List C)} {S : Int → Tm} : ∀ T : Tm, (∀ n, (⟨1, ⟨#[]⟩, n⟩ : C) ∈ T.flat → (lkB s n).getD [⟨1, ⟨#[]⟩, n⟩] = (S n).flat) → putB s T.flat = (T.sub S).flat
  | .v n, h => by
    have := h n (by simp [Tm.flat])
    simp only [Tm.flat, Tm.sub, putB, List.flatMap_cons, List.flatMap_nil, List.append_nil]
    unfold cellB
    rw [if_pos rfl]
    exact this
  | .i n, h => by
    simp [Tm.flat, Tm.sub, putB, cellB]
  | .f f us, h => by
    have hl : (subs S us).length = us.length := by rw [subs_map]; simp
    simp only [Tm.flat, Tm.sub, hl]
    have : putB s (⟨3, f, us.length⟩ :: flats us) = ⟨3, f, us.length⟩ :: putB s (flats us) := by simp [putB, cellB]
    rw [this, putB_subs us (fun n hn => h n (by simp [Tm.flat, hn]))]
theorem putB_subs {s : List (Int × List C)} {S : Int → Tm} : ∀ us : List Tm, (∀ n, (⟨1, ⟨#[]⟩, n⟩ : C) ∈ flats us → (lkB s n).getD [⟨1, ⟨#[]⟩, n⟩] = (S n).flat) → putB s (flats us) = flats (subs S us)
  | [], _ => rfl
  | u :: us, h => by
    rw [flats_cons, putB_append, putB_sub u (fun n hn => h n (by rw [flats_cons]; exact List.mem_append.2 (.inl hn))), putB_subs us (fun n hn => h n (by rw [flats_cons]; exact List.mem_append.2 (.inr hn))), subs, flats_cons]
end
mutual
theorem sub_vle {S : Int → Tm} {N : Int} : ∀ T : Tm, (∀ n, (⟨1, ⟨#[]⟩, n⟩ : C) ∈ T.flat → (S n).vle N = true) → (T.sub S).vle N = true
  | .v n, h => by
    simp only [Tm.sub]
    exact h n (by simp [Tm.flat])
  | .i n, _ => rfl
  | .f f us, h => by
    simp only [Tm.sub, Tm.vle]
    exact subs_vle us (fun n hn => h n (by simp [Tm.flat, hn]))
theorem subs_vle {S : Int → Tm} {N : Int} : ∀ us : List Tm, (∀ n, (⟨1, ⟨#[]⟩, n⟩ : C) ∈ flats us → (S n).vle N = true) → vles N (subs S us) = true
  | [], _ => rfl
  | u :: us, h => by
    simp only [subs, vles, Bool.and_eq_true]
    exact ⟨sub_vle u (fun n hn => h n (by rw [flats_cons]; exact List.mem_append.2 (.inl hn))), subs_vle us (fun n hn => h n (by rw [flats_cons]; exact List.mem_append.2 (.inr hn)))⟩
end
/-- what is put is got -/
theorem put_back {l : List C} {T : Tm} {a : List Int} {L : List C} {P : Nat} {b : List Int} (h : PutOk l T a L P b) {s : List (Int × List C)} (hs : ∀ n, (⟨1, ⟨#[]⟩, n⟩ : C) ∈ T.flat → ∃ t, getF L (atA b n.toNat).toNat = some t ∧ (lkB s n).getD [⟨1, ⟨#[]⟩, n⟩] = t) : getF L P = applyB s T.flat := by
  have hd := h.den
  have hput : putB s T.flat = (T.sub (stand L b)).flat := putB_sub T fun n hn => by
    obtain ⟨t, h1, h2⟩ := hs n hn
    rw [h2]
    unfold getF at h1
    split at h1
    · injection h1 with h1; exact h1.symm
    · cases h1
  have hv : (T.sub (stand L b)).vle 999 = true := sub_vle T fun n hn => by
    obtain ⟨t, h1, _⟩ := hs n hn
    unfold getF at h1
    split at h1
    · rename_i h3; exact h3.2
    · cases h1
  unfold getF applyB
  rw [hput, hd, flat_size]
  by_cases hz : (T.sub (stand L b)).size ≤ 200
  · rw [if_pos ⟨hz, hv⟩, if_pos hz]
  · rw [if_neg (fun h => hz h.1), if_neg hz]
end Go.Proofs.Ytlndjooddkjnoaa

/- Putting a term gives each of its variables a place. No program in sight. -/
namespace Go.Proofs.Ytlndjooddkjnoaa
open Go.RowKit

theorem slotA_v_place (n : Int) (P q : Nat) (a : List Int) : 0 ≤ atA (slotA (.v n) P q a).2 n.toNat := by
  rw [slotA_v]
  split
  · simp only
    rw [atA_set (extA_len a _), if_pos rfl]; omega
  · rename_i h
    simp only
    rw [atA_ext]; omega
theorem ext_nn {b a : List Int} (h : Ext b a) {v : Nat} (hv : 0 ≤ atA a v) : 0 ≤ atA b v := by rw [h v hv]; exact hv
theorem slotsA_place : ∀ (us : List Tm) (P q : Nat) (a : List Int) (n : Int), Tm.v n ∈ us → 0 ≤ atA (slotsA us P q a).2 n.toNat
  | u :: us, P, q, a, n, h => by
    rcases List.mem_cons.1 h with rfl | h
    · exact ext_nn (slotsA_ext us _ _ _) (slotA_v_place n P q a)
    · exact slotsA_place us _ _ _ n h
theorem flats_var {n : Int} : ∀ {us : List Tm}, (⟨1, ⟨#[]⟩, n⟩ : C) ∈ flats us → Tm.v n ∈ us ∨ ∃ f vs, Tm.f f vs ∈ us ∧ (⟨1, ⟨#[]⟩, n⟩ : C) ∈ (Tm.f f vs).flat
  | u :: us, h => by
    rw [flats_cons] at h
    rcases List.mem_append.1 h with h | h
    · cases u with
      | v m => simp [Tm.flat] at h; subst h; exact .inl (by simp)
      | i m => simp [Tm.flat] at h
      | f s vs => exact .inr ⟨s, vs, by simp, h⟩
    · rcases flats_var h with h | ⟨f, vs, h1, h2⟩
      · exact .inl (List.mem_cons.2 (.inr h))
      · exact .inr ⟨f, vs, List.mem_cons.2 (.inr h1), h2⟩
mutual
theorem layA_place : ∀ (T : Tm) (P : Nat) (a : List Int) (n : Int), T.c0.kind = 3 → (⟨1, ⟨#[]⟩, n⟩ : C) ∈ T.flat → 0 ≤ atA (layA T P a).2 n.toNat
  | .f s us, P, a, n, _, h => by
    have h : (⟨1, ⟨#[]⟩, n⟩ : C) ∈ flats us := by simpa [Tm.flat] using h
    rcases flats_var h with h | ⟨f, vs, h1, h2⟩
    · exact ext_nn (laysA_ext us _ _) (slotsA_place us _ _ a n h)
    · exact laysA_place us _ _ n f vs h1 h2
  | .i _, _, _, _, hk, _ => by simp [Tm.c0] at hk
  | .v _, _, _, _, hk, _ => by simp [Tm.c0] at hk
theorem laysA_place : ∀ (us : List Tm) (P : Nat) (a : List Int) (n : Int) (f : ByteArray) (vs : List Tm), Tm.f f vs ∈ us → (⟨1, ⟨#[]⟩, n⟩ : C) ∈ (Tm.f f vs).flat → 0 ≤ atA (laysA us P a).2 n.toNat
  | u :: us, P, a, n, f, vs, h, hm => by
    rcases List.mem_cons.1 h with he | h
    · exact ext_nn (laysA_ext us _ _) (layA_place u P a n (by rw [← he]; rfl) (by rw [← he]; exact hm))
    · exact laysA_place us _ _ n f vs h hm
end
theorem putA_place (l : List C) (T : Tm) (a : List Int) (n : Int) (h : (⟨1, ⟨#[]⟩, n⟩ : C) ∈ T.flat) : 0 ≤ atA (putA l T a).2.2 n.toNat := by
  cases T with
  | f s us => exact layA_place (.f s us) _ _ n rfl h
  | i m => simp [Tm.flat] at h
  | v m =>
    simp [Tm.flat] at h
    subst h
    have := slotA_v_place n l.length 0 a
    rw [slotA_v] at this
    simp only [putA]
    split
    · rename_i hh; rw [if_pos hh] at this; exact this
    · rename_i hh; rw [if_neg hh] at this; exact this
theorem slotA_ge (u : Tm) (P q : Nat) (a : List Int) : a.length ≤ (slotA u P q a).2.length := by
  cases u with
  | i n => exact Nat.le_refl _
  | f s us => exact Nat.le_refl _
  | v n =>
    rw [slotA_v]
    split
    · simp only [List.length_set, extA_len_le]; omega
    · simp only [extA_len_le]; omega
theorem slotsA_ge : ∀ (us : List Tm) (P q : Nat) (a : List Int), a.length ≤ (slotsA us P q a).2.length
  | [], _, _, _ => Nat.le_refl _
  | u :: us, P, q, a => Nat.le_trans (slotA_ge u P q a) (slotsA_ge us _ _ _)
mutual
theorem layA_ge : ∀ (T : Tm) (P : Nat) (a : List Int), a.length ≤ (layA T P a).2.length
  | .f s us, P, a => Nat.le_trans (slotsA_ge us _ _ a) (laysA_ge us _ _)
  | .i _, _, _ => Nat.le_refl _
  | .v _, _, _ => Nat.le_refl _
theorem laysA_ge : ∀ (us : List Tm) (P : Nat) (a : List Int), a.length ≤ (laysA us P a).2.length
  | [], _, _ => Nat.le_refl _
  | u :: us, P, a => Nat.le_trans (layA_ge u P a) (laysA_ge us _ _)
end
theorem putA_ge (l : List C) (T : Tm) (a : List Int) : a.length ≤ (putA l T a).2.2.length := by
  cases T with
  | f s us => exact layA_ge _ _ _
  | i n => exact Nat.le_refl _
  | v n =>
    simp only [putA]
    split
    · simp only [List.length_set, extA_len_le]; omega
    · simp only [extA_len_le]; omega
theorem atA_lt {a : List Int} {v : Nat} (h : 0 ≤ atA a v) : v < a.length ∧ a[v]? = some (atA a v) := by
  unfold atA at h ⊢
  by_cases hv : v < a.length
  · exact ⟨hv, by rw [List.getElem?_eq_getElem hv]; rfl⟩
  · rw [List.getElem?_eq_none (by omega)] at h
    simp at h
mutual
theorem ok_var8 : ∀ (T : Tm), T.ok = true → ∀ n : Int, (⟨1, ⟨#[]⟩, n⟩ : C) ∈ T.flat → 0 ≤ n ∧ n ≤ 999
  | .v m, h, n, hn => by
    simp [Tm.flat] at hn
    subst hn
    simpa [Tm.ok] using h
  | .i m, _, n, hn => by simp [Tm.flat] at hn
  | .f s us, h, n, hn => by
    simp only [Tm.ok, Bool.and_eq_true] at h
    exact oks_var8 us h.2.2 n (by simpa [Tm.flat] using hn)
theorem oks_var8 : ∀ (us : List Tm), oks us = true → ∀ n : Int, (⟨1, ⟨#[]⟩, n⟩ : C) ∈ flats us → 0 ≤ n ∧ n ≤ 999
  | u :: us, h, n, hn => by
    rw [oks_cons, Bool.and_eq_true] at h
    rw [flats_cons] at hn
    rcases List.mem_append.1 hn with hn | hn
    · exact ok_var8 u h.1 n hn
    · exact oks_var8 us h.2 n hn
end
/-- where to look when bindings were gathered up to k -/
structure BackI (L : List C) (b : List Int) (t : List C) (s : List (Int × List C)) (k : Nat) : Prop where
  got : ∀ n : Nat, n < k → (⟨1, ⟨#[]⟩, (n : Int)⟩ : C) ∈ t → ∃ u, getF L (atA b n).toNat = some u ∧ (lkB s n).getD [⟨1, ⟨#[]⟩, (n : Int)⟩] = u
  low : ∀ p ∈ s, 0 ≤ p.1 ∧ p.1 < (k : Int) ∧ p.2.length ≤ 200
theorem lkB_snoc (s : List (Int × List C)) (p : Int × List C) (v : Int) : lkB (s ++ [p]) v = match lkB s v with
    | some t => some t
    | none => if p.1 = v then some p.2 else none := by
  induction s with
  | nil => simp [lkB]
  | cons q s ih =>
    simp only [List.cons_append, lkB]
    split
    · rfl
    · exact ih
theorem lkB_no {s : List (Int × List C)} {v : Int} (h : ∀ p ∈ s, p.1 ≠ v) : lkB s v = none := by
  induction s with
  | nil => rfl
  | cons q s ih =>
    unfold lkB
    rw [if_neg (h q (by simp))]
    exact ih (fun p hp => h p (by simp [hp]))
theorem BackI.skip {L : List C} {b : List Int} {t : List C} {s : List (Int × List C)} {k : Nat} (h : BackI L b t s k) (hn : (⟨1, ⟨#[]⟩, (k : Int)⟩ : C) ∉ t) : BackI L b t s (k + 1) :=
  ⟨fun n hlt hm => by
    by_cases e : n = k
    · subst e; exact absurd hm hn
    · exact h.got n (by omega) hm, fun p hp => by have := h.low p hp; exact ⟨this.1, by omega, this.2.2⟩⟩
theorem BackI.own {L : List C} {b : List Int} {t : List C} {s : List (Int × List C)} {k : Nat} (h : BackI L b t s k) (hg : getF L (atA b k).toNat = some [⟨1, ⟨#[]⟩, (k : Int)⟩]) : BackI L b t s (k + 1) :=
  ⟨fun n hlt hm => by
    by_cases e : n = k
    · subst e
      refine ⟨_, hg, ?_⟩
      rw [lkB_no fun p hp => by have := h.low p hp; omega]; rfl
    · exact h.got n (by omega) hm, fun p hp => by have := h.low p hp; exact ⟨this.1, by omega, this.2.2⟩⟩
theorem BackI.more {L : List C} {b : List Int} {t u : List C} {s : List (Int × List C)} {k : Nat} (h : BackI L b t s k) (hg : getF L (atA b k).toNat = some u) (hu : u.length ≤ 200) : BackI L b t (s ++ [((k : Int), u)]) (k + 1) :=
  ⟨fun n hlt hm => by
    rw [lkB_snoc]
    by_cases e : n = k
    · subst e
      refine ⟨_, hg, ?_⟩
      rw [lkB_no fun p hp => by have := h.low p hp; omega]
      simp
    · obtain ⟨v, h1, h2⟩ := h.got n (by omega) hm
      refine ⟨v, h1, ?_⟩
      cases hz : lkB s n with
      | none =>
        rw [hz] at h2
        have : ¬ ((k : Int) = (n : Int)) := by omega
        simp only [if_neg this]
        exact h2
      | some w => rw [hz] at h2; exact h2,
   fun p hp => by
    rcases List.mem_append.1 hp with hp | hp
    · have := h.low p hp; exact ⟨this.1, by omega, this.2.2⟩
    · simp at hp; subst hp; exact ⟨by simp, by simp only; omega, hu⟩⟩
theorem BackI.done {l : List C} {T : Tm} {a : List Int} {L : List C} {P : Nat} {b : List Int} {s : List (Int × List C)} (hp : PutOk l T a L P b) (hT : T.ok = true) (h : BackI L b T.flat s 1000) : getF L P = applyB s T.flat :=
  put_back hp fun n hn => by
    have hr := ok_var8 T hT n hn
    obtain ⟨m, rfl⟩ : ∃ m : Nat, n = m := ⟨n.toNat, by omega⟩
    simpa using h.got m (by omega) hn
end Go.Proofs.Ytlndjooddkjnoaa
