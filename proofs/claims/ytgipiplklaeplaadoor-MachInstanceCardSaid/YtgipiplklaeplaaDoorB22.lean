/- Texts of this proof that belong together: words of memory, plain laws, walks. -/
import Derived.Test.YtgipiplklaeplaaDoorB02
import Derived.Test.YtgipiplklaeplaaDoorB21
set_option linter.unusedVariables false
set_option linter.unusedSimpArgs false
namespace Go.Proofs.YtgipiplklaeplaaDoor
open Go.RowKit
theorem sAt_lt {l : List C} {p : Nat} (h : (sAt l p).kind ≠ 0) : p < l.length := by
 rcases Nat.lt_or_ge p l.length with h1 | h1
 ·exact h1
 ·rw [sAt_past h1] at h; simp at h
theorem sAt_set8 {l : List C} {p : Nat} (hp : p < l.length) (c : C) (q : Nat) : sAt (l.set p c) q = if q = p then c else sAt l q := by
 unfold sAt
 by_cases e : q = p
 ·subst e; rw [List.getElem?_set_self hp, if_pos rfl]; rfl
 ·rw [List.getElem?_set_ne (by omega), if_neg e]
theorem sAt_append {l x : List C} {p : Nat} : sAt (l ++ x) p = if p < l.length then sAt l p else sAt x (p - l.length) := by
 unfold sAt
 split
 ·rename_i h; rw [List.getElem?_append_left h]
 ·rename_i h; rw [List.getElem?_append_right (by omega)]
theorem Good.setI {l : List C} (h : Good l) {p : Nat} (hf : Free1 l p) {n : Int} (h1 : -2147483647 ≤ n) (h2 : n ≤ 2147483647) : Good (l.set p ⟨2, emp, n⟩) := by
 have hs := fun q => sAt_set8 hf.lt (⟨2, emp, n⟩ : C) q
 have k4 : ∀ x, ((sAt (l.set p ⟨2, emp, n⟩) x).kind == 4) = ((sAt l x).kind == 4) := fun x => by
  rw [hs]
  split
  ·rename_i e; subst e; rw [hf.kind]; rfl
  ·rfl
 refine ⟨shp_mk fun r hr => ?_, ?_⟩
 ·rw [List.length_set] at hr
  rw [hs]
  split
  ·simp [okSl, emp, empty_toList, h1, h2]
  ·have : okSl (l.set p ⟨2, emp, n⟩) r (sAt l r) = okSl l r (sAt l r) := by
    unfold okSl
    simp only [List.length_set, k4]
   rw [this]
   exact shp_at h.shp hr
 ·obtain ⟨rk, hr⟩ := h.ac
  refine ⟨rk, fun q r hq => ?_⟩
  by_cases e : q = p
  ·subst e
   rw [leads_no (by rw [on_num (by rw [hs, if_pos rfl])]) (by rw [hs, if_pos rfl]; show ¬ (2 : Int) = 4; decide)] at hq
   cases hq
  ·have : leads (l.set p ⟨2, emp, n⟩) q = leads l q := by unfold leads onB nx; rw [hs, if_neg e]
   rw [this] at hq
   exact hr q r hq
theorem Good.setTo {l : List C} (h : Good l) {p q : Nat} {k : Int} (hf : Free1 l p) (hq : q < l.length) (hn : ¬ Path l q p) (hk : k = 1 ∨ (k = 3 ∧ (sAt l q).kind = 4)) : Good (l.set p ⟨k, emp, (q : Int)⟩) := by
 have hne : q ≠ p := by rintro rfl; exact hn (.refl _)
 have hs := fun x => sAt_set8 hf.lt (⟨k, emp, (q : Int)⟩ : C) x
 have hk13 : k = 1 ∨ k = 3 := by rcases hk with h | h; exact .inl h; exact .inr h.1
 have k4 : ∀ x, ((sAt (l.set p ⟨k, emp, (q : Int)⟩) x).kind == 4) = ((sAt l x).kind == 4) := fun x => by
  rw [hs]
  split
  ·rename_i e; subst e; rw [hf.kind]; rcases hk13 with rfl | rfl <;> rfl
  ·rfl
 refine ⟨shp_mk fun r hr => ?_, ?_⟩
 ·rw [List.length_set] at hr
  rw [hs]
  split
  ·rcases hk with rfl | ⟨rfl, h4⟩
   ·simp [okSl, emp, empty_toList]; omega
   ·have h5 : (sAt (l.set p ⟨3, emp, (q : Int)⟩) q).kind = 4 := by have := k4 q; rw [h4] at this; simpa using this
    have h6 : (sAt (l.set p ⟨3, ⟨#[]⟩, (q : Int)⟩) q).kind = 4 := h5
    simp [okSl, emp, empty_toList, h6]; omega
  ·have : okSl (l.set p ⟨k, emp, (q : Int)⟩) r (sAt l r) = okSl l r (sAt l r) := by
    unfold okSl
    simp only [List.length_set, k4]
   rw [this]
   exact shp_at h.shp hr
 ·classical
  obtain ⟨rk, hr⟩ := h.ac
  have lp : leads (l.set p ⟨k, emp, (q : Int)⟩) p = [q] := by
   have ho : onB (l.set p ⟨k, emp, (q : Int)⟩) p = true := by
    unfold onB
    rw [hs, if_pos rfl]
    rcases hk13 with rfl | rfl
    ·simp; omega
    ·rfl
   rw [leads_on ho, nx, hs, if_pos rfl]
   simp
  refine ⟨fun r => if Path l r p then rk r + rk q + 1 else rk r, fun r s hs' => ?_⟩
  by_cases e : r = p
  ·subst e
   rw [lp] at hs'
   simp at hs'
   subst hs'
   simp only [if_neg hn, if_pos (Path.refl (l := l) r)]
   omega
  ·have : leads (l.set p ⟨k, emp, (q : Int)⟩) r = leads l r := by unfold leads onB nx; rw [hs, if_neg e]
   rw [this] at hs'
   have h1 := hr r s hs'
   by_cases hs2 : Path l s p
   ·simp only [if_pos hs2, if_pos (Path.step hs' hs2)]; omega
   ·simp only [if_neg hs2]
    split <;> omega
theorem TrOk.set {l : List C} {tr : List Int} (h : TrOk l tr) {p : Nat} (hf : Free1 l p) (c : C) : TrOk (l.set p c) tr := by
 refine ⟨fun t ht => ?_, h.nd⟩
 obtain ⟨q, rfl, h1, h2, h3⟩ := h.at_ t ht
 have e : q ≠ p := by rintro rfl; exact h3 hf.own
 exact ⟨q, rfl, by simpa using h1, by rw [sAt_set8 hf.lt, if_neg e]; exact h2, by rw [sAt_set8 hf.lt, if_neg e]; exact h3⟩
theorem path_set {l : List C} {p : Nat} {c : C} {N : List Nat} (hp : p < l.length) (hN : leads (l.set p c) p = N) {x z : Nat} (h : Path (l.set p c) x z) : Path l x z ∨ ∃ q ∈ N, Path l x p ∧ Path (l.set p c) q z := by
 have hl : ∀ r, r ≠ p → leads (l.set p c) r = leads l r := fun r e => by unfold leads onB nx; rw [sAt_set8 hp, if_neg e]
 induction h with
 | refl x => exact .inl (.refl _)
 | step hq hp' ih =>
  rename_i x q z
  by_cases e : x = p
  ·subst e
   rw [hN] at hq
   exact .inr ⟨q, hq, .refl _, hp'⟩
  ·rw [hl x e] at hq
   rcases ih with ih | ⟨r, h1, h2, h3⟩
   ·exact .inl (.step hq ih)
   ·exact .inr ⟨r, h1, .step hq h2, h3⟩
theorem Mod.low {l L : List C} (hg : Good l) (hp : Pre l L) {σ : Nat → Tm} (m : Mod L σ) : Mod l σ :=
 ⟨fun p ho => by
  have h1 := on_lt ho
  have := m.on p (by rw [hp.on h1]; exact ho)
  unfold nx at this ⊢
  rw [hp.sAt h1] at this
  exact this,
  fun p k => by
  have h1 := sAt_lt (l := l) (p := p) (by rw [k]; decide)
  have := m.num p (by rw [hp.sAt h1]; exact k)
  rw [hp.sAt h1] at this
  exact this,
  fun p k => by
  have h1 := sAt_lt (l := l) (p := p) (by rw [k]; decide)
  have := m.top p (by rw [hp.sAt h1]; exact k)
  rw [hp.sAt h1] at this
  exact this⟩
theorem Mod.more {l L : List C} (hg : Good l) (hp : Pre l L) {σ τ : Nat → Tm} (m : Mod l σ) (he : ∀ p, p < l.length → τ p = σ p) 
  (h1 : ∀ p, l.length ≤ p → onB L p = true → τ p = τ (nx L p)) (h2 : ∀ p, l.length ≤ p → (sAt L p).kind = 2 → τ p = .i (sAt L p).n)
  (h3 : ∀ p, l.length ≤ p → (sAt L p).kind = 4 → τ p = .f (sAt L p).name ((List.range (sAt L p).n.toNat).map fun i => τ (p + 1 + i))) : Mod L τ := by
 refine ⟨fun p ho => ?_, fun p k => ?_, fun p k => ?_⟩
 ·rcases Nat.lt_or_ge p l.length with h | h
  ·have ho' : onB l p = true := by rw [← hp.on h]; exact ho
   have hn : nx L p = nx l p := by unfold nx; rw [hp.sAt h]
   rw [hn, he p h, he _ (nx_lt hg.shp ho'), m.on p ho']
  ·exact h1 p h ho
 ·rcases Nat.lt_or_ge p l.length with h | h
  ·rw [hp.sAt h] at k ⊢
   rw [he p h, m.num p k]
  ·exact h2 p h k
 ·rcases Nat.lt_or_ge p l.length with h | h
  ·rw [hp.sAt h] at k ⊢
   rw [he p h, m.top p k]
   congr 1
   refine List.map_congr_left fun i hi => (he _ (hg.top_lt h k (by simpa using hi))).symm
  ·exact h3 p h k
theorem Mod.unbnd {l : List C} {σ : Nat → Tm} {p q : Nat} (hf : Free1 l p) (hne : q ≠ p) (m : Mod (Go.Proofs.YtgipiplklaeplaaDoor.bnd l p q) σ) : Mod l σ ∧ σ p = σ q := by
 have hn : nx (Go.Proofs.YtgipiplklaeplaaDoor.bnd l p q) p = q := by unfold nx; rw [bnd_self hf.lt]; simp
 refine ⟨⟨fun r hr => ?_, fun r hr => ?_, fun r hr => ?_⟩, ?_⟩
 ·have e : r ≠ p := by rintro rfl; rw [hf.on] at hr; cases hr
  have := m.on r (by rw [bnd_on_other e]; exact hr)
  unfold nx at this ⊢
  rw [bnd_other e] at this
  exact this
 ·have e : r ≠ p := by rintro rfl; have := hf.kind; omega
  have := m.num r (by rw [bnd_other e]; exact hr)
  rw [bnd_other e] at this
  exact this
 ·have e : r ≠ p := by rintro rfl; have := hf.kind; omega
  have := m.top r (by rw [bnd_other e]; exact hr)
  rw [bnd_other e] at this
  exact this
 ·have := m.on p (bnd_on_self hf hne)
  rw [hn] at this
  exact this
theorem mod_setI {l : List C} {p : Nat} (hf : Free1 l p) (n : Int) (σ : Nat → Tm) : Mod (l.set p ⟨2, emp, n⟩) σ ↔ Mod l σ ∧ σ p = .i n := by
 have hs := fun q => sAt_set8 hf.lt (⟨2, emp, n⟩ : C) q
 have ho : ∀ r, r ≠ p → onB (l.set p ⟨2, emp, n⟩) r = onB l r ∧ nx (l.set p ⟨2, emp, n⟩) r = nx l r := fun r e => by unfold onB nx; rw [hs, if_neg e]; exact ⟨rfl, rfl⟩
 have hop : onB (l.set p ⟨2, emp, n⟩) p = false := by rw [on_num (by rw [hs, if_pos rfl])]
 constructor
 ·intro m
  refine ⟨⟨fun r hr => ?_, fun r hr => ?_, fun r hr => ?_⟩, ?_⟩
  ·have e : r ≠ p := by rintro rfl; rw [hf.on] at hr; cases hr
   have := m.on r (by rw [(ho r e).1]; exact hr)
   rw [(ho r e).2] at this
   exact this
  ·have e : r ≠ p := by rintro rfl; have := hf.kind; omega
   have := m.num r (by rw [hs, if_neg e]; exact hr)
   rw [hs, if_neg e] at this
   exact this
  ·have e : r ≠ p := by rintro rfl; have := hf.kind; omega
   have := m.top r (by rw [hs, if_neg e]; exact hr)
   rw [hs, if_neg e] at this
   exact this
  ·have := m.num p (by rw [hs, if_pos rfl])
   rw [hs, if_pos rfl] at this
   exact this
 ·rintro ⟨m, hp⟩
  refine ⟨fun r hr => ?_, fun r hr => ?_, fun r hr => ?_⟩
  ·have e : r ≠ p := by rintro rfl; rw [hop] at hr; cases hr
   rw [(ho r e).1] at hr
   rw [(ho r e).2]
   exact m.on r hr
  ·rw [hs] at hr ⊢
   by_cases e : r = p
   ·subst e; rw [if_pos rfl]; exact hp
   ·rw [if_neg e] at hr ⊢; exact m.num r hr
  ·rw [hs] at hr ⊢
   by_cases e : r = p
   ·subst e; rw [if_pos rfl] at hr; simp at hr
   ·rw [if_neg e] at hr ⊢; exact m.top r hr
theorem mod_setTo {l : List C} {p q : Nat} {k : Int} (hf : Free1 l p) (hne : q ≠ p) (hk : k = 1 ∨ k = 3) (σ : Nat → Tm) : Mod (l.set p ⟨k, emp, (q : Int)⟩) σ ↔ Mod l σ ∧ σ p = σ q := by
 have hs := fun x => sAt_set8 hf.lt (⟨k, emp, (q : Int)⟩ : C) x
 have ho : ∀ r, r ≠ p → onB (l.set p ⟨k, emp, (q : Int)⟩) r = onB l r ∧ nx (l.set p ⟨k, emp, (q : Int)⟩) r = nx l r := fun r e => by unfold onB nx; rw [hs, if_neg e]; exact ⟨rfl, rfl⟩
 have hop : onB (l.set p ⟨k, emp, (q : Int)⟩) p = true ∧ nx (l.set p ⟨k, emp, (q : Int)⟩) p = q := by
  unfold onB nx
  rw [hs, if_pos rfl]
  rcases hk with rfl | rfl
  ·simp; omega
  ·simp
 constructor
 ·intro m
  refine ⟨⟨fun r hr => ?_, fun r hr => ?_, fun r hr => ?_⟩, ?_⟩
  ·have e : r ≠ p := by rintro rfl; rw [hf.on] at hr; cases hr
   have := m.on r (by rw [(ho r e).1]; exact hr)
   rw [(ho r e).2] at this
   exact this
  ·have e : r ≠ p := by rintro rfl; have := hf.kind; omega
   have := m.num r (by rw [hs, if_neg e]; exact hr)
   rw [hs, if_neg e] at this
   exact this
  ·have e : r ≠ p := by rintro rfl; have := hf.kind; omega
   have := m.top r (by rw [hs, if_neg e]; exact hr)
   rw [hs, if_neg e] at this
   exact this
  ·have := m.on p hop.1
   rw [hop.2] at this
   exact this
 ·rintro ⟨m, hp⟩
  refine ⟨fun r hr => ?_, fun r hr => ?_, fun r hr => ?_⟩
  ·by_cases e : r = p
   ·subst e; rw [hop.2]; exact hp
   ·rw [(ho r e).1] at hr
    rw [(ho r e).2]
    exact m.on r hr
  ·rw [hs] at hr ⊢
   by_cases e : r = p
   ·subst e; rw [if_pos rfl] at hr; simp at hr; rcases hk with rfl | rfl <;> simp at hr
   ·rw [if_neg e] at hr ⊢; exact m.num r hr
  ·rw [hs] at hr ⊢
   by_cases e : r = p
   ·subst e; rw [if_pos rfl] at hr; simp at hr; rcases hk with rfl | rfl <;> simp at hr
   ·rw [if_neg e] at hr ⊢; exact m.top r hr
def topL (p : Nat) (s : ByteArray) (n : Nat) : List C := ⟨4, s, (n : Int)⟩ :: (List.range n).map fun k => ⟨1, emp, ((p + 1 + k : Nat) : Int)⟩
theorem topL_len (p : Nat) (s : ByteArray) (n : Nat) : (topL p s n).length = n + 1 := by simp [topL]
theorem topL_zero (l : List C) (s : ByteArray) (n : Nat) : sAt (l ++ topL l.length s n) l.length = ⟨4, s, (n : Int)⟩ := by
 rw [sAt_append, if_neg (by omega), Nat.sub_self]; rfl
theorem topL_at (l : List C) (s : ByteArray) (n : Nat) {k : Nat} (hk : k < n) : sAt (l ++ topL l.length s n) (l.length + 1 + k) = ⟨1, emp, ((l.length + 1 + k : Nat) : Int)⟩ := by
 rw [sAt_append, if_neg (by omega), show l.length + 1 + k - l.length = k + 1 by omega]
 unfold sAt topL
 simp [List.getElem?_map, List.getElem?_range hk]
theorem topL_free (l : List C) (s : ByteArray) (n : Nat) {k : Nat} (hk : k < n) : Free1 (l ++ topL l.length s n) (l.length + 1 + k) :=
 ⟨by simp [topL_len]; omega, by rw [topL_at l s n hk], by rw [topL_at l s n hk]⟩
theorem topL_cases {l : List C} {s : ByteArray} {n p : Nat} (h1 : l.length ≤ p) (h2 : p < (l ++ topL l.length s n).length) : p = l.length ∨ ∃ k, k < n ∧ p = l.length + 1 + k := by
 rw [List.length_append, topL_len] at h2
 by_cases e : p = l.length
 ·exact .inl e
 ·exact .inr ⟨p - l.length - 1, by omega, by omega⟩
theorem topL_good {l : List C} (h : Good l) {s : ByteArray} {n : Nat} (hs : okName s = true) (hn : n ≤ 6) : Good (l ++ topL l.length s n) := by
 refine edges_good (Pre.append _ _) h fun p h1 h2 => ?_
 rcases topL_cases h1 h2 with rfl | ⟨k, hk, rfl⟩
 ·have e := topL_zero l s n
  refine ⟨?_, fun k1 => by rw [e] at k1; simp at k1, fun k1 => by rw [e] at k1; simp at k1⟩
  rw [e]
  have : ((List.range n).any fun i => (sAt (l ++ topL l.length s n) (l.length + 1 + i)).kind == 4) = false := by
   rw [List.any_eq_false]
   intro i hi
   rw [topL_at l s n (by simpa using hi)]
   simp
  simp only [okSl, Int.toNat_natCast, this, hs, List.length_append, topL_len]
  simp
  omega
 ·have e := topL_at l s n hk
  refine ⟨?_, fun _ => ⟨l.length + 1 + k, by rw [e], .inl rfl⟩, fun k1 => by rw [e] at k1; simp at k1⟩
  rw [e]
  simp only [okSl, emp, empty_toList, List.length_append, topL_len]
  simp
  omega
theorem numL_good {l : List C} (h : Good l) {n : Int} (h1 : -2147483647 ≤ n) (h2 : n ≤ 2147483647) : Good (l ++ [⟨2, emp, n⟩]) := by
 refine edges_good (Pre.append _ _) h fun p h1' h2' => ?_
 have hp : p = l.length := by simp at h2'; omega
 subst hp
 have e : sAt (l ++ [(⟨2, emp, n⟩ : C)]) l.length = ⟨2, emp, n⟩ := sAt_get (by simp)
 exact ⟨by rw [e]; simp [okSl, emp, empty_toList, h1, h2], fun k1 => by rw [e] at k1; simp at k1, fun k1 => by rw [e] at k1; simp at k1⟩
theorem free_pre {l L : List C} (hp : Pre l L) {p : Nat} (hf : Free1 l p) : Free1 L p := ⟨Nat.lt_of_lt_of_le hf.lt hp.le, by rw [hp.sAt hf.lt]; exact hf.kind, by rw [hp.sAt hf.lt]; exact hf.own⟩
theorem free_path8 {l : List C} {p q : Nat} (hf : Free1 l p) (h : Path l p q) : q = p := by
 cases h with
 | refl => rfl
 | step hq _ => rw [hf.leads] at hq; cases hq
theorem topL_path {l : List C} {s : ByteArray} {n : Nat} {p : Nat} (h : Path (l ++ topL l.length s n) l.length p) : l.length ≤ p := by
 cases h with
 | refl => exact Nat.le_refl _
 | step hq hp =>
  rename_i q
  rw [leads_top (by rw [topL_zero]), topL_zero] at hq
  obtain ⟨i, hi, rfl⟩ := List.mem_map.1 hq
  have := free_path8 (topL_free l s n (by simpa using hi)) hp
  omega
theorem path_pre {l L : List C} (h : Good l) (hp : Pre l L) {x z : Nat} (hx : x < l.length) (hP : Path L x z) : Path l x z := by
 induction hP with
 | refl x => exact .refl _
 | step hq _ ih =>
  rename_i x q z _
  rw [hp.leads hx] at hq
  exact .step hq (ih (leads_lt h.shp hq))
end Go.Proofs.YtgipiplklaeplaaDoor
namespace Go.Proofs.YtgipiplklaeplaaDoor
open Go.RowKit
structure Mc where
 l : List C
 tr : List Int
 r : Int
 regs : List Int
 next : Int
 goals : List (Bool × Int)
def Mc.reg (m : Mc) (a : Int) : Int := (m.regs[a.toNat]?).getD 0
inductive McR where
 | ok (m : Mc)
 | err (e : Int)
def Mc.set (m : Mc) (p : Int) : Mc := { m with regs := m.regs ++ [p] }
def Mc.pass (m : Mc) : Mc := { m with next := m.next + 1 }
def Mc.putTo (m : Mc) (x : List C) (p : Nat) : Mc := { m with l := bnd (m.l ++ x) p m.l.length, tr := m.tr ++ [(p : Int)] }
def Mc.fits (m : Mc) (n : Nat) : Prop := ((m.l.length + n : Nat) : Int) ≤ m.r
instance (m : Mc) (n : Nat) : Decidable (m.fits n) := by unfold Mc.fits; exact inferInstance
def Mc.number (m : Mc) (at_ : Int) (n : Int) : McR :=
 if (sAt m.l (fol m.l at_.toNat)).kind = 2 ∧ (sAt m.l (fol m.l at_.toNat)).n = n then .ok m
 else if (sAt m.l (fol m.l at_.toNat)).kind ≠ 1 then .err 3
 else if m.fits 1 then .ok (m.putTo [⟨2, emp, n⟩] (fol m.l at_.toNat)) else .err 80
def Mc.unify (m : Mc) (a b : Int) : McR :=
 match uniZ m.l m.tr a b with
 | some u => .ok { m with l := u.1, tr := u.2 }
 | none => .err 3
def Mc.fun_ (m : Mc) (at_ : Int) (s : ByteArray) (n : Nat) : McR :=
 if (sAt m.l (fol m.l at_.toNat)).kind = 4 ∧ (sAt m.l (fol m.l at_.toNat)).name = s ∧ (sAt m.l (fol m.l at_.toNat)).n = (n : Int) then .ok { m with next := ((fol m.l at_.toNat + 1 : Nat) : Int) }
 else if (sAt m.l (fol m.l at_.toNat)).kind ≠ 1 then .err 3
 else if m.fits (n + 1) then .ok { m.putTo (topL m.l.length s n) (fol m.l at_.toNat) with next := ((m.l.length + 1 : Nat) : Int) } else .err 80
def Mc.put (m : Mc) (s : ByteArray) (n : Nat) : McR :=
 if m.fits (n + 1) then .ok ({ m with l := m.l ++ topL m.l.length s n, next := ((m.l.length + 1 : Nat) : Int) }.set (m.l.length : Nat)) else .err 80
def Mc.write (m : Mc) (c : C) : Mc := { m with l := m.l.set m.next.toNat c, next := m.next + 1 }
def ptrC (l : List C) (p : Int) : C := ⟨if (sAt l p.toNat).kind = 4 then 3 else 1, emp, p⟩
def stepF (m : Mc) (i : In) : McR :=
 if i.op = 1 then .ok (m.set (m.reg i.a))
 else if i.op = 2 then m.unify (m.reg i.x) (m.reg i.a)
 else if i.op = 3 then m.number (m.reg i.a) i.n
 else if i.op = 4 then m.fun_ (m.reg i.a) i.name i.n.toNat
 else if i.op = 5 ∨ i.op = 9 then .ok (m.pass.set m.next)
 else if i.op = 6 then m.pass.unify m.next (m.reg i.x)
 else if i.op = 7 then m.pass.number m.next i.n
 else if i.op = 8 then m.put i.name i.n.toNat
 else if i.op = 10 then .ok (m.write (ptrC m.l (m.reg i.x)))
 else if i.op = 11 then .ok (m.write ⟨2, emp, i.n⟩)
 else if i.op = 12 then .ok { m with goals := m.goals ++ [(i.neg, m.reg i.a)] }
 else .ok m
structure McOk (m : Mc) : Prop where
 ok : OkH ⟨m.l, m.tr, m.r⟩
 pl : ∀ x ∈ m.regs, 0 ≤ x ∧ x < (m.l.length : Int)
 nx : 0 ≤ m.next ∧ m.next ≤ (m.l.length : Int)
structure Fit (m : Mc) (i : In) : Prop where
 mok : McOk m
 op : 1 ≤ i.op ∧ i.op ≤ 13
 a : i.op = 1 ∨ i.op = 2 ∨ i.op = 3 ∨ i.op = 4 ∨ i.op = 12 → 0 ≤ i.a ∧ i.a < (m.regs.length : Int)
 x : i.op = 2 ∨ i.op = 6 ∨ i.op = 10 → 0 ≤ i.x ∧ i.x < (m.regs.length : Int)
 newX : i.op = 1 ∨ i.op = 5 ∨ i.op = 9 → i.x = (m.regs.length : Int)
 newA : i.op = 8 → i.a = (m.regs.length : Int)
 next : i.op = 5 ∨ i.op = 6 ∨ i.op = 7 ∨ i.op = 9 ∨ i.op = 10 ∨ i.op = 11 → m.next < (m.l.length : Int)
 num : i.op = 3 ∨ i.op = 7 ∨ i.op = 11 → -2147483647 ≤ i.n ∧ i.n ≤ 2147483647
 name : i.op = 4 ∨ i.op = 8 → okName i.name = true ∧ 0 ≤ i.n ∧ i.n ≤ 6
inductive McO where
 | ok (m : Mc) (k : Nat)
 | err (e : Int) (k : Nat)
 | bad
open Classical in
noncomputable def stepO : McO → In → McO
 | .ok m k, i => if Fit m i then (match stepF m i with | .ok m' => .ok m' (k + 1) | .err e => .err e k) else .bad
 | .err e k, _ => .err e k
 | .bad, _ => .bad
noncomputable def out (m : Mc) (l : List In) : McO := l.foldl stepO (.ok m 0)
open Classical in
theorem stepO_yes {m : Mc} {i : In} (h : Fit m i) (k : Nat) : stepO (.ok m k) i = match stepF m i with | .ok m' => .ok m' (k + 1) | .err e => .err e k := by
 show (if Fit m i then _ else _) = _
 rw [if_pos h]
open Classical in
theorem stepO_no {m : Mc} {i : In} (h : ¬ Fit m i) (k : Nat) : stepO (.ok m k) i = .bad := by
 show (if Fit m i then _ else _) = _
 rw [if_neg h]
theorem out_snoc (m : Mc) (l : List In) (i : In) : out m (l ++ [i]) = stepO (out m l) i := by simp [out]
theorem fold_err (e : Int) (k : Nat) : ∀ l : List In, l.foldl stepO (.err e k) = .err e k
 | [] => rfl
 | _ :: l => fold_err e k l
theorem fold_bad : ∀ l : List In, l.foldl stepO .bad = .bad
 | [] => rfl
 | _ :: l => fold_bad l
theorem out_app (m : Mc) (l x : List In) : out m (l ++ x) = x.foldl stepO (out m l) := by simp [out]
theorem out_take {m : Mc} {l : List In} (hb : out m l ≠ .bad) {k : Nat} (hk : k ≤ l.length) : (∃ m', out m (l.take k) = .ok m' k) ∨ ∃ e j, j < k ∧ out m (l.take k) = .err e j ∧ out m l = .err e j := by
 induction k with
 | zero => exact .inl ⟨m, rfl⟩
 | succ k ih =>
  have ht : l.take (k + 1) = l.take k ++ [l[k]'(by omega)] := (List.take_append_getElem (by omega)).symm
  rcases ih (by omega) with ⟨m', h⟩ | ⟨e, j, h1, h2, h3⟩
  ·rw [ht, out_snoc, h]
   have hl : out m l = (l.drop (k + 1)).foldl stepO (stepO (.ok m' k) (l[k]'(by omega))) := by
    conv => lhs; rw [← List.take_append_drop (k + 1) l]
    rw [out_app, ht, out_snoc, h]
   by_cases hf : Fit m' (l[k]'(by omega))
   ·rw [stepO_yes hf] at hl ⊢
    cases hs : stepF m' (l[k]'(by omega)) with
    | ok m2 => exact .inl ⟨m2, rfl⟩
    | err e =>
     rw [hs] at hl
     simp only at hl
     rw [fold_err] at hl
     exact .inr ⟨e, k, by omega, rfl, hl⟩
   ·rw [stepO_no hf, fold_bad] at hl
    exact absurd hl hb
  ·rw [ht, out_snoc, h2]
   exact .inr ⟨e, j, by omega, rfl, h3⟩
theorem out_fit {m : Mc} {l : List In} (hb : out m l ≠ .bad) {k : Nat} {m' : Mc} {i : In} (hi : l[k]? = some i) (h : out m (l.take k) = .ok m' k) : Fit m' i ∧ out m (l.take (k + 1)) = match stepF m' i with | .ok m2 => .ok m2 (k + 1) | .err e => .err e k := by
 have hk : k < l.length := (List.getElem?_eq_some_iff.1 hi).1
 have hg : l[k]'hk = i := (List.getElem?_eq_some_iff.1 hi).2
 have ht : l.take (k + 1) = l.take k ++ [i] := by rw [← hg]; exact (List.take_append_getElem hk).symm
 have hl : out m l = (l.drop (k + 1)).foldl stepO (stepO (.ok m' k) i) := by
  conv => lhs; rw [← List.take_append_drop (k + 1) l]
  rw [out_app, ht, out_snoc, h]
 by_cases hf : Fit m' i
 ·refine ⟨hf, ?_⟩
  rw [ht, out_snoc, h, stepO_yes hf]
 ·rw [stepO_no hf, fold_bad] at hl
  exact absurd hl hb
theorem step_len {m m' : Mc} {i : In} (h : stepF m i = .ok m') : m.regs.length ≤ m'.regs.length ∧ m'.regs.length ≤ m.regs.length + 1 ∧ m'.goals.length ≤ m.goals.length + 1 ∧ m'.r = m.r := by
 have uni : ∀ (q : Mc) (a b : Int), q.unify a b = .ok m' → m'.regs = q.regs ∧ m'.goals = q.goals ∧ m'.r = q.r := fun q a b h => by
  unfold Mc.unify at h
  split at h
  ·injection h with h; subst h; exact ⟨rfl, rfl, rfl⟩
  ·cases h
 have num : ∀ (q : Mc) (a b : Int), q.number a b = .ok m' → m'.regs = q.regs ∧ m'.goals = q.goals ∧ m'.r = q.r := fun q a b h => by
  unfold Mc.number at h
  split at h
  ·injection h with h; subst h; exact ⟨rfl, rfl, rfl⟩
  ·split at h
   ·cases h
   ·split at h
    ·injection h with h; subst h; exact ⟨rfl, rfl, rfl⟩
    ·cases h
 have fn : ∀ (q : Mc) (a : Int) s n, q.fun_ a s n = .ok m' → m'.regs = q.regs ∧ m'.goals = q.goals ∧ m'.r = q.r := fun q a s n h => by
  unfold Mc.fun_ at h
  split at h
  ·injection h with h; subst h; exact ⟨rfl, rfl, rfl⟩
  ·split at h
   ·cases h
   ·split at h
    ·injection h with h; subst h; exact ⟨rfl, rfl, rfl⟩
    ·cases h
 unfold stepF at h
 by_cases c1 : i.op = 1
 ·rw [if_pos c1] at h; injection h with h; subst h; simp [Mc.set]
 rw [if_neg c1] at h
 by_cases c2 : i.op = 2
 ·rw [if_pos c2] at h; obtain ⟨h1, h2, h3⟩ := uni _ _ _ h; rw [h1, h2, h3]; simp
 rw [if_neg c2] at h
 by_cases c3 : i.op = 3
 ·rw [if_pos c3] at h; obtain ⟨h1, h2, h3⟩ := num _ _ _ h; rw [h1, h2, h3]; simp
 rw [if_neg c3] at h
 by_cases c4 : i.op = 4
 ·rw [if_pos c4] at h; obtain ⟨h1, h2, h3⟩ := fn _ _ _ _ h; rw [h1, h2, h3]; simp
 rw [if_neg c4] at h
 by_cases c5 : i.op = 5 ∨ i.op = 9
 ·rw [if_pos c5] at h; injection h with h; subst h; simp [Mc.set, Mc.pass]
 rw [if_neg c5] at h
 by_cases c6 : i.op = 6
 ·rw [if_pos c6] at h; obtain ⟨h1, h2, h3⟩ := uni _ _ _ h; rw [h1, h2, h3]; simp [Mc.pass]
 rw [if_neg c6] at h
 by_cases c7 : i.op = 7
 ·rw [if_pos c7] at h; obtain ⟨h1, h2, h3⟩ := num _ _ _ h; rw [h1, h2, h3]; simp [Mc.pass]
 rw [if_neg c7] at h
 by_cases c8 : i.op = 8
 ·rw [if_pos c8] at h
  unfold Mc.put at h
  split at h
  ·injection h with h; subst h; simp [Mc.set]
  ·cases h
 rw [if_neg c8] at h
 by_cases c10 : i.op = 10
 ·rw [if_pos c10] at h; injection h with h; subst h; simp [Mc.write]
 rw [if_neg c10] at h
 by_cases c11 : i.op = 11
 ·rw [if_pos c11] at h; injection h with h; subst h; simp [Mc.write]
 rw [if_neg c11] at h
 by_cases c12 : i.op = 12
 ·rw [if_pos c12] at h; injection h with h; subst h; simp
 rw [if_neg c12] at h
 injection h with h; subst h; simp
theorem fold_ok : ∀ (l : List In) {m : Mc} {k : Nat} {m' : Mc} {k' : Nat}, l.foldl stepO (.ok m k) = .ok m' k' → k' = k + l.length ∧ m.regs.length ≤ m'.regs.length ∧ m'.regs.length ≤ m.regs.length + l.length ∧ m'.goals.length ≤ m.goals.length + l.length ∧ m'.r = m.r
 | [], m, k, m', k', h => by
  simp at h
  rw [← h.1, ← h.2]
  simp
 | i :: l, m, k, m', k', h => by
  rw [List.foldl_cons] at h
  by_cases hf : Fit m i
  ·rw [stepO_yes hf] at h
   cases hs : stepF m i with
   | ok m2 =>
    rw [hs] at h
    have h1 := fold_ok l h
    have h2 := step_len hs
    rw [h1.2.2.2.2, h2.2.2.2, List.length_cons]
    refine ⟨by omega, by omega, by omega, by omega, rfl⟩
   | err e =>
    rw [hs] at h
    simp only at h
    rw [fold_err] at h
    cases h
  ·rw [stepO_no hf, fold_bad] at h; cases h
theorem step_err {m : Mc} {i : In} {e : Int} (h : stepF m i = .err e) : e = 3 ∨ e = 80 := by
 have uni : ∀ (q : Mc) (a b : Int), q.unify a b = .err e → e = 3 := fun q a b h => by
  unfold Mc.unify at h
  split at h
  ·cases h
  ·injection h with h; exact h.symm
 have num : ∀ (q : Mc) (a b : Int), q.number a b = .err e → e = 3 ∨ e = 80 := fun q a b h => by
  unfold Mc.number at h
  split at h
  ·cases h
  ·split at h
   ·injection h with h; exact .inl h.symm
   ·split at h
    ·cases h
    ·injection h with h; exact .inr h.symm
 have fn : ∀ (q : Mc) (a : Int) s n, q.fun_ a s n = .err e → e = 3 ∨ e = 80 := fun q a s n h => by
  unfold Mc.fun_ at h
  split at h
  ·cases h
  ·split at h
   ·injection h with h; exact .inl h.symm
   ·split at h
    ·cases h
    ·injection h with h; exact .inr h.symm
 unfold stepF at h
 by_cases c1 : i.op = 1
 ·rw [if_pos c1] at h; cases h
 rw [if_neg c1] at h
 by_cases c2 : i.op = 2
 ·rw [if_pos c2] at h; exact .inl (uni _ _ _ h)
 rw [if_neg c2] at h
 by_cases c3 : i.op = 3
 ·rw [if_pos c3] at h; exact num _ _ _ h
 rw [if_neg c3] at h
 by_cases c4 : i.op = 4
 ·rw [if_pos c4] at h; exact fn _ _ _ _ h
 rw [if_neg c4] at h
 by_cases c5 : i.op = 5 ∨ i.op = 9
 ·rw [if_pos c5] at h; cases h
 rw [if_neg c5] at h
 by_cases c6 : i.op = 6
 ·rw [if_pos c6] at h; exact .inl (uni _ _ _ h)
 rw [if_neg c6] at h
 by_cases c7 : i.op = 7
 ·rw [if_pos c7] at h; exact num _ _ _ h
 rw [if_neg c7] at h
 by_cases c8 : i.op = 8
 ·rw [if_pos c8] at h
  unfold Mc.put at h
  split at h
  ·cases h
  ·injection h with h; exact .inr h.symm
 rw [if_neg c8] at h
 by_cases c10 : i.op = 10
 ·rw [if_pos c10] at h; cases h
 rw [if_neg c10] at h
 by_cases c11 : i.op = 11
 ·rw [if_pos c11] at h; cases h
 rw [if_neg c11] at h
 by_cases c12 : i.op = 12
 ·rw [if_pos c12] at h; cases h
 rw [if_neg c12] at h
 cases h
end Go.Proofs.YtgipiplklaeplaaDoor
