/- Texts of this proof that belong together: words of memory, plain laws, walks. -/
import Derived.Test.YtgipiplklaeplaaDoorB02
set_option linter.unusedVariables false
set_option linter.unusedSimpArgs false
namespace Go.Proofs.YtgipiplklaeplaaDoor
open Go.RowKit
def sAt (l : List C) (p : Nat) : C := (l[p]?).getD ⟨0, ⟨#[]⟩, 0⟩
theorem sAt_get {l : List C} {p : Nat} {c : C} (h : l[p]? = some c) : sAt l p = c := by simp [sAt, h]
theorem sAt_past {l : List C} {p : Nat} (h : l.length ≤ p) : sAt l p = ⟨0, ⟨#[]⟩, 0⟩ := by simp [sAt, List.getElem?_eq_none h]
theorem sAt_some {l : List C} {p : Nat} (h : p < l.length) : l[p]? = some (sAt l p) := by simp [sAt, h]
def onB (l : List C) (p : Nat) : Bool := ((sAt l p).kind == 1 && !((sAt l p).n == (p : Int))) || (sAt l p).kind == 3
def nx (l : List C) (p : Nat) : Nat := (sAt l p).n.toNat
def leads (l : List C) (p : Nat) : List Nat :=
 if onB l p then [nx l p] else if (sAt l p).kind = 4 then (List.range (sAt l p).n.toNat).map (fun i => p + 1 + i) else []
def Ac (l : List C) : Prop := ∃ rk : Nat → Nat, ∀ p, ∀ q ∈ leads l p, rk q < rk p
def okSl (l : List C) (p : Nat) (c : C) : Bool :=
 if c.kind = 1 then c.name.toList == [] && (decide (0 ≤ c.n) && decide (c.n < l.length))
 else if c.kind = 2 then c.name.toList == [] && (decide (-2147483647 ≤ c.n) && decide (c.n ≤ 2147483647))
 else if c.kind = 3 then c.name.toList == [] && ((decide (0 ≤ c.n) && decide (c.n < l.length)) && (sAt l c.n.toNat).kind == 4)
 else if c.kind = 4 then (decide (0 ≤ c.n) && decide (c.n ≤ 6)) && (decide ((p : Int) + c.n < l.length) && (okName c.name && !((List.range c.n.toNat).any fun i => (sAt l (p + 1 + i)).kind == 4)))
 else false
def shpB (l : List C) : Bool := (List.range l.length).all fun p => okSl l p (sAt l p)
theorem toList_nil {s : ByteArray} (h : s.toList = []) : s = ⟨#[]⟩ := by
 rw [ByteArray.toList_eq] at h
 obtain ⟨⟨x⟩⟩ := s
 simp at h
 simp [h]
theorem shp_at {l : List C} (h : shpB l = true) {p : Nat} (hp : p < l.length) : okSl l p (sAt l p) = true := by
 unfold shpB at h
 rw [List.all_eq_true] at h
 exact h p (by simpa using hp)
theorem shp_mk {l : List C} (h : ∀ p, p < l.length → okSl l p (sAt l p) = true) : shpB l = true := by
 unfold shpB
 rw [List.all_eq_true]
 exact fun p hp => h p (by simpa using hp)
theorem ok_ref {l : List C} {p : Nat} {c : C} (h : okSl l p c = true) (k : c.kind = 1) : c.name = ⟨#[]⟩ ∧ 0 ≤ c.n ∧ c.n < l.length := by
 simp only [okSl, if_pos k, Bool.and_eq_true, beq_iff_eq, decide_eq_true_eq] at h
 exact ⟨toList_nil h.1, h.2.1, h.2.2⟩
theorem ok_num {l : List C} {p : Nat} {c : C} (h : okSl l p c = true) (k : c.kind = 2) : c.name = ⟨#[]⟩ ∧ -2147483647 ≤ c.n ∧ c.n ≤ 2147483647 := by
 have k1 : ¬ c.kind = 1 := by omega
 simp only [okSl, if_neg k1, if_pos k, Bool.and_eq_true, beq_iff_eq, decide_eq_true_eq] at h
 exact ⟨toList_nil h.1, h.2.1, h.2.2⟩
theorem ok_ptr {l : List C} {p : Nat} {c : C} (h : okSl l p c = true) (k : c.kind = 3) : c.name = ⟨#[]⟩ ∧ 0 ≤ c.n ∧ c.n < l.length ∧ (sAt l c.n.toNat).kind = 4 := by
 have k1 : ¬ c.kind = 1 := by omega
 have k2 : ¬ c.kind = 2 := by omega
 simp only [okSl, if_neg k1, if_neg k2, if_pos k, Bool.and_eq_true, beq_iff_eq, decide_eq_true_eq] at h
 exact ⟨toList_nil h.1, h.2.1.1, h.2.1.2, h.2.2⟩
theorem ok_top {l : List C} {p : Nat} {c : C} (h : okSl l p c = true) (k : c.kind = 4) : 0 ≤ c.n ∧ c.n ≤ 6 ∧ (p : Int) + c.n < l.length ∧ okName c.name = true ∧ ∀ i, i < c.n.toNat → (sAt l (p + 1 + i)).kind ≠ 4 := by
 have k1 : ¬ c.kind = 1 := by omega
 have k2 : ¬ c.kind = 2 := by omega
 have k3 : ¬ c.kind = 3 := by omega
 simp only [okSl, if_neg k1, if_neg k2, if_neg k3, if_pos k, Bool.and_eq_true, decide_eq_true_eq, Bool.not_eq_true', List.any_eq_false, List.mem_range, beq_iff_eq] at h
 exact ⟨h.1.1, h.1.2, h.2.1, h.2.2.1, h.2.2.2⟩
theorem ok_kind {l : List C} {p : Nat} {c : C} (h : okSl l p c = true) : c.kind = 1 ∨ c.kind = 2 ∨ c.kind = 3 ∨ c.kind = 4 := by
 by_cases k1 : c.kind = 1
 ·exact .inl k1
 ·by_cases k2 : c.kind = 2
  ·exact .inr (.inl k2)
  ·by_cases k3 : c.kind = 3
   ·exact .inr (.inr (.inl k3))
   ·by_cases k4 : c.kind = 4
    ·exact .inr (.inr (.inr k4))
    ·simp [okSl, k1, k2, k3, k4] at h
theorem on_ref {l : List C} {p : Nat} (h : (sAt l p).kind = 1) : onB l p = !((sAt l p).n == (p : Int)) := by simp [onB, h]
theorem on_num {l : List C} {p : Nat} (h : (sAt l p).kind = 2) : onB l p = false := by simp [onB, h]
theorem on_ptr {l : List C} {p : Nat} (h : (sAt l p).kind = 3) : onB l p = true := by simp [onB, h]
theorem on_top {l : List C} {p : Nat} (h : (sAt l p).kind = 4) : onB l p = false := by simp [onB, h]
theorem on_kind {l : List C} {p : Nat} (h : onB l p = true) : (sAt l p).kind = 1 ∧ (sAt l p).n ≠ p ∨ (sAt l p).kind = 3 := by
 simpa [onB] using h
theorem on_lt {l : List C} {p : Nat} (h : onB l p = true) : p < l.length := by
 by_cases hp : p < l.length
 ·exact hp
 ·rw [onB, sAt_past (by omega)] at h; simp at h
theorem nx_lt {l : List C} (hs : shpB l = true) {p : Nat} (h : onB l p = true) : nx l p < l.length := by
 have ho := shp_at hs (on_lt h)
 unfold nx
 rcases on_kind h with ⟨k, _⟩ | k
 ·have := ok_ref ho k; omega
 ·have := ok_ptr ho k; omega
theorem leads_on {l : List C} {p : Nat} (h : onB l p = true) : leads l p = [nx l p] := by simp [leads, h]
theorem leads_top {l : List C} {p : Nat} (h : (sAt l p).kind = 4) : leads l p = (List.range (sAt l p).n.toNat).map (fun i => p + 1 + i) := by simp [leads, on_top h, h]
theorem leads_no {l : List C} {p : Nat} (h : onB l p = false) (h4 : (sAt l p).kind ≠ 4) : leads l p = [] := by simp [leads, h, h4]
theorem leads_lt {l : List C} (hs : shpB l = true) {p q : Nat} (h : q ∈ leads l p) : q < l.length := by
 cases ho : onB l p
 ·by_cases h4 : (sAt l p).kind = 4
  ·rw [leads_top h4] at h
   obtain ⟨i, hi, rfl⟩ := List.mem_map.1 h
   have hp : p < l.length := by
    by_cases hp : p < l.length
    ·exact hp
    ·rw [sAt_past (by omega)] at h4; simp at h4
   have := ok_top (shp_at hs hp) h4
   simp at hi
   omega
  ·rw [leads_no ho h4] at h; cases h
 ·rw [leads_on ho] at h
  simp at h
  subst h
  exact nx_lt hs ho
theorem leads_past {l : List C} {p : Nat} (h : l.length ≤ p) : leads l p = [] := leads_no (by simp [onB, sAt_past h]) (by simp [sAt_past h])
theorem filter_lt {α : Type} (P Q : α → Bool) : ∀ (l : List α), (∀ x ∈ l, P x = true → Q x = true) → ∀ x ∈ l, Q x = true → P x = false → (l.filter P).length < (l.filter Q).length
 | [], _, x, hx, _, _ => by cases hx
 | a :: l, h, x, hx, hq, hp => by
  have hle : ∀ (l : List α), (∀ x ∈ l, P x = true → Q x = true) → (l.filter P).length ≤ (l.filter Q).length := by
   intro l h
   induction l with
   | nil => simp
   | cons b l ih =>
    have ih' := ih (fun x hx => h x (by simp [hx]))
    have hb := h b (by simp)
    cases hpb : P b
    ·cases hqb : Q b <;> simp [List.filter_cons, hpb, hqb] <;> omega
    ·simp [List.filter_cons, hpb, hb hpb]; omega
  rcases List.mem_cons.1 hx with rfl | hx
  ·have := hle l (fun y hy => h y (by simp [hy]))
   simp [List.filter_cons, hp, hq]; omega
  ·have ih := filter_lt P Q l (fun y hy => h y (by simp [hy])) x hx hq hp
   have ha := h a (by simp)
   cases hpa : P a
   ·cases hqa : Q a <;> simp [List.filter_cons, hpa, hqa] <;> omega
   ·simp [List.filter_cons, hpa, ha hpa]; omega
theorem Ac.bounded {l : List C} (h : Ac l) : ∃ rk : Nat → Nat, (∀ p, p < l.length → rk p < l.length) ∧ ∀ p q, q < l.length → q ∈ leads l p → rk q < rk p := by
 obtain ⟨rk, hr⟩ := h
 refine ⟨fun p => ((List.range l.length).filter fun q => decide (rk q < rk p)).length, fun p hp => ?_, fun p q hq hm => ?_⟩
 ·have := filter_lt (fun q => decide (rk q < rk p)) (fun _ => true) (List.range l.length) (fun _ _ _ => rfl) p (by simpa using hp) rfl (by simp)
  rw [List.filter_eq_self.2 (fun _ _ => rfl), List.length_range] at this
  exact this
 ·have h1 := hr p q hm
  exact filter_lt _ _ _ (fun x _ hx => by simp at hx ⊢; omega) q (by simpa using hq) (by simpa using h1) (by simp)
def folN (l : List C) : Nat → Nat → Nat
 | 0, p => p
 | k + 1, p => if onB l p then folN l k (nx l p) else p
def fol (l : List C) (p : Nat) : Nat := folN l l.length p
structure Good (l : List C) : Prop where
 shp : shpB l = true
 ac : Ac l
theorem folN_stop {l : List C} {rk : Nat → Nat} (hs : shpB l = true) (hr : ∀ p q, q < l.length → q ∈ leads l p → rk q < rk p) : ∀ (k p : Nat), p < l.length → rk p ≤ k → onB l (folN l k p) = false ∧ folN l k p < l.length
 | 0, p, hp, hk => by
  refine ⟨?_, hp⟩
  show onB l p = false
  cases ho : onB l p
  ·rfl
  ·have := hr p (nx l p) (nx_lt hs ho) (by rw [leads_on ho]; simp)
   omega
 | k + 1, p, hp, hk => by
  unfold folN
  cases ho : onB l p
  ·simp [ho, hp]
  ·have := hr p (nx l p) (nx_lt hs ho) (by rw [leads_on ho]; simp)
   simpa using folN_stop hs hr k (nx l p) (nx_lt hs ho) (by omega)
theorem folN_eq {l : List C} {rk : Nat → Nat} (hs : shpB l = true) (hr : ∀ p q, q < l.length → q ∈ leads l p → rk q < rk p) : ∀ (k k' p : Nat), rk p ≤ k → rk p ≤ k' → folN l k p = folN l k' p
 | 0, 0, p, _, _ => rfl
 | 0, k' + 1, p, hk, _ => by
  unfold folN
  cases ho : onB l p
  ·simp
  ·have := hr p (nx l p) (nx_lt hs ho) (by rw [leads_on ho]; simp)
   omega
 | k + 1, 0, p, _, hk => by
  unfold folN
  cases ho : onB l p
  ·simp
  ·have := hr p (nx l p) (nx_lt hs ho) (by rw [leads_on ho]; simp)
   omega
 | k + 1, k' + 1, p, hk, hk' => by
  unfold folN
  cases ho : onB l p
  ·simp
  ·have := hr p (nx l p) (nx_lt hs ho) (by rw [leads_on ho]; simp)
   simpa using folN_eq hs hr k k' (nx l p) (by omega) (by omega)
theorem Good.fol_end {l : List C} (h : Good l) {p : Nat} (hp : p < l.length) : onB l (fol l p) = false ∧ fol l p < l.length := by
 obtain ⟨rk, h1, h2⟩ := h.ac.bounded
 exact folN_stop h.shp h2 _ p hp (by have := h1 p hp; omega)
theorem fol_here {l : List C} {p : Nat} (h : onB l p = false) : fol l p = p := by
 unfold fol
 cases l.length <;> simp [folN, h]
theorem Good.fol_step {l : List C} (h : Good l) {p : Nat} (ho : onB l p = true) : fol l p = fol l (nx l p) := by
 obtain ⟨rk, h1, h2⟩ := h.ac.bounded
 have hp := on_lt ho
 have hlt := h2 p (nx l p) (nx_lt h.shp ho) (by rw [leads_on ho]; simp)
 have hb := h1 p hp
 unfold fol
 obtain ⟨n, hn⟩ : ∃ n, l.length = n + 1 := ⟨l.length - 1, by omega⟩
 rw [hn]
 have : folN l (n + 1) p = folN l n (nx l p) := by simp [folN, ho]
 rw [this]
 exact folN_eq h.shp h2 n (n + 1) _ (by omega) (by omega)
theorem Good.fol_fol {l : List C} (h : Good l) {p : Nat} (hp : p < l.length) : fol l (fol l p) = fol l p := fol_here (h.fol_end hp).1
theorem Good.fol_kind {l : List C} (h : Good l) {p : Nat} (hp : p < l.length) : (sAt l (fol l p)).kind = 1 ∧ (sAt l (fol l p)).n = fol l p ∨ (sAt l (fol l p)).kind = 2 ∨ (sAt l (fol l p)).kind = 4 := by
 obtain ⟨h1, h2⟩ := h.fol_end hp
 rcases ok_kind (shp_at h.shp h2) with k | k | k | k
 ·refine .inl ⟨k, ?_⟩
  rw [on_ref k] at h1
  simpa using h1
 ·exact .inr (.inl k)
 ·rw [on_ptr k] at h1; cases h1
 ·exact .inr (.inr k)
inductive Path (l : List C) : Nat → Nat → Prop
 | refl (p : Nat) : Path l p p
 | step {p q r : Nat} : q ∈ leads l p → Path l q r → Path l p r
theorem Path.trans {l : List C} {p q r : Nat} (h : Path l p q) (h' : Path l q r) : Path l p r := by
 induction h with
 | refl => exact h'
 | step hq _ ih => exact .step hq (ih h')
theorem Path.snoc {l : List C} {p q r : Nat} (h : Path l p q) (h' : r ∈ leads l q) : Path l p r := h.trans (.step h' (.refl _))
theorem Path.lt {l : List C} (hs : shpB l = true) {p q : Nat} (h : Path l p q) (hp : p < l.length) : q < l.length := by
 induction h with
 | refl => exact hp
 | step hq _ ih => exact ih (leads_lt hs hq)
def rchN (l : List C) : Nat → Nat → Nat → Bool
 | 0, p, q => p == q
 | k + 1, p, q => p == q || (leads l p).any fun r => rchN l k r q
def rch (l : List C) (p q : Nat) : Bool := rchN l l.length p q
theorem rchN_path {l : List C} : ∀ (k p q : Nat), rchN l k p q = true → Path l p q
 | 0, p, q, h => by simp [rchN] at h; subst h; exact .refl _
 | k + 1, p, q, h => by
  simp only [rchN, Bool.or_eq_true, beq_iff_eq, List.any_eq_true] at h
  rcases h with rfl | ⟨r, hr, h⟩
  ·exact .refl _
  ·exact .step hr (rchN_path k r q h)
theorem rchN_of {l : List C} {rk : Nat → Nat} (hs : shpB l = true) (hr : ∀ p q, q < l.length → q ∈ leads l p → rk q < rk p) {p q : Nat} (h : Path l p q) : ∀ k, rk p ≤ k → rchN l k p q = true := by
 induction h with
 | refl p => intro k _; cases k <;> simp [rchN]
 | step hq h ih =>
  intro k hk
  have := hr _ _ (leads_lt hs hq) hq
  cases k with
  | zero => omega
  | succ k =>
   simp only [rchN, Bool.or_eq_true, List.any_eq_true]
   exact .inr ⟨_, hq, ih k (by omega)⟩
theorem Good.rch_iff {l : List C} (h : Good l) {p q : Nat} (hp : p < l.length) : rch l p q = true ↔ Path l p q := by
 obtain ⟨rk, h1, h2⟩ := h.ac.bounded
 exact ⟨rchN_path _ p q, fun hh => rchN_of h.shp h2 hh _ (by have := h1 p hp; omega)⟩
theorem Good.rch_no {l : List C} (h : Good l) {p q : Nat} (hp : p < l.length) : rch l p q = false ↔ ¬ Path l p q := by
 rw [← h.rch_iff hp, Bool.not_eq_true]
def bnd (l : List C) (p q : Nat) : List C := l.set p { sAt l p with n := q }
theorem bnd_len (l : List C) (p q : Nat) : (bnd l p q).length = l.length := by simp [bnd]
theorem bnd_other {l : List C} {p q r : Nat} (h : r ≠ p) : sAt (bnd l p q) r = sAt l r := by
 unfold sAt bnd
 rw [List.getElem?_set_ne (by omega)]
theorem bnd_self {l : List C} {p q : Nat} (h : p < l.length) : sAt (bnd l p q) p = { sAt l p with n := (q : Int) } := by
 conv => lhs; unfold sAt bnd
 rw [List.getElem?_set_self h]; rfl
theorem bnd_kind {l : List C} {p q r : Nat} (h : p < l.length) : (sAt (bnd l p q) r).kind = (sAt l r).kind := by
 by_cases e : r = p
 ·subst e; rw [bnd_self h]
 ·rw [bnd_other e]
structure Free1 (l : List C) (p : Nat) : Prop where
 lt : p < l.length
 kind : (sAt l p).kind = 1
 own : (sAt l p).n = p
theorem Free1.on {l : List C} {p : Nat} (h : Free1 l p) : onB l p = false := by rw [on_ref h.kind, h.own]; simp
theorem Free1.leads {l : List C} {p : Nat} (h : Free1 l p) : leads l p = [] := leads_no h.on (by rw [h.kind]; decide)
theorem bnd_on_other {l : List C} {p q r : Nat} (h : r ≠ p) : onB (bnd l p q) r = onB l r := by unfold onB; rw [bnd_other h]
theorem bnd_leads_other {l : List C} {p q r : Nat} (h : r ≠ p) : leads (bnd l p q) r = leads l r := by unfold leads nx; rw [bnd_on_other h, bnd_other h]
theorem bnd_on_self {l : List C} {p q : Nat} (h : Free1 l p) (hq : q ≠ p) : onB (bnd l p q) p = true := by
 rw [on_ref (by rw [bnd_kind h.lt, h.kind]), bnd_self h.lt]
 simp; omega
theorem bnd_leads_self {l : List C} {p q : Nat} (h : Free1 l p) (hq : q ≠ p) : leads (bnd l p q) p = [q] := by
 rw [leads_on (bnd_on_self h hq), nx, bnd_self h.lt]; simp
theorem Good.bind {l : List C} (h : Good l) {p q : Nat} (hf : Free1 l p) (hq : q < l.length) (hn : ¬ Path l q p) : Good (bnd l p q) := by
 have hne : q ≠ p := by rintro rfl; exact hn (.refl _)
 refine ⟨shp_mk fun r hr => ?_, ?_⟩
 ·rw [bnd_len] at hr
  have ho := shp_at h.shp hr
  by_cases e : r = p
  ·subst e
   obtain ⟨h1, h2, h3⟩ := ok_ref ho hf.kind
   rw [bnd_self hr]
   simp only [okSl, hf.kind, if_true, h1, bnd_len]
   simp [empty_toList]
   omega
  ·rw [bnd_other e]
   have : okSl (bnd l p q) r (sAt l r) = okSl l r (sAt l r) := by
    unfold okSl
    simp only [bnd_len, bnd_kind hf.lt]
   rw [this]; exact ho
 ·classical
  obtain ⟨rk, hr⟩ := h.ac
  refine ⟨fun r => if Path l r p then rk r + rk q + 1 else rk r, fun r s hs => ?_⟩
  by_cases e : r = p
  ·subst e
   rw [bnd_leads_self hf hne] at hs
   simp at hs
   subst hs
   simp only [if_neg hn, if_pos (Path.refl (l := l) r)]
   omega
  ·rw [bnd_leads_other e] at hs
   have h1 := hr r s hs
   by_cases hs' : Path l s p
   ·simp only [if_pos hs', if_pos (Path.step hs hs')]; omega
   ·simp only [if_neg hs']
    split <;> omega
end Go.Proofs.YtgipiplklaeplaaDoor
namespace Go.Proofs.YtgipiplklaeplaaDoor
open Go.RowKit
def denN (l : List C) : Nat → Nat → Tm
 | 0, p => .v p
 | k + 1, p => if (sAt l (fol l p)).kind = 4 then .f (sAt l (fol l p)).name ((List.range (sAt l (fol l p)).n.toNat).map fun i => denN l k (fol l p + 1 + i))
  else if (sAt l (fol l p)).kind = 2 then .i (sAt l (fol l p)).n else .v (fol l p)
def den (l : List C) (p : Nat) : Tm := denN l l.length p
theorem Good.top_lt {l : List C} (h : Good l) {q i : Nat} (hq : q < l.length) (h4 : (sAt l q).kind = 4) (hi : i < (sAt l q).n.toNat) : q + 1 + i < l.length := by
 have := ok_top (shp_at h.shp hq) h4
 omega
theorem fol_rank {l : List C} (h : Good l) {rk : Nat → Nat} (hr : ∀ p q, q < l.length → q ∈ leads l p → rk q < rk p) {p : Nat} (hp : p < l.length) : rk (fol l p) ≤ rk p := by
 have : ∀ (k p : Nat), rk (folN l k p) ≤ rk p := by
  intro k
  induction k with
  | zero => exact fun p => Nat.le_refl _
  | succ k ih =>
   intro p
   unfold folN
   cases ho : onB l p
   ·simp
   ·have := hr p (nx l p) (nx_lt h.shp ho) (by rw [leads_on ho]; simp)
    have := ih (nx l p)
    simp; omega
 exact this _ p
theorem denN_eq {l : List C} (h : Good l) {rk : Nat → Nat} (hr : ∀ p q, q < l.length → q ∈ leads l p → rk q < rk p) : ∀ (k k' p : Nat), p < l.length → rk p < k → rk p < k' → denN l k p = denN l k' p
 | 0, _, p, _, hk, _ => by omega
 | _ + 1, 0, p, _, _, hk => by omega
 | k + 1, k' + 1, p, hp, hk, hk' => by
  obtain ⟨_, hq⟩ := h.fol_end hp
  have hf := fol_rank h hr hp
  unfold denN
  by_cases h4 : (sAt l (fol l p)).kind = 4
  ·rw [if_pos h4, if_pos h4]
   congr 1
   refine List.map_congr_left fun i hi => ?_
   have hi' : i < (sAt l (fol l p)).n.toNat := by simpa using hi
   have hlt := h.top_lt hq h4 hi'
   have := hr (fol l p) (fol l p + 1 + i) hlt (by rw [leads_top h4]; exact List.mem_map.2 ⟨i, hi, rfl⟩)
   exact denN_eq h hr k k' _ hlt (by omega) (by omega)
  ·rw [if_neg h4, if_neg h4]
theorem Good.den_eq {l : List C} (h : Good l) {p : Nat} (hp : p < l.length) : den l p =
  if (sAt l (fol l p)).kind = 4 then .f (sAt l (fol l p)).name ((List.range (sAt l (fol l p)).n.toNat).map fun i => den l (fol l p + 1 + i))
  else if (sAt l (fol l p)).kind = 2 then .i (sAt l (fol l p)).n else .v (fol l p) := by
 obtain ⟨rk, h1, h2⟩ := h.ac.bounded
 have hb := h1 p hp
 conv => lhs; unfold den
 rw [denN_eq h h2 l.length (l.length + 1) p hp hb (by omega)]
 conv => lhs; unfold denN
 rfl
theorem Good.den_fol {l : List C} (h : Good l) {p : Nat} (hp : p < l.length) : den l (fol l p) = den l p := by
 rw [h.den_eq hp, h.den_eq (h.fol_end hp).2, h.fol_fol hp]
theorem Good.den_step {l : List C} (h : Good l) {p : Nat} (ho : onB l p = true) : den l p = den l (nx l p) := by
 rw [h.den_eq (on_lt ho), h.den_eq (nx_lt h.shp ho), h.fol_step ho]
theorem Good.den_top {l : List C} (h : Good l) {p : Nat} (h4 : (sAt l p).kind = 4) : den l p = .f (sAt l p).name ((List.range (sAt l p).n.toNat).map fun i => den l (p + 1 + i)) := by
 have hp : p < l.length := by
  by_cases hp : p < l.length
  ·exact hp
  ·rw [sAt_past (by omega)] at h4; simp at h4
 rw [h.den_eq hp, fol_here (on_top h4), if_pos h4]
theorem Good.den_num {l : List C} (h : Good l) {p : Nat} (h2 : (sAt l p).kind = 2) : den l p = .i (sAt l p).n := by
 have hp : p < l.length := by
  by_cases hp : p < l.length
  ·exact hp
  ·rw [sAt_past (by omega)] at h2; simp at h2
 rw [h.den_eq hp, fol_here (on_num h2), if_neg (by rw [h2]; decide), if_pos h2]
theorem Good.den_free {l : List C} (h : Good l) {p : Nat} (hf : Free1 l p) : den l p = .v p := by
 rw [h.den_eq hf.lt, fol_here hf.on, if_neg (by rw [hf.kind]; decide), if_neg (by rw [hf.kind]; decide)]
theorem Good.induct {l : List C} (h : Good l) {M : Nat → Prop} (step : ∀ p, p < l.length → (∀ q ∈ leads l p, M q) → M p) : ∀ p, p < l.length → M p := by
 obtain ⟨rk, h1, h2⟩ := h.ac.bounded
 have : ∀ (k p : Nat), p < l.length → rk p < k → M p := by
  intro k
  induction k with
  | zero => intro p _ hk; omega
  | succ k ih =>
   intro p hp hk
   refine step p hp fun q hq => ?_
   have hlt := leads_lt h.shp hq
   have := h2 p q hlt hq
   exact ih q hlt (by omega)
 exact fun p hp => this (rk p + 1) p hp (by omega)
mutual
def Tm.vle (n : Int) : Tm → Bool
 | .v x => decide (x ≤ n)
 | .i _ => true
 | .f _ us => vles n us
def vles (n : Int) : List Tm → Bool
 | [] => true
 | u :: us => u.vle n && vles n us
end
theorem oks_all : ∀ (us : List Tm), oks us = us.all Tm.ok
 | [] => rfl
 | u :: us => by rw [oks_cons, oks_all us]; rfl
theorem vles_all (n : Int) : ∀ (us : List Tm), vles n us = us.all (Tm.vle n)
 | [] => rfl
 | u :: us => by rw [vles, vles_all n us]; rfl
def getF (l : List C) (p : Nat) : Option (List C) := if (den l p).size ≤ 200 ∧ (den l p).vle 999 = true then some (den l p).flat else none
structure Pre (l L : List C) : Prop where
 get : ∀ p, p < l.length → L[p]? = l[p]?
 le : l.length ≤ L.length
theorem Pre.sAt {l L : List C} (h : Pre l L) {p : Nat} (hp : p < l.length) : sAt L p = sAt l p := by unfold Go.Proofs.YtgipiplklaeplaaDoor.sAt; rw [h.get p hp]
theorem Pre.append (l x : List C) : Pre l (l ++ x) := ⟨fun p hp => List.getElem?_append_left hp, by simp⟩
theorem Pre.on {l L : List C} (h : Pre l L) {p : Nat} (hp : p < l.length) : onB L p = onB l p := by unfold onB; rw [h.sAt hp]
theorem Pre.leads {l L : List C} (h : Pre l L) {p : Nat} (hp : p < l.length) : leads L p = leads l p := by unfold Go.Proofs.YtgipiplklaeplaaDoor.leads nx; rw [h.on hp, h.sAt hp]
end Go.Proofs.YtgipiplklaeplaaDoor
