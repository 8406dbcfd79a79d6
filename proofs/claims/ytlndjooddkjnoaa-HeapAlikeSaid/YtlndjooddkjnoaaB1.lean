/- Texts of this proof that belong together: words of memory, plain laws, short walks. -/
import Derived.Test.YtlndjooddkjnoaaB0
set_option linter.unusedVariables false
set_option linter.unusedSimpArgs false
/- Heaps in plain words: slots, where each of them leads, and that nothing goes round. No program in sight. -/
namespace Go.Proofs.Ytlndjooddkjnoaa
open Go.RowKit

/-- the slot at a place -/
def sAt (l : List C) (p : Nat) : C := (l[p]?).getD ⟨0, ⟨#[]⟩, 0⟩
theorem sAt_get {l : List C} {p : Nat} {c : C} (h : l[p]? = some c) : sAt l p = c := by simp [sAt, h]
theorem sAt_past {l : List C} {p : Nat} (h : l.length ≤ p) : sAt l p = ⟨0, ⟨#[]⟩, 0⟩ := by simp [sAt, List.getElem?_eq_none h]
theorem sAt_some {l : List C} {p : Nat} (h : p < l.length) : l[p]? = some (sAt l p) := by simp [sAt, h]
/-- a place that leads on, as one of a chain: a bound variable, a pointer -/
def onB (l : List C) (p : Nat) : Bool := ((sAt l p).kind == 1 && !((sAt l p).n == (p : Int))) || (sAt l p).kind == 3
def nx (l : List C) (p : Nat) : Nat := (sAt l p).n.toNat
def leads (l : List C) (p : Nat) : List Nat :=
  if onB l p then [nx l p] else if (sAt l p).kind = 4 then (List.range (sAt l p).n.toNat).map (fun i => p + 1 + i) else []
/-- nothing goes round -/
def Ac (l : List C) : Prop := ∃ rk : Nat → Nat, ∀ p, ∀ q ∈ leads l p, rk q < rk p

def okSl (l : List C) (p : Nat) (c : C) : Bool :=
  if c.kind = 1 then c.name.toList == [] && (decide (0 ≤ c.n) && decide (c.n < l.length))
  else if c.kind = 2 then c.name.toList == [] && (decide (-2147483647 ≤ c.n) && decide (c.n ≤ 2147483647))
  else if c.kind = 3 then c.name.toList == [] && ((decide (0 ≤ c.n) && decide (c.n < l.length)) && (sAt l c.n.toNat).kind == 4)
  else if c.kind = 4 then (decide (0 ≤ c.n) && decide (c.n ≤ 6)) && (decide ((p : Int) + c.n < l.length) && (okName c.name && !((List.range c.n.toNat).any fun i => (sAt l (p + 1 + i)).kind == 4)))
  else false
def shpB (l : List C) : Bool := (List.range l.length).all fun p => okSl l p (sAt l p)
theorem toList_nil {s : ByteArray} (h : s.toList = []) : s = ⟨#[]⟩ := by
  rw [ByteArray.toList_eq] at h
  obtain ⟨⟨x⟩⟩ := s
  simp at h
  simp [h]
theorem shp_at {l : List C} (h : shpB l = true) {p : Nat} (hp : p < l.length) : okSl l p (sAt l p) = true := by
  unfold shpB at h
  rw [List.all_eq_true] at h
  exact h p (by simpa using hp)
theorem shp_mk {l : List C} (h : ∀ p, p < l.length → okSl l p (sAt l p) = true) : shpB l = true := by
  unfold shpB
  rw [List.all_eq_true]
  exact fun p hp => h p (by simpa using hp)
theorem ok_ref {l : List C} {p : Nat} {c : C} (h : okSl l p c = true) (k : c.kind = 1) : c.name = ⟨#[]⟩ ∧ 0 ≤ c.n ∧ c.n < l.length := by
  simp only [okSl, if_pos k, Bool.and_eq_true, beq_iff_eq, decide_eq_true_eq] at h
  exact ⟨toList_nil h.1, h.2.1, h.2.2⟩
theorem ok_num {l : List C} {p : Nat} {c : C} (h : okSl l p c = true) (k : c.kind = 2) : c.name = ⟨#[]⟩ ∧ -2147483647 ≤ c.n ∧ c.n ≤ 2147483647 := by
  have k1 : ¬ c.kind = 1 := by omega
  simp only [okSl, if_neg k1, if_pos k, Bool.and_eq_true, beq_iff_eq, decide_eq_true_eq] at h
  exact ⟨toList_nil h.1, h.2.1, h.2.2⟩
theorem ok_ptr {l : List C} {p : Nat} {c : C} (h : okSl l p c = true) (k : c.kind = 3) : c.name = ⟨#[]⟩ ∧ 0 ≤ c.n ∧ c.n < l.length ∧ (sAt l c.n.toNat).kind = 4 := by
  have k1 : ¬ c.kind = 1 := by omega
  have k2 : ¬ c.kind = 2 := by omega
  simp only [okSl, if_neg k1, if_neg k2, if_pos k, Bool.and_eq_true, beq_iff_eq, decide_eq_true_eq] at h
  exact ⟨toList_nil h.1, h.2.1.1, h.2.1.2, h.2.2⟩
theorem ok_top {l : List C} {p : Nat} {c : C} (h : okSl l p c = true) (k : c.kind = 4) : 0 ≤ c.n ∧ c.n ≤ 6 ∧ (p : Int) + c.n < l.length ∧ okName c.name = true ∧ ∀ i, i < c.n.toNat → (sAt l (p + 1 + i)).kind ≠ 4 := by
  have k1 : ¬ c.kind = 1 := by omega
  have k2 : ¬ c.kind = 2 := by omega
  have k3 : ¬ c.kind = 3 := by omega
  simp only [okSl, if_neg k1, if_neg k2, if_neg k3, if_pos k, Bool.and_eq_true, decide_eq_true_eq, Bool.not_eq_true', List.any_eq_false, List.mem_range, beq_iff_eq] at h
  exact ⟨h.1.1, h.1.2, h.2.1, h.2.2.1, h.2.2.2⟩
theorem ok_kind {l : List C} {p : Nat} {c : C} (h : okSl l p c = true) : c.kind = 1 ∨ c.kind = 2 ∨ c.kind = 3 ∨ c.kind = 4 := by
  by_cases k1 : c.kind = 1
  · exact .inl k1
  · by_cases k2 : c.kind = 2
    · exact .inr (.inl k2)
    · by_cases k3 : c.kind = 3
      · exact .inr (.inr (.inl k3))
      · by_cases k4 : c.kind = 4
        · exact .inr (.inr (.inr k4))
        · simp [okSl, k1, k2, k3, k4] at h
theorem on_ref {l : List C} {p : Nat} (h : (sAt l p).kind = 1) : onB l p = !((sAt l p).n == (p : Int)) := by simp [onB, h]
theorem on_num {l : List C} {p : Nat} (h : (sAt l p).kind = 2) : onB l p = false := by simp [onB, h]
theorem on_ptr {l : List C} {p : Nat} (h : (sAt l p).kind = 3) : onB l p = true := by simp [onB, h]
theorem on_top {l : List C} {p : Nat} (h : (sAt l p).kind = 4) : onB l p = false := by simp [onB, h]
theorem on_kind {l : List C} {p : Nat} (h : onB l p = true) : (sAt l p).kind = 1 ∧ (sAt l p).n ≠ p ∨ (sAt l p).kind = 3 := by
  simpa [onB] using h
theorem on_lt {l : List C} {p : Nat} (h : onB l p = true) : p < l.length := by
  by_cases hp : p < l.length
  · exact hp
  · rw [onB, sAt_past (by omega)] at h; simp at h
theorem nx_lt {l : List C} (hs : shpB l = true) {p : Nat} (h : onB l p = true) : nx l p < l.length := by
  have ho := shp_at hs (on_lt h)
  unfold nx
  rcases on_kind h with ⟨k, _⟩ | k
  · have := ok_ref ho k; omega
  · have := ok_ptr ho k; omega
theorem leads_on {l : List C} {p : Nat} (h : onB l p = true) : leads l p = [nx l p] := by simp [leads, h]
theorem leads_top {l : List C} {p : Nat} (h : (sAt l p).kind = 4) : leads l p = (List.range (sAt l p).n.toNat).map (fun i => p + 1 + i) := by simp [leads, on_top h, h]
theorem leads_no {l : List C} {p : Nat} (h : onB l p = false) (h4 : (sAt l p).kind ≠ 4) : leads l p = [] := by simp [leads, h, h4]
theorem leads_lt {l : List C} (hs : shpB l = true) {p q : Nat} (h : q ∈ leads l p) : q < l.length := by
  cases ho : onB l p
  · by_cases h4 : (sAt l p).kind = 4
    · rw [leads_top h4] at h
      obtain ⟨i, hi, rfl⟩ := List.mem_map.1 h
      have hp : p < l.length := by
        by_cases hp : p < l.length
        · exact hp
        · rw [sAt_past (by omega)] at h4; simp at h4
      have := ok_top (shp_at hs hp) h4
      simp at hi
      omega
    · rw [leads_no ho h4] at h; cases h
  · rw [leads_on ho] at h
    simp at h
    subst h
    exact nx_lt hs ho
theorem leads_past {l : List C} {p : Nat} (h : l.length ≤ p) : leads l p = [] := leads_no (by simp [onB, sAt_past h]) (by simp [sAt_past h])

theorem filter_lt {α : Type} (P Q : α → Bool) : ∀ (l : List α), (∀ x ∈ l, P x = true → Q x = true) → ∀ x ∈ l, Q x = true → P x = false → (l.filter P).length < (l.filter Q).length
  | [], _, x, hx, _, _ => by cases hx
  | a :: l, h, x, hx, hq, hp => by
    have hle : ∀ (l : List α), (∀ x ∈ l, P x = true → Q x = true) → (l.filter P).length ≤ (l.filter Q).length := by
      intro l h
      induction l with
      | nil => simp
      | cons b l ih =>
        have ih' := ih (fun x hx => h x (by simp [hx]))
        have hb := h b (by simp)
        cases hpb : P b
        · cases hqb : Q b <;> simp [List.filter_cons, hpb, hqb] <;> omega
        · simp [List.filter_cons, hpb, hb hpb]; omega
    rcases List.mem_cons.1 hx with rfl | hx
    · have := hle l (fun y hy => h y (by simp [hy]))
      simp [List.filter_cons, hp, hq]; omega
    · have ih := filter_lt P Q l (fun y hy => h y (by simp [hy])) x hx hq hp
      have ha := h a (by simp)
      cases hpa : P a
      · cases hqa : Q a <;> simp [List.filter_cons, hpa, hqa] <;> omega
      · simp [List.filter_cons, hpa, ha hpa]; omega
theorem Ac.bounded {l : List C} (h : Ac l) : ∃ rk : Nat → Nat, (∀ p, p < l.length → rk p < l.length) ∧ ∀ p q, q < l.length → q ∈ leads l p → rk q < rk p := by
  obtain ⟨rk, hr⟩ := h
  refine ⟨fun p => ((List.range l.length).filter fun q => decide (rk q < rk p)).length, fun p hp => ?_, fun p q hq hm => ?_⟩
  · have := filter_lt (fun q => decide (rk q < rk p)) (fun _ => true) (List.range l.length) (fun _ _ _ => rfl) p (by simpa using hp) rfl (by simp)
    rw [List.filter_eq_self.2 (fun _ _ => rfl), List.length_range] at this
    exact this
  · have h1 := hr p q hm
    exact filter_lt _ _ _ (fun x _ hx => by simp at hx ⊢; omega) q (by simpa using hq) (by simpa using h1) (by simp)

/-! ### following -/
def folN (l : List C) : Nat → Nat → Nat
  | 0, p => p
  | k + 1, p => if onB l p then folN l k (nx l p) else p
def fol (l : List C) (p : Nat) : Nat := folN l l.length p
structure Good (l : List C) : Prop where
  shp : shpB l = true
  ac : Ac l
theorem folN_stop {l : List C} {rk : Nat → Nat} (hs : shpB l = true) (hr : ∀ p q, q < l.length → q ∈ leads l p → rk q < rk p) : ∀ (k p : Nat), p < l.length → rk p ≤ k → onB l (folN l k p) = false ∧ folN l k p < l.length
  | 0, p, hp, hk => by
    refine ⟨?_, hp⟩
    show onB l p = false
    cases ho : onB l p
    · rfl
    · have := hr p (nx l p) (nx_lt hs ho) (by rw [leads_on ho]; simp)
      omega
  | k + 1, p, hp, hk => by
    unfold folN
    cases ho : onB l p
    · simp [ho, hp]
    · have := hr p (nx l p) (nx_lt hs ho) (by rw [leads_on ho]; simp)
      simpa using folN_stop hs hr k (nx l p) (nx_lt hs ho) (by omega)
theorem folN_eq {l : List C} {rk : Nat → Nat} (hs : shpB l = true) (hr : ∀ p q, q < l.length → q ∈ leads l p → rk q < rk p) : ∀ (k k' p : Nat), rk p ≤ k → rk p ≤ k' → folN l k p = folN l k' p
  | 0, 0, p, _, _ => rfl
  | 0, k' + 1, p, hk, _ => by
    unfold folN
    cases ho : onB l p
    · simp
    · have := hr p (nx l p) (nx_lt hs ho) (by rw [leads_on ho]; simp)
      omega
  | k + 1, 0, p, _, hk => by
    unfold folN
    cases ho : onB l p
    · simp
    · have := hr p (nx l p) (nx_lt hs ho) (by rw [leads_on ho]; simp)
      omega
  | k + 1, k' + 1, p, hk, hk' => by
    unfold folN
    cases ho : onB l p
    · simp
    · have := hr p (nx l p) (nx_lt hs ho) (by rw [leads_on ho]; simp)
      simpa using folN_eq hs hr k k' (nx l p) (by omega) (by omega)
theorem Good.fol_end {l : List C} (h : Good l) {p : Nat} (hp : p < l.length) : onB l (fol l p) = false ∧ fol l p < l.length := by
  obtain ⟨rk, h1, h2⟩ := h.ac.bounded
  exact folN_stop h.shp h2 _ p hp (by have := h1 p hp; omega)
theorem fol_here {l : List C} {p : Nat} (h : onB l p = false) : fol l p = p := by
  unfold fol
  cases l.length <;> simp [folN, h]
theorem Good.fol_step {l : List C} (h : Good l) {p : Nat} (ho : onB l p = true) : fol l p = fol l (nx l p) := by
  obtain ⟨rk, h1, h2⟩ := h.ac.bounded
  have hp := on_lt ho
  have hlt := h2 p (nx l p) (nx_lt h.shp ho) (by rw [leads_on ho]; simp)
  have hb := h1 p hp
  unfold fol
  obtain ⟨n, hn⟩ : ∃ n, l.length = n + 1 := ⟨l.length - 1, by omega⟩
  rw [hn]
  have : folN l (n + 1) p = folN l n (nx l p) := by simp [folN, ho]
  rw [this]
  exact folN_eq h.shp h2 n (n + 1) _ (by omega) (by omega)
theorem Good.fol_fol {l : List C} (h : Good l) {p : Nat} (hp : p < l.length) : fol l (fol l p) = fol l p := fol_here (h.fol_end hp).1
/-- what is where a place leads in the end -/
theorem Good.fol_kind {l : List C} (h : Good l) {p : Nat} (hp : p < l.length) : (sAt l (fol l p)).kind = 1 ∧ (sAt l (fol l p)).n = fol l p ∨ (sAt l (fol l p)).kind = 2 ∨ (sAt l (fol l p)).kind = 4 := by
  obtain ⟨h1, h2⟩ := h.fol_end hp
  rcases ok_kind (shp_at h.shp h2) with k | k | k | k
  · refine .inl ⟨k, ?_⟩
    rw [on_ref k] at h1
    simpa using h1
  · exact .inr (.inl k)
  · rw [on_ptr k] at h1; cases h1
  · exact .inr (.inr k)

/-! ### where a place leads, in any many steps -/
inductive Path (l : List C) : Nat → Nat → Prop
  | refl (p : Nat) : Path l p p
  | step {p q r : Nat} : q ∈ leads l p → Path l q r → Path l p r
theorem Path.trans {l : List C} {p q r : Nat} (h : Path l p q) (h' : Path l q r) : Path l p r := by
  induction h with
  | refl => exact h'
  | step hq _ ih => exact .step hq (ih h')
theorem Path.snoc {l : List C} {p q r : Nat} (h : Path l p q) (h' : r ∈ leads l q) : Path l p r := h.trans (.step h' (.refl _))
theorem Path.lt {l : List C} (hs : shpB l = true) {p q : Nat} (h : Path l p q) (hp : p < l.length) : q < l.length := by
  induction h with
  | refl => exact hp
  | step hq _ ih => exact ih (leads_lt hs hq)
theorem Path.rank {l : List C} {rk : Nat → Nat} (hr : ∀ p, ∀ q ∈ leads l p, rk q < rk p) {p q : Nat} (h : Path l p q) : p = q ∨ rk q < rk p := by
  induction h with
  | refl => exact .inl rfl
  | step hq _ ih =>
    have := hr _ _ hq
    rcases ih with rfl | ih
    · exact .inr this
    · exact .inr (by omega)
theorem path_fol {l : List C} (h : Good l) {p : Nat} (hp : p < l.length) : Path l p (fol l p) := by
  obtain ⟨rk, h1, h2⟩ := h.ac.bounded
  have : ∀ (k p : Nat), Path l p (folN l k p) := by
    intro k
    induction k with
    | zero => exact fun p => .refl p
    | succ k ih =>
      intro p
      unfold folN
      cases ho : onB l p
      · exact .refl p
      · exact .step (by rw [leads_on ho]; simp) (ih _)
  exact this _ p
def rchN (l : List C) : Nat → Nat → Nat → Bool
  | 0, p, q => p == q
  | k + 1, p, q => p == q || (leads l p).any fun r => rchN l k r q
def rch (l : List C) (p q : Nat) : Bool := rchN l l.length p q
theorem rchN_path {l : List C} : ∀ (k p q : Nat), rchN l k p q = true → Path l p q
  | 0, p, q, h => by simp [rchN] at h; subst h; exact .refl _
  | k + 1, p, q, h => by
    simp only [rchN, Bool.or_eq_true, beq_iff_eq, List.any_eq_true] at h
    rcases h with rfl | ⟨r, hr, h⟩
    · exact .refl _
    · exact .step hr (rchN_path k r q h)
theorem rchN_of {l : List C} {rk : Nat → Nat} (hs : shpB l = true) (hr : ∀ p q, q < l.length → q ∈ leads l p → rk q < rk p) {p q : Nat} (h : Path l p q) : ∀ k, rk p ≤ k → rchN l k p q = true := by
  induction h with
  | refl p => intro k _; cases k <;> simp [rchN]
  | step hq h ih =>
    intro k hk
    have := hr _ _ (leads_lt hs hq) hq
    cases k with
    | zero => omega
    | succ k =>
      simp only [rchN, Bool.or_eq_true, List.any_eq_true]
      exact .inr ⟨_, hq, ih k (by omega)⟩
theorem Good.rch_iff {l : List C} (h : Good l) {p q : Nat} (hp : p < l.length) : rch l p q = true ↔ Path l p q := by
  obtain ⟨rk, h1, h2⟩ := h.ac.bounded
  exact ⟨rchN_path _ p q, fun hh => rchN_of h.shp h2 hh _ (by have := h1 p hp; omega)⟩
theorem Good.rch_no {l : List C} (h : Good l) {p q : Nat} (hp : p < l.length) : rch l p q = false ↔ ¬ Path l p q := by
  rw [← h.rch_iff hp, Bool.not_eq_true]

/-! ### binding -/
def bnd (l : List C) (p q : Nat) : List C := l.set p { sAt l p with n := q }
theorem bnd_len (l : List C) (p q : Nat) : (bnd l p q).length = l.length := by simp [bnd]
theorem bnd_other {l : List C} {p q r : Nat} (h : r ≠ p) : sAt (bnd l p q) r = sAt l r := by
  unfold sAt bnd
  rw [List.getElem?_set_ne (by omega)]
theorem bnd_self {l : List C} {p q : Nat} (h : p < l.length) : sAt (bnd l p q) p = { sAt l p with n := (q : Int) } := by
  conv => lhs; unfold sAt bnd
  rw [List.getElem?_set_self h]; rfl
theorem bnd_kind {l : List C} {p q r : Nat} (h : p < l.length) : (sAt (bnd l p q) r).kind = (sAt l r).kind := by
  by_cases e : r = p
  · subst e; rw [bnd_self h]
  · rw [bnd_other e]
/-- a free variable -/
structure Free1 (l : List C) (p : Nat) : Prop where
  lt : p < l.length
  kind : (sAt l p).kind = 1
  own : (sAt l p).n = p
theorem Free1.on {l : List C} {p : Nat} (h : Free1 l p) : onB l p = false := by rw [on_ref h.kind, h.own]; simp
theorem Free1.leads {l : List C} {p : Nat} (h : Free1 l p) : leads l p = [] := leads_no h.on (by rw [h.kind]; decide)
theorem bnd_on_other {l : List C} {p q r : Nat} (h : r ≠ p) : onB (bnd l p q) r = onB l r := by unfold onB; rw [bnd_other h]
theorem bnd_leads_other {l : List C} {p q r : Nat} (h : r ≠ p) : leads (bnd l p q) r = leads l r := by unfold leads nx; rw [bnd_on_other h, bnd_other h]
theorem bnd_on_self {l : List C} {p q : Nat} (h : Free1 l p) (hq : q ≠ p) : onB (bnd l p q) p = true := by
  rw [on_ref (by rw [bnd_kind h.lt, h.kind]), bnd_self h.lt]
  simp; omega
theorem bnd_leads_self {l : List C} {p q : Nat} (h : Free1 l p) (hq : q ≠ p) : leads (bnd l p q) p = [q] := by
  rw [leads_on (bnd_on_self h hq), nx, bnd_self h.lt]; simp
theorem Good.bind {l : List C} (h : Good l) {p q : Nat} (hf : Free1 l p) (hq : q < l.length) (hn : ¬ Path l q p) : Good (bnd l p q) := by
  have hne : q ≠ p := by rintro rfl; exact hn (.refl _)
  refine ⟨shp_mk fun r hr => ?_, ?_⟩
  · rw [bnd_len] at hr
    have ho := shp_at h.shp hr
    by_cases e : r = p
    · subst e
      obtain ⟨h1, h2, h3⟩ := ok_ref ho hf.kind
      rw [bnd_self hr]
      simp only [okSl, hf.kind, if_true, h1, bnd_len]
      simp [empty_toList]
      omega
    · rw [bnd_other e]
      have : okSl (bnd l p q) r (sAt l r) = okSl l r (sAt l r) := by
        unfold okSl
        simp only [bnd_len, bnd_kind hf.lt]
      rw [this]; exact ho
  · classical
    obtain ⟨rk, hr⟩ := h.ac
    refine ⟨fun r => if Path l r p then rk r + rk q + 1 else rk r, fun r s hs => ?_⟩
    by_cases e : r = p
    · subst e
      rw [bnd_leads_self hf hne] at hs
      simp at hs
      subst hs
      simp only [if_neg hn, if_pos (Path.refl (l := l) r)]
      omega
    · rw [bnd_leads_other e] at hs
      have h1 := hr r s hs
      by_cases hs' : Path l s p
      · simp only [if_pos hs', if_pos (Path.step hs hs')]; omega
      · simp only [if_neg hs']
        split <;> omega
end Go.Proofs.Ytlndjooddkjnoaa

/- The term at a place of a heap, in plain words. No program in sight. -/
namespace Go.Proofs.Ytlndjooddkjnoaa
open Go.RowKit

/-- the term at a place; free variables are places -/
def denN (l : List C) : Nat → Nat → Tm
  | 0, p => .v p
  | k + 1, p => if (sAt l (fol l p)).kind = 4 then .f (sAt l (fol l p)).name ((List.range (sAt l (fol l p)).n.toNat).map fun i => denN l k (fol l p + 1 + i))
    else if (sAt l (fol l p)).kind = 2 then .i (sAt l (fol l p)).n else .v (fol l p)
def den (l : List C) (p : Nat) : Tm := denN l l.length p
theorem Good.top_lt {l : List C} (h : Good l) {q i : Nat} (hq : q < l.length) (h4 : (sAt l q).kind = 4) (hi : i < (sAt l q).n.toNat) : q + 1 + i < l.length := by
  have := ok_top (shp_at h.shp hq) h4
  omega
theorem fol_rank {l : List C} (h : Good l) {rk : Nat → Nat} (hr : ∀ p q, q < l.length → q ∈ leads l p → rk q < rk p) {p : Nat} (hp : p < l.length) : rk (fol l p) ≤ rk p := by
  have : ∀ (k p : Nat), rk (folN l k p) ≤ rk p := by
    intro k
    induction k with
    | zero => exact fun p => Nat.le_refl _
    | succ k ih =>
      intro p
      unfold folN
      cases ho : onB l p
      · simp
      · have := hr p (nx l p) (nx_lt h.shp ho) (by rw [leads_on ho]; simp)
        have := ih (nx l p)
        simp; omega
  exact this _ p
theorem denN_eq {l : List C} (h : Good l) {rk : Nat → Nat} (hr : ∀ p q, q < l.length → q ∈ leads l p → rk q < rk p) : ∀ (k k' p : Nat), p < l.length → rk p < k → rk p < k' → denN l k p = denN l k' p
  | 0, _, p, _, hk, _ => by omega
  | _ + 1, 0, p, _, _, hk => by omega
  | k + 1, k' + 1, p, hp, hk, hk' => by
    obtain ⟨_, hq⟩ := h.fol_end hp
    have hf := fol_rank h hr hp
    unfold denN
    by_cases h4 : (sAt l (fol l p)).kind = 4
    · rw [if_pos h4, if_pos h4]
      congr 1
      refine List.map_congr_left fun i hi => ?_
      have hi' : i < (sAt l (fol l p)).n.toNat := by simpa using hi
      have hlt := h.top_lt hq h4 hi'
      have := hr (fol l p) (fol l p + 1 + i) hlt (by rw [leads_top h4]; exact List.mem_map.2 ⟨i, hi, rfl⟩)
      exact denN_eq h hr k k' _ hlt (by omega) (by omega)
    · rw [if_neg h4, if_neg h4]
theorem Good.den_eq {l : List C} (h : Good l) {p : Nat} (hp : p < l.length) : den l p =
    if (sAt l (fol l p)).kind = 4 then .f (sAt l (fol l p)).name ((List.range (sAt l (fol l p)).n.toNat).map fun i => den l (fol l p + 1 + i))
    else if (sAt l (fol l p)).kind = 2 then .i (sAt l (fol l p)).n else .v (fol l p) := by
  obtain ⟨rk, h1, h2⟩ := h.ac.bounded
  have hb := h1 p hp
  conv => lhs; unfold den
  rw [denN_eq h h2 l.length (l.length + 1) p hp hb (by omega)]
  conv => lhs; unfold denN
  rfl
theorem Good.den_fol {l : List C} (h : Good l) {p : Nat} (hp : p < l.length) : den l (fol l p) = den l p := by
  rw [h.den_eq hp, h.den_eq (h.fol_end hp).2, h.fol_fol hp]
theorem Good.den_step {l : List C} (h : Good l) {p : Nat} (ho : onB l p = true) : den l p = den l (nx l p) := by
  rw [h.den_eq (on_lt ho), h.den_eq (nx_lt h.shp ho), h.fol_step ho]
theorem Good.den_top {l : List C} (h : Good l) {p : Nat} (h4 : (sAt l p).kind = 4) : den l p = .f (sAt l p).name ((List.range (sAt l p).n.toNat).map fun i => den l (p + 1 + i)) := by
  have hp : p < l.length := by
    by_cases hp : p < l.length
    · exact hp
    · rw [sAt_past (by omega)] at h4; simp at h4
  rw [h.den_eq hp, fol_here (on_top h4), if_pos h4]
theorem Good.den_num {l : List C} (h : Good l) {p : Nat} (h2 : (sAt l p).kind = 2) : den l p = .i (sAt l p).n := by
  have hp : p < l.length := by
    by_cases hp : p < l.length
    · exact hp
    · rw [sAt_past (by omega)] at h2; simp at h2
  rw [h.den_eq hp, fol_here (on_num h2), if_neg (by rw [h2]; decide), if_pos h2]
theorem Good.den_free {l : List C} (h : Good l) {p : Nat} (hf : Free1 l p) : den l p = .v p := by
  rw [h.den_eq hf.lt, fol_here hf.on, if_neg (by rw [hf.kind]; decide), if_neg (by rw [hf.kind]; decide)]
/-- .. by rank -/
theorem Good.induct {l : List C} (h : Good l) {M : Nat → Prop} (step : ∀ p, p < l.length → (∀ q ∈ leads l p, M q) → M p) : ∀ p, p < l.length → M p := by
  obtain ⟨rk, h1, h2⟩ := h.ac.bounded
  have : ∀ (k p : Nat), p < l.length → rk p < k → M p := by
    intro k
    induction k with
    | zero => intro p _ hk; omega
    | succ k ih =>
      intro p hp hk
      refine step p hp fun q hq => ?_
      have hlt := leads_lt h.shp hq
      have := h2 p q hlt hq
      exact ih q hlt (by omega)
  exact fun p hp => this (rk p + 1) p hp (by omega)
mutual
/-- the greatest variable is at most n -/
def Tm.vle (n : Int) : Tm → Bool
  | .v x => decide (x ≤ n)
  | .i _ => true
  | .f _ us => vles n us
def vles (n : Int) : List Tm → Bool
  | [] => true
  | u :: us => u.vle n && vles n us
end
theorem oks_all : ∀ (us : List Tm), oks us = us.all Tm.ok
  | [] => rfl
  | u :: us => by rw [oks_cons, oks_all us]; rfl
theorem vles_all (n : Int) : ∀ (us : List Tm), vles n us = us.all (Tm.vle n)
  | [] => rfl
  | u :: us => by rw [vles, vles_all n us]; rfl
theorem all_congr {α : Type} {P Q : α → Bool} : ∀ {l : List α}, (∀ x ∈ l, P x = Q x) → l.all P = l.all Q
  | [], _ => rfl
  | a :: l, h => by simp only [List.all_cons]; rw [h a (by simp), all_congr (fun x hx => h x (by simp [hx]))]
/-- a heap's terms are right but for great variables -/
theorem Good.den_ok {l : List C} (h : Good l) : ∀ p, p < l.length → (den l p).ok = (den l p).vle 999 := by
  refine h.induct fun p hp ih => ?_
  cases ho : onB l p
  · rcases ok_kind (shp_at h.shp hp) with k | k | k | k
    · have hf : Free1 l p := ⟨hp, k, by rw [on_ref k] at ho; simpa using ho⟩
      rw [h.den_free hf]
      simp [Tm.ok, Tm.vle]
    · have := ok_num (shp_at h.shp hp) k
      rw [h.den_num k]
      simp [Tm.ok, Tm.vle]
      omega
    · rw [on_ptr k] at ho; cases ho
    · obtain ⟨t1, t2, t3, t4, t5⟩ := ok_top (shp_at h.shp hp) k
      rw [h.den_top k]
      simp only [Tm.ok, Tm.vle, t4, Bool.true_and, List.length_map, List.length_range]
      rw [show decide ((sAt l p).n.toNat ≤ 6) = true by simp; omega, Bool.true_and, oks_all, vles_all]
      refine all_congr fun x hx => ?_
      obtain ⟨i, hi, rfl⟩ := List.mem_map.1 hx
      exact ih _ (by rw [leads_top k]; exact List.mem_map.2 ⟨i, hi, rfl⟩)
  · rw [h.den_step ho]
    exact ih _ (by rw [leads_on ho]; simp)
/-- what is got: a term, if it is no longer than may be, of variables that may be -/
def getF (l : List C) (p : Nat) : Option (List C) := if (den l p).size ≤ 200 ∧ (den l p).vle 999 = true then some (den l p).flat else none
theorem getF_right {l : List C} (h : Good l) {p : Nat} (hp : p < l.length) {t : List C} (ht : getF l p = some t) : rightB t = true := by
  unfold getF at ht
  split at ht
  · rename_i hc
    injection ht with ht
    subst ht
    exact right_flat (by rw [h.den_ok p hp]; exact hc.2) hc.1
  · cases ht
/-- slots behind change nothing -/
structure Pre (l L : List C) : Prop where
  get : ∀ p, p < l.length → L[p]? = l[p]?
  le : l.length ≤ L.length
theorem Pre.sAt {l L : List C} (h : Pre l L) {p : Nat} (hp : p < l.length) : sAt L p = sAt l p := by unfold Go.Proofs.Ytlndjooddkjnoaa.sAt; rw [h.get p hp]
theorem Pre.append (l x : List C) : Pre l (l ++ x) := ⟨fun p hp => List.getElem?_append_left hp, by simp⟩
theorem Pre.on {l L : List C} (h : Pre l L) {p : Nat} (hp : p < l.length) : onB L p = onB l p := by unfold onB; rw [h.sAt hp]
theorem Pre.leads {l L : List C} (h : Pre l L) {p : Nat} (hp : p < l.length) : leads L p = leads l p := by unfold Go.Proofs.Ytlndjooddkjnoaa.leads nx; rw [h.on hp, h.sAt hp]
theorem Pre.fol {l L : List C} (h : Pre l L) (hl : Good l) (hL : Good L) : ∀ p, p < l.length → fol L p = fol l p := by
  refine hl.induct fun p hp ih => ?_
  have he := h.on hp
  cases ho : onB l p
  · rw [fol_here ho, fol_here (by rw [he]; exact ho)]
  · rw [hl.fol_step ho, hL.fol_step (by rw [he]; exact ho)]
    have : nx L p = nx l p := by unfold nx; rw [h.sAt hp]
    rw [this]
    exact ih _ (by rw [leads_on ho]; simp)
theorem Pre.den {l L : List C} (h : Pre l L) (hl : Good l) (hL : Good L) : ∀ p, p < l.length → den L p = den l p := by
  refine hl.induct fun p hp ih => ?_
  have he := h.on hp
  have hsx := h.sAt hp
  cases ho : onB l p
  · rcases ok_kind (shp_at hl.shp hp) with k | k | k | k
    · have hf : Free1 l p := ⟨hp, k, by rw [on_ref k] at ho; simpa using ho⟩
      rw [hl.den_free hf, hL.den_free ⟨by have := h.le; omega, by rw [hsx]; exact k, by rw [hsx]; exact hf.own⟩]
    · rw [hl.den_num k, hL.den_num (by rw [hsx]; exact k), hsx]
    · rw [on_ptr k] at ho; cases ho
    · rw [hl.den_top k, hL.den_top (by rw [hsx]; exact k), hsx]
      congr 1
      refine List.map_congr_left fun i hi => ?_
      exact ih _ (by rw [leads_top k]; exact List.mem_map.2 ⟨i, hi, rfl⟩)
  · rw [hl.den_step ho, hL.den_step (by rw [he]; exact ho)]
    have : nx L p = nx l p := by unfold nx; rw [hsx]
    rw [this]
    exact ih _ (by rw [leads_on ho]; simp)
end Go.Proofs.Ytlndjooddkjnoaa

/- Unifying two places of a heap, in plain words, step by step; that it ends, and keeps heaps right. No program in sight. -/
namespace Go.Proofs.Ytlndjooddkjnoaa
open Go.RowKit

/-- slots, which variables were bound, which pairs of places are asked for, which were asked -/
structure US where
  l : List C
  tr : List Int
  row : List (Nat × Nat)
  seen : List (Nat × Nat)
def US.bound (s : US) (row : List (Nat × Nat)) (p q : Nat) : US := ⟨bnd s.l p q, s.tr ++ [(p : Int)], row, s.seen⟩
def argPairs (x y : Nat) (c : C) : List (Nat × Nat) := if c.kind = 4 then (List.range c.n.toNat).map (fun i => (x + 1 + i, y + 1 + i)) else []
/-- two places that are followed -/
def uOne (s : US) (row : List (Nat × Nat)) (x y : Nat) : Option US :=
  if x = y ∨ (x, y) ∈ s.seen then some { s with row := row }
  else if (sAt s.l x).kind = 1 ∧ (sAt s.l y).kind = 1 then some (s.bound row (max x y) (min x y))
  else if (sAt s.l x).kind = 1 then if rch s.l y x then none else some (s.bound row x y)
  else if (sAt s.l y).kind = 1 then if rch s.l x y then none else some (s.bound row y x)
  else if (sAt s.l x).beq (sAt s.l y) then some { s with row := argPairs x y (sAt s.l x) ++ row, seen := (x, y) :: s.seen }
  else none
def uRun : Nat → US → Option US
  | 0, _ => none
  | k + 1, s => match s.row with
    | [] => some s
    | (a, b) :: row => match uOne s row (fol s.l a) (fol s.l b) with
      | none => none
      | some s' => uRun k s'
def fuelU (n : Nat) : Nat := 7 * (n * n) + 2
def uniF (l : List C) (tr : List Int) (a b : Nat) : Option (List C × List Int) := (uRun (fuelU l.length) ⟨l, tr, [(a, b)], []⟩).map fun s => (s.l, s.tr)

/-- which bound variables a trail names -/
structure TrOk (l : List C) (tr : List Int) : Prop where
  at_ : ∀ t ∈ tr, ∃ p : Nat, t = (p : Int) ∧ p < l.length ∧ (sAt l p).kind = 1 ∧ (sAt l p).n ≠ (p : Int)
  nd : tr.Nodup
structure UOk (s : US) : Prop where
  good : Good s.l
  tr : TrOk s.l s.tr
  row : ∀ p ∈ s.row, p.1 < s.l.length ∧ p.2 < s.l.length
  seen : ∀ p ∈ s.seen, p.1 < s.l.length ∧ p.2 < s.l.length
  nd : s.seen.Nodup
def US.mu (s : US) : Nat := 7 * (s.l.length * s.l.length - s.seen.length) + s.row.length

theorem nodup_le : ∀ (N : Nat) (l : List Nat), l.Nodup → (∀ x ∈ l, x < N) → l.length ≤ N
  | 0, l, _, h => by
    cases l with
    | nil => simp
    | cons a l => have := h a (by simp); omega
  | N + 1, l, hn, h => by
    have h1 : (l.filter (fun x => x != N)).length ≤ N := nodup_le N _ (hn.filter _) (fun x hx => by
      rw [List.mem_filter] at hx
      have := h x hx.1
      have h2 := hx.2
      simp at h2
      omega)
    have h2 : l.length ≤ (l.filter (fun x => x != N)).length + 1 := by
      clear h1 h
      induction l with
      | nil => simp
      | cons a l ih =>
        rw [List.nodup_cons] at hn
        have ih := ih hn.2
        by_cases e : a = N
        · subst e
          have : l.filter (fun x => x != a) = l := by
            rw [List.filter_eq_self]
            intro x hx
            have : x ≠ a := by rintro rfl; exact hn.1 hx
            simpa using this
          simp [this]
        · have : (a != N) = true := by simpa using e
          simp [List.filter_cons, this]; omega
    omega
theorem pairs_le {N : Nat} {l : List (Nat × Nat)} (hn : l.Nodup) (h : ∀ p ∈ l, p.1 < N ∧ p.2 < N) : l.length ≤ N * N := by
  have h1 : (l.map fun p => p.1 * N + p.2).length ≤ N * N := by
    refine nodup_le _ _ ?_ ?_
    · have inj : ∀ a ∈ l, ∀ b ∈ l, a.1 * N + a.2 = b.1 * N + b.2 → a = b := by
        intro a ha b hb he
        have h1 := (h a ha).2
        have h2 := (h b hb).2
        have e2 : a.2 = b.2 := by
          have := congrArg (· % N) he
          simpa [Nat.add_mod, Nat.mul_mod_left, Nat.mod_eq_of_lt h1, Nat.mod_eq_of_lt h2, Nat.mul_mod] using this
        have e1 : a.1 * N = b.1 * N := by omega
        have : a.1 = b.1 := Nat.eq_of_mul_eq_mul_right (by omega) e1
        exact Prod.ext this e2
      clear h
      induction l with
      | nil => simp
      | cons a l ih =>
        rw [List.nodup_cons] at hn
        rw [List.map_cons, List.nodup_cons]
        refine ⟨fun hm => ?_, ih hn.2 (fun x hx y hy => inj x (by simp [hx]) y (by simp [hy]))⟩
        obtain ⟨b, hb, he⟩ := List.mem_map.1 hm
        have := inj b (by simp [hb]) a (by simp) he
        subst this
        exact hn.1 hb
    · intro x hx
      obtain ⟨p, hp, rfl⟩ := List.mem_map.1 hx
      obtain ⟨h1, h2⟩ := h p hp
      have : p.1 * N + N ≤ N * N := by rw [← Nat.succ_mul]; exact Nat.mul_le_mul_right _ h1
      omega
  simpa using h1

theorem argPairs_len (x y : Nat) {l : List C} {p : Nat} {c : C} (h : okSl l p c = true) : (argPairs x y c).length ≤ 6 := by
  unfold argPairs
  split
  · rename_i k
    have := ok_top h k
    simp; omega
  · simp
theorem beq_true {a b : C} (h : a.beq b = true) : a = b := (beq_iff a b).1 h
theorem trOk_bnd {l : List C} {tr : List Int} (h : TrOk l tr) {p q : Nat} (hf : Free1 l p) (hne : q ≠ p) : TrOk (bnd l p q) (tr ++ [(p : Int)]) := by
  refine ⟨fun t ht => ?_, ?_⟩
  · rcases List.mem_append.1 ht with ht | ht
    · obtain ⟨r, rfl, h1, h2, h3⟩ := h.at_ t ht
      have e : r ≠ p := by rintro rfl; exact h3 hf.own
      exact ⟨r, rfl, by rw [bnd_len]; exact h1, by rw [bnd_other e]; exact h2, by rw [bnd_other e]; exact h3⟩
    · simp at ht
      subst ht
      exact ⟨p, rfl, by rw [bnd_len]; exact hf.lt, by rw [bnd_kind hf.lt]; exact hf.kind, by rw [bnd_self hf.lt]; simp; omega⟩
  · rw [List.nodup_append]
    refine ⟨h.nd, by simp, fun a ha b hb => ?_⟩
    simp at hb
    subst hb
    rintro rfl
    obtain ⟨r, hr, h1, h2, h3⟩ := h.at_ _ ha
    have : p = r := by omega
    subst this
    exact h3 hf.own
theorem UOk.bound {s : US} (h : UOk s) {row : List (Nat × Nat)} (hr : ∀ p ∈ row, p.1 < s.l.length ∧ p.2 < s.l.length) {p q : Nat} (hf : Free1 s.l p) (hq : q < s.l.length) (hn : ¬ Path s.l q p) : UOk (s.bound row p q) := by
  have hne : q ≠ p := by rintro rfl; exact hn (.refl _)
  exact ⟨h.good.bind hf hq hn, trOk_bnd h.tr hf hne, fun r hr' => by simp only [US.bound, bnd_len]; exact hr r hr', fun r hr' => by simp only [US.bound, bnd_len]; exact h.seen r hr', h.nd⟩
theorem free_path {l : List C} {p q : Nat} (hf : Free1 l q) (h : Path l q p) : p = q := by
  cases h with
  | refl => rfl
  | step hq _ => rw [hf.leads] at hq; cases hq
/-- a step keeps all that must be, and there is less to do -/
theorem uOne_ok {s : US} (h : UOk s) {row : List (Nat × Nat)} {a b : Nat} (hrow : s.row = (a, b) :: row) {s' : US} (hs : uOne s row (fol s.l a) (fol s.l b) = some s') : UOk s' ∧ s'.mu < s.mu ∧ s'.l.length = s.l.length := by
  obtain ⟨ha, hb⟩ := h.row (a, b) (by rw [hrow]; simp)
  have hr : ∀ p ∈ row, p.1 < s.l.length ∧ p.2 < s.l.length := fun p hp => h.row p (by rw [hrow]; simp [hp])
  have hlen : s.row.length = row.length + 1 := by rw [hrow]; rfl
  obtain ⟨ex, hx⟩ := h.good.fol_end ha
  obtain ⟨ey, hy⟩ := h.good.fol_end hb
  have kx := h.good.fol_kind ha
  have ky := h.good.fol_kind hb
  simp only at ha hb
  generalize fol s.l a = x at *
  generalize fol s.l b = y at *
  unfold uOne at hs
  by_cases c1 : x = y ∨ (x, y) ∈ s.seen
  · rw [if_pos c1] at hs
    injection hs with hs
    subst hs
    exact ⟨⟨h.good, h.tr, hr, h.seen, h.nd⟩, by simp only [US.mu]; omega, rfl⟩
  rw [if_neg c1] at hs
  have free : ∀ z, z < s.l.length → onB s.l z = false → (sAt s.l z).kind = 1 → Free1 s.l z := fun z hz ho k => ⟨hz, k, by rw [on_ref k] at ho; simpa using ho⟩
  have hmu : ∀ p q, (s.bound row p q).mu < s.mu := fun p q => by simp only [US.mu, US.bound, bnd_len]; omega
  by_cases c2 : (sAt s.l x).kind = 1 ∧ (sAt s.l y).kind = 1
  · rw [if_pos c2] at hs
    injection hs with hs
    subst hs
    refine ⟨?_, hmu _ _, by simp [US.bound, bnd_len]⟩
    have fx := free x hx ex c2.1
    have fy := free y hy ey c2.2
    have hxy : x ≠ y := fun e => c1 (.inl e)
    rcases Nat.le_total x y with e | e
    · rw [Nat.max_eq_right e, Nat.min_eq_left e]
      exact h.bound hr fy hx (fun hp => hxy ((free_path fx hp).symm))
    · rw [Nat.max_eq_left e, Nat.min_eq_right e]
      exact h.bound hr fx hy (fun hp => hxy (free_path fy hp))
  rw [if_neg c2] at hs
  by_cases c3 : (sAt s.l x).kind = 1
  · rw [if_pos c3] at hs
    cases hc : rch s.l y x
    · rw [hc] at hs
      simp at hs
      subst hs
      exact ⟨h.bound hr (free x hx ex c3) hy ((h.good.rch_no hy).1 hc), hmu _ _, by simp [US.bound, bnd_len]⟩
    · rw [hc] at hs; simp at hs
  rw [if_neg c3] at hs
  by_cases c4 : (sAt s.l y).kind = 1
  · rw [if_pos c4] at hs
    cases hc : rch s.l x y
    · rw [hc] at hs
      simp at hs
      subst hs
      exact ⟨h.bound hr (free y hy ey c4) hx ((h.good.rch_no hx).1 hc), hmu _ _, by simp [US.bound, bnd_len]⟩
    · rw [hc] at hs; simp at hs
  rw [if_neg c4] at hs
  by_cases c5 : (sAt s.l x).beq (sAt s.l y) = true
  · rw [if_pos c5] at hs
    injection hs with hs
    subst hs
    have he := beq_true c5
    have ho := shp_at h.good.shp hx
    have hoy := shp_at h.good.shp hy
    have hal := argPairs_len x y ho
    have hnd : ((x, y) :: s.seen).Nodup := List.nodup_cons.2 ⟨fun hm => c1 (.inr hm), h.nd⟩
    have hsn : ∀ p ∈ (x, y) :: s.seen, p.1 < s.l.length ∧ p.2 < s.l.length := by
      intro p hp
      rcases List.mem_cons.1 hp with rfl | hp
      · exact ⟨hx, hy⟩
      · exact h.seen p hp
    refine ⟨⟨h.good, h.tr, ?_, hsn, hnd⟩, ?_, rfl⟩
    · intro p hp
      rcases List.mem_append.1 hp with hp | hp
      · unfold argPairs at hp
        split at hp
        · rename_i k4
          obtain ⟨i, hi, rfl⟩ := List.mem_map.1 hp
          have h1 := ok_top ho k4
          have h2 := ok_top hoy (by rw [← he]; exact k4)
          rw [← he] at h2
          simp at hi
          simp only
          omega
        · cases hp
      · exact hr p hp
    · have := pairs_le hnd hsn
      simp only [List.length_cons] at this
      simp only [US.mu, List.length_append, List.length_cons]
      omega
  · rw [if_neg c5] at hs; cases hs
theorem uRun_zero {s : US} {k : Nat} (h : s.row = []) (hk : 0 < k) : uRun k s = some s := by
  obtain ⟨k, rfl⟩ : ∃ j, k = j + 1 := ⟨k - 1, by omega⟩
  simp [uRun, h]
theorem uRun_step {s : US} {k a b : Nat} {row : List (Nat × Nat)} (h : s.row = (a, b) :: row) : uRun (k + 1) s = match uOne s row (fol s.l a) (fol s.l b) with
    | none => none
    | some s' => uRun k s' := by
  conv => lhs; unfold uRun
  rw [h]
/-- all that comes of a run is right -/
theorem uRun_ok : ∀ (k : Nat) (s s' : US), UOk s → uRun k s = some s' → UOk s' ∧ s'.row = [] ∧ s'.l.length = s.l.length
  | 0, s, s', _, hr => by cases hr
  | k + 1, s, s', h, hr => by
    cases hrow : s.row with
    | nil =>
      rw [uRun_zero hrow (by omega)] at hr
      injection hr with hr
      subst hr
      exact ⟨h, hrow, rfl⟩
    | cons p row =>
      obtain ⟨a, b⟩ := p
      rw [uRun_step hrow] at hr
      cases ho : uOne s row (fol s.l a) (fol s.l b) with
      | none => rw [ho] at hr; cases hr
      | some s1 =>
        rw [ho] at hr
        obtain ⟨h1, _, h2⟩ := uOne_ok h hrow ho
        obtain ⟨h3, h4, h5⟩ := uRun_ok k s1 s' h1 hr
        exact ⟨h3, h4, by omega⟩
theorem start_ok {l : List C} {tr : List Int} (h : Good l) (ht : TrOk l tr) {a b : Nat} (ha : a < l.length) (hb : b < l.length) : UOk ⟨l, tr, [(a, b)], []⟩ :=
  ⟨h, ht, fun p hp => by simp at hp; subst hp; exact ⟨ha, hb⟩, by simp, by simp⟩
theorem start_mu (l : List C) (tr : List Int) (a b : Nat) : (⟨l, tr, [(a, b)], []⟩ : US).mu < fuelU l.length := by
  simp only [US.mu, fuelU, List.length_nil, List.length_cons]; omega

/-! ### the other way round -/
def US.flip (s : US) : US := ⟨s.l, s.tr, s.row.map Prod.swap, s.seen.map Prod.swap⟩
theorem swap_mem {x y : Nat} {l : List (Nat × Nat)} : (y, x) ∈ l.map Prod.swap ↔ (x, y) ∈ l := by
  constructor
  · intro h
    obtain ⟨⟨a, b⟩, hp, he⟩ := List.mem_map.1 h
    simp [Prod.swap] at he
    obtain ⟨rfl, rfl⟩ := he
    exact hp
  · intro h
    exact List.mem_map.2 ⟨(x, y), h, rfl⟩
theorem uOne_flip (s : US) (row : List (Nat × Nat)) (x y : Nat) : uOne s.flip (row.map Prod.swap) y x = (uOne s row x y).map US.flip := by
  unfold uOne
  by_cases c1 : x = y ∨ (x, y) ∈ s.seen
  · have c1' : y = x ∨ (y, x) ∈ s.flip.seen := by
      rcases c1 with rfl | c1
      · exact .inl rfl
      · exact .inr (swap_mem.2 c1)
    rw [if_pos c1, if_pos c1']; rfl
  have c1' : ¬ (y = x ∨ (y, x) ∈ s.flip.seen) := by
    rintro (rfl | h)
    · exact c1 (.inl rfl)
    · exact c1 (.inr (swap_mem.1 h))
  rw [if_neg c1, if_neg c1']
  have hl : s.flip.l = s.l := rfl
  rw [hl]
  by_cases c2 : (sAt s.l x).kind = 1 ∧ (sAt s.l y).kind = 1
  · rw [if_pos c2, if_pos ⟨c2.2, c2.1⟩, Nat.max_comm, Nat.min_comm]; rfl
  rw [if_neg c2, if_neg (fun h => c2 ⟨h.2, h.1⟩)]
  by_cases c3 : (sAt s.l x).kind = 1
  · have c4 : ¬ (sAt s.l y).kind = 1 := fun h => c2 ⟨c3, h⟩
    rw [if_pos c3, if_neg c4, if_pos c3]
    split <;> rfl
  rw [if_neg c3]
  by_cases c4 : (sAt s.l y).kind = 1
  · rw [if_pos c4, if_pos c4]
    split <;> rfl
  rw [if_neg c4, if_neg c4, if_neg c3]
  by_cases c5 : (sAt s.l x).beq (sAt s.l y) = true
  · have he := beq_true c5
    rw [if_pos c5, if_pos (by rw [beq_iff]; exact he.symm)]
    simp only [Option.map, US.flip, Option.some.injEq, US.mk.injEq, true_and, List.map_append, List.map_cons, Prod.swap, and_true]
    congr 1
    unfold argPairs
    rw [← he]
    split
    · rw [List.map_map]; rfl
    · rfl
  · rw [if_neg c5, if_neg (fun h => c5 (by rw [beq_iff] at h ⊢; exact h.symm))]; rfl
theorem uRun_flip : ∀ (k : Nat) (s : US), uRun k s.flip = (uRun k s).map US.flip
  | 0, s => rfl
  | k + 1, s => by
    cases hrow : s.row with
    | nil =>
      rw [uRun_zero hrow (by omega), uRun_zero (by simp [US.flip, hrow]) (by omega)]; rfl
    | cons p row =>
      obtain ⟨a, b⟩ := p
      have hrow' : s.flip.row = (b, a) :: row.map Prod.swap := by simp [US.flip, hrow, Prod.swap]
      rw [uRun_step hrow, uRun_step hrow']
      have hl : s.flip.l = s.l := rfl
      rw [hl, uOne_flip]
      cases uOne s row (fol s.l a) (fol s.l b) with
      | none => rfl
      | some s1 => exact uRun_flip k s1
theorem uniF_comm (l : List C) (tr : List Int) (a b : Nat) : uniF l tr b a = uniF l tr a b := by
  have := uRun_flip (fuelU l.length) ⟨l, tr, [(a, b)], []⟩
  unfold uniF
  rw [show (⟨l, tr, [(b, a)], []⟩ : US) = US.flip ⟨l, tr, [(a, b)], []⟩ from rfl, this]
  cases uRun (fuelU l.length) ⟨l, tr, [(a, b)], []⟩ <;> rfl
end Go.Proofs.Ytlndjooddkjnoaa

/- Searching where a place leads to, in plain words. No program in sight. -/
namespace Go.Proofs.Ytlndjooddkjnoaa
open Go.RowKit

theorem leads_len {l : List C} (hs : shpB l = true) (p : Nat) : (leads l p).length ≤ 6 := by
  cases ho : onB l p
  · by_cases h4 : (sAt l p).kind = 4
    · rw [leads_top h4]
      have hp : p < l.length := by
        by_cases hp : p < l.length
        · exact hp
        · rw [sAt_past (by omega)] at h4; simp at h4
      have := ok_top (shp_at hs hp) h4
      simp; omega
    · rw [leads_no ho h4]; simp
  · rw [leads_on ho]; simp
theorem closed_path {l : List C} {S : List Nat} (hc : ∀ s ∈ S, ∀ q ∈ leads l s, q ∈ S) {p q : Nat} (hp : p ∈ S) (h : Path l p q) : q ∈ S := by
  induction h with
  | refl => exact hp
  | step hq _ ih => exact ih (hc _ hp _ hq)
/-- the search of the code: what was seen, what is to be looked at -/
structure OcI (l : List C) (what from_ : Nat) (S R : List Nat) : Prop where
  sl : ∀ s ∈ S, s < l.length
  nd : S.Nodup
  rl : ∀ r ∈ R, r < l.length ∧ Path l from_ r
  cl : ∀ s ∈ S, s ≠ what ∧ ∀ q ∈ leads l s, q ∈ S ∨ q ∈ R
  fr : from_ ∈ S ∨ from_ ∈ R
def muO (n : Nat) (S R : List Nat) : Nat := 7 * (n - S.length) + R.length
theorem OcI.start {l : List C} {what from_ : Nat} (h : from_ < l.length) : OcI l what from_ [] [from_] :=
  ⟨by simp, by simp, fun r hr => by simp at hr; subst hr; exact ⟨h, .refl _⟩, by simp, by simp⟩
theorem OcI.pop {l : List C} {what from_ a : Nat} {S R : List Nat} (h : OcI l what from_ S (R ++ [a])) (ha : a ∈ S) : OcI l what from_ S R :=
  ⟨h.sl, h.nd, fun r hr => h.rl r (by simp [hr]), fun s hs => ⟨(h.cl s hs).1, fun q hq => by
    rcases (h.cl s hs).2 q hq with h1 | h1
    · exact .inl h1
    · rcases List.mem_append.1 h1 with h1 | h1
      · exact .inr h1
      · simp at h1; subst h1; exact .inl ha⟩, by
    rcases h.fr with h1 | h1
    · exact .inl h1
    · rcases List.mem_append.1 h1 with h1 | h1
      · exact .inr h1
      · simp at h1; subst h1; exact .inl ha⟩
theorem OcI.push {l : List C} (hs : shpB l = true) {what from_ a : Nat} {S R : List Nat} (h : OcI l what from_ S (R ++ [a])) (ha : a ∉ S) (hne : a ≠ what) : OcI l what from_ (a :: S) (R ++ leads l a) := by
  obtain ⟨h1, h2⟩ := h.rl a (by simp)
  refine ⟨fun s hs' => ?_, List.nodup_cons.2 ⟨ha, h.nd⟩, fun r hr => ?_, fun s hs' => ?_, ?_⟩
  · rcases List.mem_cons.1 hs' with rfl | hs'
    · exact h1
    · exact h.sl s hs'
  · rcases List.mem_append.1 hr with hr | hr
    · exact h.rl r (by simp [hr])
    · exact ⟨leads_lt hs hr, h2.snoc hr⟩
  · rcases List.mem_cons.1 hs' with rfl | hs'
    · exact ⟨hne, fun q hq => .inr (by simp [hq])⟩
    · refine ⟨(h.cl s hs').1, fun q hq => ?_⟩
      rcases (h.cl s hs').2 q hq with g | g
      · exact .inl (by simp [g])
      · rcases List.mem_append.1 g with g | g
        · exact .inr (by simp [g])
        · simp at g; subst g; exact .inl (by simp)
  · rcases h.fr with g | g
    · exact .inl (by simp [g])
    · rcases List.mem_append.1 g with g | g
      · exact .inr (by simp [g])
      · simp at g; subst g; exact .inl (by simp)
theorem OcI.len {l : List C} {what from_ : Nat} {S R : List Nat} (h : OcI l what from_ S R) : S.length ≤ l.length := nodup_le _ _ h.nd h.sl
theorem OcI.mu_push {l : List C} (hs : shpB l = true) {what from_ a : Nat} {S R : List Nat} (h : OcI l what from_ S (R ++ [a])) (ha : a ∉ S) : muO l.length (a :: S) (R ++ leads l a) < muO l.length S (R ++ [a]) := by
  have h1 := leads_len hs a
  have h2 : (a :: S).length ≤ l.length := nodup_le _ _ (List.nodup_cons.2 ⟨ha, h.nd⟩) (fun s hs' => by
    rcases List.mem_cons.1 hs' with rfl | hs'
    · exact (h.rl s (by simp)).1
    · exact h.sl s hs')
  simp only [muO, List.length_append, List.length_cons, List.length_nil] at h2 ⊢
  omega
theorem OcI.done {l : List C} {what from_ : Nat} {S : List Nat} (h : OcI l what from_ S []) : ¬ Path l from_ what := by
  intro hp
  have hf : from_ ∈ S := by
    rcases h.fr with g | g
    · exact g
    · cases g
  have := closed_path (fun s hs q hq => by
    rcases (h.cl s hs).2 q hq with g | g
    · exact g
    · cases g) hf hp
  exact (h.cl what this).1 rfl

/-- the document's search: what was seen, what is to be looked at, out of it a, of which k places were taken -/
structure ReI (l : List C) (from_ : Nat) (S R : List Nat) : Prop where
  sl : ∀ s ∈ S, s < l.length
  nd : S.Nodup
  rl : ∀ r ∈ R, r ∈ S
  pa : ∀ s ∈ S, Path l from_ s
  cl : ∀ s ∈ S, s ∈ R ∨ ∀ q ∈ leads l s, q ∈ S
  fr : from_ ∈ S
structure ReJ (l : List C) (from_ a k : Nat) (S R : List Nat) : Prop where
  sl : ∀ s ∈ S, s < l.length
  nd : S.Nodup
  rl : ∀ r ∈ R, r ∈ S
  pa : ∀ s ∈ S, Path l from_ s
  cl : ∀ s ∈ S, s ∈ R ∨ s = a ∨ ∀ q ∈ leads l s, q ∈ S
  fr : from_ ∈ S
  as_ : a ∈ S
  part : ∀ q ∈ (leads l a).take k, q ∈ S
def muR (n : Nat) (S R : List Nat) : Nat := 2 * (n - S.length) + R.length
theorem ReI.start {l : List C} {from_ : Nat} (h : from_ < l.length) : ReI l from_ [from_] [from_] :=
  ⟨fun s hs => by simp at hs; subst hs; exact h, by simp, fun r hr => hr, fun s hs => by simp at hs; subst hs; exact .refl _, fun s hs => .inl hs, by simp⟩
theorem ReI.pop {l : List C} {from_ a : Nat} {S R : List Nat} (h : ReI l from_ S (a :: R)) : ReJ l from_ a 0 S R :=
  ⟨h.sl, h.nd, fun r hr => h.rl r (by simp [hr]), h.pa, fun s hs => by
    rcases h.cl s hs with g | g
    · rcases List.mem_cons.1 g with g | g
      · exact .inr (.inl g)
      · exact .inl g
    · exact .inr (.inr g), h.fr, h.rl a (by simp), by simp⟩
theorem ReJ.had {l : List C} {from_ a k b : Nat} {S R : List Nat} (h : ReJ l from_ a k S R) (hk : (leads l a)[k]? = some b) (hb : b ∈ S) : ReJ l from_ a (k + 1) S R :=
  ⟨h.sl, h.nd, h.rl, h.pa, h.cl, h.fr, h.as_, fun q hq => by
    rw [List.take_add_one, hk] at hq
    rcases List.mem_append.1 hq with hq | hq
    · exact h.part q hq
    · simp at hq; subst hq; exact hb⟩
theorem ReJ.new {l : List C} (hs : shpB l = true) {from_ a k b : Nat} {S R : List Nat} (h : ReJ l from_ a k S R) (hk : (leads l a)[k]? = some b) (hb : b ∉ S) : ReJ l from_ a (k + 1) (b :: S) (R ++ [b]) := by
  have hbm := List.mem_of_getElem? hk
  refine ⟨fun s hs' => ?_, List.nodup_cons.2 ⟨hb, h.nd⟩, fun r hr => ?_, fun s hs' => ?_, fun s hs' => ?_, by simp [h.fr], by simp [h.as_], fun q hq => ?_⟩
  · rcases List.mem_cons.1 hs' with rfl | hs'
    · exact leads_lt hs hbm
    · exact h.sl s hs'
  · rcases List.mem_append.1 hr with hr | hr
    · simp [h.rl r hr]
    · simp at hr; simp [hr]
  · rcases List.mem_cons.1 hs' with rfl | hs'
    · exact (h.pa a h.as_).snoc hbm
    · exact h.pa s hs'
  · rcases List.mem_cons.1 hs' with rfl | hs'
    · exact .inl (by simp)
    · rcases h.cl s hs' with g | g | g
      · exact .inl (by simp [g])
      · exact .inr (.inl g)
      · exact .inr (.inr fun q hq => by simp [g q hq])
  · rw [List.take_add_one, hk] at hq
    rcases List.mem_append.1 hq with hq | hq
    · simp [h.part q hq]
    · simp at hq; simp [hq]
theorem ReJ.out {l : List C} {from_ a k : Nat} {S R : List Nat} (h : ReJ l from_ a k S R) (hk : (leads l a).length ≤ k) : ReI l from_ S R :=
  ⟨h.sl, h.nd, h.rl, h.pa, fun s hs => by
    rcases h.cl s hs with g | g | g
    · exact .inl g
    · subst g
      exact .inr fun q hq => h.part q (by rw [List.take_of_length_le hk]; exact hq)
    · exact .inr g, h.fr⟩
theorem ReJ.mu_new {l : List C} (hs : shpB l = true) {from_ a k b : Nat} {S R : List Nat} (h : ReJ l from_ a k S R) (hk : (leads l a)[k]? = some b) (hb : b ∉ S) : muR l.length (b :: S) (R ++ [b]) < muR l.length S R := by
  have h' := h.new hs hk hb
  have h2 := nodup_le _ _ h'.nd h'.sl
  simp only [muR, List.length_append, List.length_cons, List.length_nil] at h2 ⊢
  omega
theorem ReI.done {l : List C} {from_ : Nat} {S : List Nat} (h : ReI l from_ S []) (q : Nat) : q ∈ S ↔ Path l from_ q :=
  ⟨h.pa q, fun hp => closed_path (fun s hs q hq => by
    rcases h.cl s hs with g | g
    · cases g
    · exact g q hq) h.fr hp⟩
open Classical in
noncomputable def pathB (l : List C) (p q : Nat) : Bool := decide (Path l p q)
theorem pathB_iff (l : List C) (p q : Nat) : pathB l p q = true ↔ Path l p q := by simp [pathB]
theorem ReI.doneB {l : List C} {from_ : Nat} {S : List Nat} (h : ReI l from_ S []) (q : Nat) : decide (q ∈ S) = pathB l from_ q := by
  rw [Bool.eq_iff_iff, pathB_iff, decide_eq_true_eq]
  exact h.done q

/-! ### nothing goes round -/
/-- some place leads to itself -/
def Round (l : List C) : Prop := ∃ p q, q ∈ leads l p ∧ Path l q p
theorem round_ac {l : List C} (hs : shpB l = true) : Ac l ↔ ¬ Round l := by
  constructor
  · rintro ⟨rk, hr⟩ ⟨p, q, hq, hp⟩
    have h1 := hr p q hq
    rcases hp.rank hr with h2 | h2
    · subst h2; omega
    · omega
  · intro h
    classical
    refine ⟨fun p => ((List.range l.length).filter fun q => decide (Path l p q)).length, fun p q hq => ?_⟩
    have hp : p < l.length := by
      by_cases hp : p < l.length
      · exact hp
      · rw [leads_past (by omega)] at hq; cases hq
    refine filter_lt _ _ _ (fun x _ hx => ?_) p (by simpa using hp) (by simpa using Path.refl p) ?_
    · simp at hx ⊢
      exact .step hq hx
    · simp
      exact fun hqp => h ⟨p, q, hq, hqp⟩
/-- the code's walk: 0 not come to, 1 under way, 2 done -/
structure DfI (l : List C) (s : Nat → Nat) : Prop where
  rank : ∃ rk : Nat → Nat, ∀ p, s p = 2 → ∀ q ∈ leads l p, s q = 2 ∧ rk q < rk p
  val : ∀ p, s p ≤ 2
theorem DfI.all {l : List C} {s : Nat → Nat} (h : DfI l s) (ha : ∀ p, p < l.length → s p = 2) : Ac l := by
  obtain ⟨rk, hr⟩ := h.rank
  refine ⟨rk, fun p q hq => ?_⟩
  have hp : p < l.length := by
    by_cases hp : p < l.length
    · exact hp
    · rw [leads_past (by omega)] at hq; cases hq
  exact (hr p (ha p hp) q hq).2
def upd (s : Nat → Nat) (p v : Nat) : Nat → Nat := fun q => if q = p then v else s q
theorem DfI.enter {l : List C} {s : Nat → Nat} (h : DfI l s) {p : Nat} (hp : s p = 0) : DfI l (upd s p 1) := by
  obtain ⟨rk, hr⟩ := h.rank
  refine ⟨⟨rk, fun q hq r hr' => ?_⟩, fun q => ?_⟩
  · have hne : q ≠ p := by rintro rfl; simp [upd] at hq
    have hq' : s q = 2 := by simpa [upd, hne] using hq
    obtain ⟨h1, h2⟩ := hr q hq' r hr'
    have hne2 : r ≠ p := by rintro rfl; omega
    exact ⟨by simpa [upd, hne2] using h1, h2⟩
  · unfold upd; split
    · omega
    · exact h.val q
theorem DfI.leave {l : List C} {s : Nat → Nat} (h : DfI l s) {p : Nat} (hp : s p = 1) (hl : ∀ q ∈ leads l p, s q = 2) : DfI l (upd s p 2) := by
  obtain ⟨rk, hr⟩ := h.rank
  refine ⟨⟨fun q => if q = p then 1 + ((leads l p).map rk).foldr max 0 else rk q, fun q hq r hr' => ?_⟩, fun q => ?_⟩
  · by_cases hq1 : q = p
    · subst hq1
      have h2 := hl r hr'
      have hne2 : r ≠ q := by rintro rfl; omega
      refine ⟨by simpa [upd, hne2] using h2, ?_⟩
      simp only [if_neg hne2, if_true]
      have : ∀ (L : List Nat) (x : Nat), x ∈ L → x ≤ L.foldr max 0 := by
        intro L
        induction L with
        | nil => intro x hx; cases hx
        | cons a L ih =>
          intro x hx
          rw [List.foldr_cons]
          rcases List.mem_cons.1 hx with rfl | hx
          · exact Nat.le_max_left _ _
          · exact Nat.le_trans (ih x hx) (Nat.le_max_right _ _)
      have := this ((leads l q).map rk) (rk r) (List.mem_map.2 ⟨r, hr', rfl⟩)
      omega
    · have hq' : s q = 2 := by simpa [upd, hq1] using hq
      obtain ⟨h1, h2⟩ := hr q hq' r hr'
      have hne2 : r ≠ p := by rintro rfl; omega
      refine ⟨by simpa [upd, hne2] using h1, ?_⟩
      simp only [if_neg hne2, if_neg hq1]
      exact h2
  · unfold upd; split
    · omega
    · exact h.val q
/-- how many are not come to -/
def zeros (n : Nat) (s : Nat → Nat) : Nat := ((List.range n).filter fun p => s p == 0).length
theorem zeros_le (n : Nat) (s : Nat → Nat) : zeros n s ≤ n := by
  unfold zeros
  have := List.length_filter_le (fun p => s p == 0) (List.range n)
  simpa using this
theorem zeros_mono {n : Nat} {s s' : Nat → Nat} (h : ∀ p, s' p = 0 → s p = 0) : zeros n s' ≤ zeros n s := by
  unfold zeros
  have : ∀ L : List Nat, (L.filter fun p => s' p == 0).length ≤ (L.filter fun p => s p == 0).length := by
    intro L
    induction L with
    | nil => simp
    | cons a L ih =>
      have ha := h a
      by_cases e : s' a = 0
      · have : s a = 0 := ha e
        simp [List.filter_cons, e, this]; omega
      · by_cases e2 : s a = 0 <;> simp [List.filter_cons, e, e2] <;> omega
  exact this _
theorem zeros_lt {n : Nat} {s s' : Nat → Nat} (h : ∀ p, s' p = 0 → s p = 0) {p : Nat} (hp : p < n) (h1 : s p = 0) (h2 : s' p ≠ 0) : zeros n s' < zeros n s :=
  filter_lt _ _ _ (fun x _ hx => by simp at hx ⊢; exact h x hx) p (by simpa using hp) (by simpa using h1) (by simpa using h2)
end Go.Proofs.Ytlndjooddkjnoaa

/- Laying terms on a heap, in plain words. No program in sight. -/
namespace Go.Proofs.Ytlndjooddkjnoaa
open Go.RowKit

/-- where variables stand, for one variable more -/
def extA (a : List Int) (v : Nat) : List Int := a ++ List.replicate (v + 1 - a.length) (-1)
def atA (a : List Int) (v : Nat) : Int := (a[v]?).getD (-1)
theorem atA_ext (a : List Int) (v u : Nat) : atA (extA a v) u = atA a u := by
  unfold atA extA
  by_cases h : u < a.length
  · rw [List.getElem?_append_left h]
  · rw [List.getElem?_append_right (by omega), List.getElem?_eq_none (l := a) (by omega), List.getElem?_replicate]
    split <;> rfl
theorem extA_len (a : List Int) (v : Nat) : v < (extA a v).length := by simp [extA]; omega
theorem extA_get (a : List Int) (v : Nat) : (extA a v)[v]? = some (atA a v) := by
  have h := extA_len a v
  have := atA_ext a v v
  unfold atA at this ⊢
  rw [← this, List.getElem?_eq_getElem h]; rfl
theorem extA_has {a : List Int} {v : Nat} (h : v < a.length) : extA a v = a := by simp [extA, show v + 1 - a.length = 0 by omega]
theorem extA_step {a : List Int} {v : Nat} (h : a.length ≤ v) : extA (a ++ [-1]) v = extA a v := by
  have h2 : v + 1 - a.length = (v + 1 - (a ++ [(-1 : Int)]).length) + 1 := by simp; omega
  unfold extA
  rw [h2, List.replicate_succ, List.append_assoc]; rfl
theorem extA_len_le (a : List Int) (v : Nat) : (extA a v).length = max a.length (v + 1) := by simp [extA]; omega
def emp : ByteArray := ⟨#[]⟩
/-- the slot of a part: at place P; a structure's own one stands at q -/
def slotA : Tm → Nat → Nat → List Int → C × List Int
  | .i n, _, _, a => (⟨2, emp, n⟩, a)
  | .f _ _, _, q, a => (⟨3, emp, q⟩, a)
  | .v n, P, _, a => if atA a n.toNat < 0 then (⟨1, emp, P⟩, (extA a n.toNat).set n.toNat P) else (⟨1, emp, atA a n.toNat⟩, extA a n.toNat)
mutual
/-- how many slots a structure takes -/
def Tm.hs : Tm → Nat
  | .f _ us => 1 + us.length + hss us
  | _ => 0
def hss : List Tm → Nat
  | [] => 0
  | u :: us => u.hs + hss us
end
def slotsA : List Tm → Nat → Nat → List Int → List C × List Int
  | [], _, _, a => ([], a)
  | u :: us, P, q, a => ((slotA u P q a).1 :: (slotsA us (P + 1) (q + u.hs) (slotA u P q a).2).1, (slotsA us (P + 1) (q + u.hs) (slotA u P q a).2).2)
mutual
/-- a structure's slots, the first one at P -/
def layA : Tm → Nat → List Int → List C × List Int
  | .f s us, P, a => (⟨4, s, us.length⟩ :: ((slotsA us (P + 1) (P + 1 + us.length) a).1 ++ (laysA us (P + 1 + us.length) (slotsA us (P + 1) (P + 1 + us.length) a).2).1), (laysA us (P + 1 + us.length) (slotsA us (P + 1) (P + 1 + us.length) a).2).2)
  | .i _, _, a => ([], a)
  | .v _, _, a => ([], a)
def laysA : List Tm → Nat → List Int → List C × List Int
  | [], _, a => ([], a)
  | u :: us, P, a => ((layA u P a).1 ++ (laysA us (P + u.hs) (layA u P a).2).1, (laysA us (P + u.hs) (layA u P a).2).2)
end
theorem slotsA_len : ∀ (us : List Tm) (P q : Nat) (a : List Int), (slotsA us P q a).1.length = us.length
  | [], _, _, _ => rfl
  | u :: us, P, q, a => by simp [slotsA, slotsA_len us]
mutual
theorem layA_len : ∀ (T : Tm) (P : Nat) (a : List Int), (layA T P a).1.length = T.hs
  | .f s us, P, a => by simp [layA, Tm.hs, slotsA_len, laysA_len us]; omega
  | .i _, _, _ => rfl
  | .v _, _, _ => rfl
theorem laysA_len : ∀ (us : List Tm) (P : Nat) (a : List Int), (laysA us P a).1.length = hss us
  | [], _, _ => rfl
  | u :: us, P, a => by simp [laysA, hss, layA_len u, laysA_len us]
end
/-- what putting makes: slots, the place, where variables stand -/
def putA (l : List C) (T : Tm) (a : List Int) : List C × Nat × List Int := match T with
  | .f s us => (l ++ (layA (.f s us) l.length a).1, l.length, (layA (.f s us) l.length a).2)
  | .i n => (l ++ [⟨2, emp, n⟩], l.length, a)
  | .v n => if atA a n.toNat < 0 then (l ++ [⟨1, emp, l.length⟩], l.length, (extA a n.toNat).set n.toNat l.length) else (l, (atA a n.toNat).toNat, extA a n.toNat)

/-! ### a heap on which a term was put is right -/
/-- a row says where variables stand: nowhere, at an old slot, or at a free variable -/
def AtOk (L : List C) (n0 : Nat) (a : List Int) : Prop := ∀ v, atA a v = -1 ∨ ∃ p : Nat, atA a v = (p : Int) ∧ p < L.length ∧ (p < n0 ∨ Free1 L p)
/-- these slots stand from P on -/
def Seg (L : List C) (P : Nat) (xs : List C) : Prop := ∀ (i : Nat) (c : C), xs[i]? = some c → L[P + i]? = some c
theorem Seg.cons {L : List C} {P : Nat} {c : C} {xs : List C} (h : Seg L P (c :: xs)) : L[P]? = some c ∧ Seg L (P + 1) xs :=
  ⟨by have := h 0 c rfl; simpa using this, fun i d hd => by have := h (i + 1) d (by simpa using hd); rwa [show P + (i + 1) = P + 1 + i by omega] at this⟩
theorem Seg.app {L : List C} {P : Nat} {xs ys : List C} (h : Seg L P (xs ++ ys)) : Seg L P xs ∧ Seg L (P + xs.length) ys :=
  ⟨fun i c hc => h i c (by rw [List.getElem?_append_left (List.getElem?_eq_some_iff.1 hc).1]; exact hc),
   fun i c hc => by have := h (xs.length + i) c (by rw [List.getElem?_append_right (by omega)]; simpa using hc); rwa [← Nat.add_assoc] at this⟩
theorem Seg.lt {L : List C} {P : Nat} {xs : List C} (h : Seg L P xs) (hn : 0 < xs.length) : P + xs.length ≤ L.length := by
  have := h (xs.length - 1) _ (List.getElem?_eq_getElem (by omega))
  have := (List.getElem?_eq_some_iff.1 this).1
  omega
/-- each new slot is so -/
structure EdgeOk (L : List C) (n0 p : Nat) : Prop where
  ok : okSl L p (sAt L p) = true
  ref : (sAt L p).kind = 1 → ∃ q : Nat, (sAt L p).n = (q : Int) ∧ (q = p ∨ q < n0 ∨ Free1 L q)
  ptr : (sAt L p).kind = 3 → ∃ q : Nat, (sAt L p).n = (q : Int) ∧ p < q ∧ q < L.length
theorem edges_good {l L : List C} (hp : Pre l L) (hg : Good l) (he : ∀ p, l.length ≤ p → p < L.length → EdgeOk L l.length p) : Good L := by
  refine ⟨shp_mk fun p hpl => ?_, ?_⟩
  · rcases Nat.lt_or_ge p l.length with h | h
    · rw [hp.sAt h]
      have ho := shp_at hg.shp h
      have hle := hp.le
      rcases ok_kind ho with k | k | k | k
      · obtain ⟨h1, h2, h3⟩ := ok_ref ho k
        simp only [okSl, k, if_true, h1, empty_toList]
        simp; omega
      · obtain ⟨h1, h2, h3⟩ := ok_num ho k
        simp only [okSl, k, h1, empty_toList]
        simp; omega
      · obtain ⟨h1, h2, h3, h4⟩ := ok_ptr ho k
        simp only [okSl, k, h1, empty_toList]
        rw [hp.sAt (by omega)]
        simp [h4]; omega
      · obtain ⟨h1, h2, h3, h4, h5⟩ := ok_top ho k
        have h6 : ((List.range (sAt l p).n.toNat).any fun i => (sAt L (p + 1 + i)).kind == 4) = false := by
          rw [List.any_eq_false]
          intro i hi
          have hi' : i < (sAt l p).n.toNat := by simpa using hi
          rw [hp.sAt (by omega)]
          simpa using h5 i hi'
        simp only [okSl, k, h6, h4]
        simp; omega
    · exact (he p h hpl).ok
  · obtain ⟨rk, hr⟩ := hg.ac
    classical
    obtain ⟨M, hM⟩ : ∃ M, ∀ p, p < l.length → rk p < M := by
      have : ∀ n, ∃ M, ∀ p, p < n → rk p < M := by
        intro n
        induction n with
        | zero => exact ⟨0, fun p hp => by omega⟩
        | succ n ih =>
          obtain ⟨M, hM⟩ := ih
          refine ⟨max M (rk n + 1), fun p hp => ?_⟩
          by_cases e : p = n
          · subst e; omega
          · have := hM p (by omega); omega
      exact this _
    refine ⟨fun p => if p < l.length then rk p else if (sAt L p).kind = 1 ∧ (sAt L p).n = p then 0 else if (sAt L p).kind = 1 then M + 1 else M + 2 + (L.length - p), fun p q hq => ?_⟩
    rcases Nat.lt_or_ge p l.length with h | h
    · rw [hp.leads h] at hq
      have hql := leads_lt hg.shp hq
      simp only [if_pos h, if_pos hql]
      exact hr p q hq
    · have hpL : p < L.length := by
        by_cases h' : p < L.length
        · exact h'
        · rw [leads_past (by omega)] at hq; cases hq
      have hE := he p h hpL
      have hnl : ¬ p < l.length := by omega
      rcases ok_kind hE.ok with k | k | k | k
      · obtain ⟨t, ht, hc⟩ := hE.ref k
        cases ho : onB L p
        · rw [leads_no ho (by rw [k]; decide)] at hq; cases hq
        · rw [leads_on ho] at hq
          have hqt : q = t := by simp [nx, ht] at hq; exact hq
          subst hqt
          have hne : q ≠ p := by
            rintro rfl
            rw [on_ref k, ht] at ho
            simp at ho
          have hne2 : ¬ ((sAt L p).kind = 1 ∧ (sAt L p).n = p) := by rw [ht]; omega
          simp only [if_neg hnl, if_neg hne2, if_pos k]
          rcases hc with hc | hc | hc
          · exact absurd hc hne
          · simp only [if_pos hc]; have := hM q hc; omega
          · split
            · rename_i h1; have := hM q h1; omega
            · rw [if_pos ⟨hc.kind, hc.own⟩]; omega
      · rw [leads_no (on_num k) (by rw [k]; decide)] at hq; cases hq
      · obtain ⟨t, ht, h1, h2⟩ := hE.ptr k
        rw [leads_on (on_ptr k)] at hq
        have hqt : q = t := by simp [nx, ht] at hq; exact hq
        subst hqt
        have h3 : ¬ q < l.length := by omega
        have hk1 : ¬ (sAt L p).kind = 1 := by omega
        simp only [if_neg hnl, if_neg h3, hk1, false_and, if_false]
        split
        · omega
        · split <;> omega
      · rw [leads_top k] at hq
        obtain ⟨i, hi, rfl⟩ := List.mem_map.1 hq
        have h3 : ¬ p + 1 + i < l.length := by omega
        have hk1 : ¬ (sAt L p).kind = 1 := by omega
        simp only [if_neg hnl, if_neg h3, hk1, false_and, if_false]
        split
        · omega
        · split <;> omega
end Go.Proofs.Ytlndjooddkjnoaa

/- What comes of putting a term on a heap, in plain words: it is right, and the term is there. No program in sight. -/
namespace Go.Proofs.Ytlndjooddkjnoaa
open Go.RowKit

/-- a row that says no less -/
def Ext (b a : List Int) : Prop := ∀ v, 0 ≤ atA a v → atA b v = atA a v
theorem Ext.refl (a : List Int) : Ext a a := fun _ _ => rfl
theorem Ext.trans {a b c : List Int} (h : Ext c b) (h' : Ext b a) : Ext c a := fun v hv => by
  have h1 := h' v hv
  rw [h v (by omega), h1]
theorem ext_ext (a : List Int) (v : Nat) : Ext (extA a v) a := fun u _ => atA_ext a v u
theorem atA_set {a : List Int} {v : Nat} (h : v < a.length) (x : Int) (u : Nat) : atA (a.set v x) u = if u = v then x else atA a u := by
  unfold atA
  rw [List.getElem?_set]
  by_cases e : v = u
  · subst e; simp [h]
  · rw [if_neg e, if_neg (fun h => e h.symm)]
theorem ext_set {a : List Int} {v : Nat} (h : atA a v < 0) (x : Int) : Ext ((extA a v).set v x) a := fun u hu => by
  rw [atA_set (extA_len a v), atA_ext]
  by_cases e : u = v
  · subst e; omega
  · rw [if_neg e]
theorem slotA_v (n : Int) (P q : Nat) (a : List Int) : slotA (.v n) P q a = if atA a n.toNat < 0 then (⟨1, emp, P⟩, (extA a n.toNat).set n.toNat P) else (⟨1, emp, atA a n.toNat⟩, extA a n.toNat) := rfl
theorem slotA_ext (u : Tm) (P q : Nat) (a : List Int) : Ext (slotA u P q a).2 a := by
  cases u with
  | i n => exact Ext.refl a
  | f s us => exact Ext.refl a
  | v n =>
    rw [slotA_v]
    split
    · rename_i h; exact ext_set h _
    · exact ext_ext a _
theorem slotsA_ext : ∀ (us : List Tm) (P q : Nat) (a : List Int), Ext (slotsA us P q a).2 a
  | [], _, _, a => Ext.refl a
  | u :: us, P, q, a => (slotsA_ext us _ _ _).trans (slotA_ext u P q a)
mutual
theorem layA_ext : ∀ (T : Tm) (P : Nat) (a : List Int), Ext (layA T P a).2 a
  | .f s us, P, a => (laysA_ext us _ _).trans (slotsA_ext us _ _ _)
  | .i _, _, a => Ext.refl a
  | .v _, _, a => Ext.refl a
theorem laysA_ext : ∀ (us : List Tm) (P : Nat) (a : List Int), Ext (laysA us P a).2 a
  | [], _, a => Ext.refl a
  | u :: us, P, a => (laysA_ext us _ _).trans (layA_ext u P a)
end
theorem atOk_ext {L : List C} {n0 : Nat} {a : List Int} (h : AtOk L n0 a) (v : Nat) : AtOk L n0 (extA a v) := fun u => by rw [atA_ext]; exact h u
theorem atOk_set {L : List C} {n0 v P : Nat} {a : List Int} (h : AtOk L n0 a) (hf : Free1 L P) : AtOk L n0 ((extA a v).set v P) := fun u => by
  rw [atA_set (extA_len a v), atA_ext]
  split
  · exact .inr ⟨P, rfl, hf.lt, .inr hf⟩
  · exact h u
/-- the structures' own slots stand there -/
def TopsAt (L : List C) : List Tm → Nat → Prop
  | [], _ => True
  | u :: us, q => (u.c0.kind = 3 → (sAt L q).kind = 4) ∧ TopsAt L us (q + u.hs)
theorem lays_tops {L : List C} : ∀ (us : List Tm) (P : Nat) (a : List Int), Seg L P (laysA us P a).1 → TopsAt L us P
  | [], _, _, _ => trivial
  | u :: us, P, a, h => by
    obtain ⟨h1, h2⟩ := Seg.app h
    rw [layA_len] at h2
    refine ⟨fun hk => ?_, lays_tops us _ _ h2⟩
    cases u with
    | f s vs =>
      obtain ⟨g, _⟩ := Seg.cons h1
      rw [sAt_get g]
    | i n => simp [Tm.c0] at hk
    | v n => simp [Tm.c0] at hk
theorem hs_pos {u : Tm} (h : u.c0.kind = 3) : 0 < u.hs := by cases u <;> simp [Tm.c0] at h <;> simp [Tm.hs]; omega
theorem kind4_lt {L : List C} {q : Nat} (h : (sAt L q).kind = 4) : q < L.length := by
  by_cases hq : q < L.length
  · exact hq
  · rw [sAt_past (by omega)] at h; simp at h
theorem slots_ok {L : List C} {n0 : Nat} : ∀ (us : List Tm) (P q : Nat) (a : List Int), Seg L P (slotsA us P q a).1 → TopsAt L us q → oks us = true → AtOk L n0 a → P + us.length ≤ q → n0 ≤ L.length →
    AtOk L n0 (slotsA us P q a).2 ∧ ∀ i, i < us.length → EdgeOk L n0 (P + i) ∧ (sAt L (P + i)).kind ≠ 4
  | [], _, _, _, _, _, _, ha, _, _ => ⟨ha, fun i hi => by simp at hi⟩
  | u :: us, P, q, a, hs, ht, ho, ha, hq, hn0 => by
    rw [oks_cons, Bool.and_eq_true] at ho
    obtain ⟨h1, h2⟩ := Seg.cons hs
    obtain ⟨t1, t2⟩ := ht
    have hPL := (List.getElem?_eq_some_iff.1 h1).1
    have hsx := sAt_get h1
    simp only [List.length_cons] at hq
    have key : EdgeOk L n0 P ∧ (sAt L P).kind ≠ 4 ∧ AtOk L n0 (slotA u P q a).2 := by
      cases u with
      | i n =>
        have hs2 : sAt L P = ⟨2, emp, n⟩ := hsx
        simp [Tm.ok] at ho
        refine ⟨⟨?_, fun k => ?_, fun k => ?_⟩, by rw [hs2]; simp, ha⟩
        · rw [hs2]; simp [okSl, emp, empty_toList, ho.1]
        · rw [hs2] at k; simp at k
        · rw [hs2] at k; simp at k
      | f s vs =>
        have hs2 : sAt L P = ⟨3, emp, q⟩ := hsx
        have h4 := t1 rfl
        have hqL := kind4_lt h4
        refine ⟨⟨?_, fun k => ?_, fun k => ⟨q, by rw [hs2], by omega, hqL⟩⟩, by rw [hs2]; simp, ha⟩
        · rw [hs2]; simp [okSl, emp, empty_toList, h4]; exact hqL
        · rw [hs2] at k; simp at k
      | v n =>
        rw [slotA_v] at hsx ⊢
        split
        · rename_i hneg
          rw [if_pos hneg] at hsx
          have hf : Free1 L P := ⟨hPL, by rw [hsx], by rw [hsx]⟩
          refine ⟨⟨?_, fun k => ⟨P, by rw [hsx], .inl rfl⟩, fun k => ?_⟩, by rw [hsx]; simp, atOk_set ha hf⟩
          · rw [hsx]; simp [okSl, emp, empty_toList]; exact hPL
          · rw [hsx] at k; simp at k
        · rename_i hneg
          rw [if_neg hneg] at hsx
          rcases ha n.toNat with e | ⟨p, e, hp1, hp2⟩
          · omega
          · rw [e] at hsx
            refine ⟨⟨?_, fun k => ⟨p, by rw [hsx], .inr hp2⟩, fun k => ?_⟩, by rw [hsx]; simp, atOk_ext ha _⟩
            · rw [hsx]; simp [okSl, emp, empty_toList]; exact hp1
            · rw [hsx] at k; simp at k
    obtain ⟨g1, g2⟩ := slots_ok us (P + 1) (q + u.hs) (slotA u P q a).2 h2 t2 ho.2 key.2.2 (by omega) hn0
    refine ⟨g1, fun i hi => ?_⟩
    cases i with
    | zero => exact ⟨key.1, key.2.1⟩
    | succ i =>
      have := g2 i (by simpa using hi)
      rwa [show P + 1 + i = P + (i + 1) by omega] at this
mutual
theorem lay_ok {L : List C} {n0 : Nat} : ∀ (T : Tm) (P : Nat) (a : List Int), Seg L P (layA T P a).1 → T.ok = true → AtOk L n0 a → n0 ≤ L.length → AtOk L n0 (layA T P a).2 ∧ ∀ i, i < T.hs → EdgeOk L n0 (P + i)
  | .i _, _, _, _, _, ha, _ => ⟨ha, fun i hi => by simp [Tm.hs] at hi⟩
  | .v _, _, _, _, _, ha, _ => ⟨ha, fun i hi => by simp [Tm.hs] at hi⟩
  | .f s us, P, a, hs, ho, ha, hn0 => by
    simp only [Tm.ok, Bool.and_eq_true, decide_eq_true_eq] at ho
    obtain ⟨ho1, ho2, ho3⟩ := ho
    obtain ⟨h1, h2⟩ := Seg.cons hs
    obtain ⟨h3, h4⟩ := Seg.app h2
    rw [slotsA_len] at h4
    have ht := lays_tops us _ _ h4
    obtain ⟨g1, g2⟩ := slots_ok us (P + 1) (P + 1 + us.length) a h3 ht ho3 ha (by omega) hn0
    obtain ⟨g3, g4⟩ := lays_ok us (P + 1 + us.length) _ h4 ho3 g1 hn0
    refine ⟨g3, fun i hi => ?_⟩
    have hsx := sAt_get h1
    have hPL := (List.getElem?_eq_some_iff.1 h1).1
    simp only [Tm.hs] at hi
    rcases Nat.eq_zero_or_pos i with rfl | hpos
    · refine ⟨?_, fun k => ?_, fun k => ?_⟩
      · simp only [Nat.add_zero]
        rw [hsx]
        have h5 : ((List.range us.length).any fun i => (sAt L (P + 1 + i)).kind == 4) = false := by
          rw [List.any_eq_false]
          intro i hi
          simpa using (g2 i (by simpa using hi)).2
        have h6 : P + us.length < L.length := by
          rcases Nat.eq_zero_or_pos us.length with h0 | h0
          · omega
          · have := Seg.lt h3 (by rw [slotsA_len]; exact h0)
            rw [slotsA_len] at this
            omega
        simp [okSl, h5, ho1]
        omega
      · simp only [Nat.add_zero] at k; rw [hsx] at k; simp at k
      · simp only [Nat.add_zero] at k; rw [hsx] at k; simp at k
    · rcases Nat.lt_or_ge i (1 + us.length) with h5 | h5
      · have := (g2 (i - 1) (by omega)).1
        rwa [show P + 1 + (i - 1) = P + i by omega] at this
      · have := g4 (i - 1 - us.length) (by omega)
        rwa [show P + 1 + us.length + (i - 1 - us.length) = P + i by omega] at this
theorem lays_ok {L : List C} {n0 : Nat} : ∀ (us : List Tm) (P : Nat) (a : List Int), Seg L P (laysA us P a).1 → oks us = true → AtOk L n0 a → n0 ≤ L.length → AtOk L n0 (laysA us P a).2 ∧ ∀ i, i < hss us → EdgeOk L n0 (P + i)
  | [], _, _, _, _, ha, _ => ⟨ha, fun i hi => by simp [hss] at hi⟩
  | u :: us, P, a, hs, ho, ha, hn0 => by
    rw [oks_cons, Bool.and_eq_true] at ho
    obtain ⟨h1, h2⟩ := Seg.app hs
    rw [layA_len] at h2
    obtain ⟨g1, g2⟩ := lay_ok u P a h1 ho.1 ha hn0
    obtain ⟨g3, g4⟩ := lays_ok us (P + u.hs) _ h2 ho.2 g1 hn0
    refine ⟨g3, fun i hi => ?_⟩
    simp only [hss] at hi
    rcases Nat.lt_or_ge i u.hs with h | h
    · exact g2 i h
    · have := g4 (i - u.hs) (by omega)
      rwa [show P + u.hs + (i - u.hs) = P + i by omega] at this
end

/-! ### what is got of what was put -/
mutual
def Tm.sub (S : Int → Tm) : Tm → Tm
  | .v n => S n
  | .i n => .i n
  | .f s us => .f s (subs S us)
def subs (S : Int → Tm) : List Tm → List Tm
  | [] => []
  | u :: us => u.sub S :: subs S us
end
theorem subs_map (S : Int → Tm) : ∀ us : List Tm, subs S us = us.map (Tm.sub S)
  | [] => rfl
  | u :: us => by rw [subs, subs_map S us]; rfl
/-- the term where a variable stands -/
def stand (L : List C) (b : List Int) (n : Int) : Tm := den L (atA b n.toNat).toNat
def TopsDen (L : List C) (S : Int → Tm) : List Tm → Nat → Prop
  | [], _ => True
  | u :: us, q => (u.c0.kind = 3 → den L q = u.sub S) ∧ TopsDen L S us (q + u.hs)
theorem slots_den {L : List C} (hg : Good L) {n0 : Nat} {b : List Int} : ∀ (us : List Tm) (P q : Nat) (a : List Int), Seg L P (slotsA us P q a).1 → TopsDen L (stand L b) us q → TopsAt L us q → AtOk L n0 a → Ext b (slotsA us P q a).2 →
    ∀ i u, us[i]? = some u → den L (P + i) = u.sub (stand L b)
  | [], _, _, _, _, _, _, _, _ => fun i u hi => by simp at hi
  | u :: us, P, q, a, hs, hd, ht, ha, hb => by
    obtain ⟨h1, h2⟩ := Seg.cons hs
    obtain ⟨d1, d2⟩ := hd
    obtain ⟨t1, t2⟩ := ht
    have hPL := (List.getElem?_eq_some_iff.1 h1).1
    have hsx := sAt_get h1
    have hb1 : Ext b (slotA u P q a).2 := hb.trans (slotsA_ext us _ _ _)
    have key : den L P = u.sub (stand L b) ∧ AtOk L n0 (slotA u P q a).2 := by
      cases u with
      | i n =>
        have hs2 : sAt L P = ⟨2, emp, n⟩ := hsx
        exact ⟨by rw [hg.den_num (by rw [hs2]), hs2]; rfl, ha⟩
      | f s vs =>
        have hs2 : sAt L P = ⟨3, emp, q⟩ := hsx
        exact ⟨by rw [hg.den_step (on_ptr (by rw [hs2])), nx, hs2]; simpa using d1 rfl, ha⟩
      | v n =>
        rw [slotA_v] at hsx hb1 ⊢
        split
        · rename_i hneg
          rw [if_pos hneg] at hsx hb1
          have hf : Free1 L P := ⟨hPL, by rw [hsx], by rw [hsx]⟩
          refine ⟨?_, atOk_set ha hf⟩
          have := hb1 n.toNat (by rw [atA_set (extA_len a _)]; simp)
          rw [atA_set (extA_len a _)] at this
          simp at this
          simp only [Tm.sub, stand, this]
          simp
        · rename_i hneg
          rw [if_neg hneg] at hsx hb1
          have hbn := hb1 n.toNat (by rw [atA_ext]; omega)
          rw [atA_ext] at hbn
          refine ⟨?_, atOk_ext ha _⟩
          simp only [Tm.sub, stand, hbn]
          rcases ha n.toNat with e | ⟨p, e, hp1, hp2⟩
          · omega
          · rw [e] at hsx ⊢
            by_cases hpP : p = P
            · subst hpP; simp
            · have hon : onB L P = true := by
                rw [on_ref (by rw [hsx]), hsx]
                simp; omega
              rw [hg.den_step hon, nx, hsx]
    intro i w hi
    cases i with
    | zero => simp at hi; subst hi; exact key.1
    | succ i =>
      have := slots_den hg us (P + 1) (q + u.hs) _ h2 d2 t2 key.2 hb i w (by simpa using hi)
      rwa [show P + 1 + i = P + (i + 1) by omega] at this
mutual
theorem lay_den {L : List C} (hg : Good L) {n0 : Nat} (hn0 : n0 ≤ L.length) {b : List Int} : ∀ (T : Tm) (P : Nat) (a : List Int), Seg L P (layA T P a).1 → T.ok = true → AtOk L n0 a → Ext b (layA T P a).2 → T.c0.kind = 3 → den L P = T.sub (stand L b)
  | .i _, _, _, _, _, _, _, hk => by simp [Tm.c0] at hk
  | .v _, _, _, _, _, _, _, hk => by simp [Tm.c0] at hk
  | .f s us, P, a, hs, ho, ha, hb, _ => by
    simp only [Tm.ok, Bool.and_eq_true, decide_eq_true_eq] at ho
    obtain ⟨ho1, ho2, ho3⟩ := ho
    obtain ⟨h1, h2⟩ := Seg.cons hs
    obtain ⟨h3, h4⟩ := Seg.app h2
    rw [slotsA_len] at h4
    have ht := lays_tops us _ _ h4
    obtain ⟨g1, g2⟩ := slots_ok us (P + 1) (P + 1 + us.length) a h3 ht ho3 ha (by omega) hn0
    have hd := lays_den hg hn0 us (P + 1 + us.length) _ h4 ho3 g1 hb
    have hsl := slots_den hg us (P + 1) (P + 1 + us.length) a h3 hd ht ha (hb.trans (laysA_ext us _ _))
    have hsx := sAt_get h1
    rw [hg.den_top (by rw [hsx]), hsx]
    simp only [Int.toNat_natCast, Tm.sub, subs_map]
    congr 1
    refine List.ext_getElem? fun i => ?_
    rw [List.getElem?_map, List.getElem?_map]
    by_cases hi : i < us.length
    · rw [List.getElem?_range hi, List.getElem?_eq_getElem hi]
      exact congrArg some (hsl i _ (List.getElem?_eq_getElem hi))
    · rw [List.getElem?_eq_none (by simp; omega), List.getElem?_eq_none (by omega)]; rfl
theorem lays_den {L : List C} (hg : Good L) {n0 : Nat} (hn0 : n0 ≤ L.length) {b : List Int} : ∀ (us : List Tm) (P : Nat) (a : List Int), Seg L P (laysA us P a).1 → oks us = true → AtOk L n0 a → Ext b (laysA us P a).2 → TopsDen L (stand L b) us P
  | [], _, _, _, _, _, _ => trivial
  | u :: us, P, a, hs, ho, ha, hb => by
    rw [oks_cons, Bool.and_eq_true] at ho
    obtain ⟨h1, h2⟩ := Seg.app hs
    rw [layA_len] at h2
    obtain ⟨g1, g2⟩ := lay_ok u P a h1 ho.1 ha hn0
    exact ⟨fun hk => lay_den hg hn0 u P a h1 ho.1 ha (hb.trans (laysA_ext us _ _)) hk, lays_den hg hn0 us _ _ h2 ho.2 g1 hb⟩
end

/-- all that is to be known of putting -/
structure PutOk (l : List C) (T : Tm) (a : List Int) (L : List C) (P : Nat) (b : List Int) : Prop where
  pre : Pre l L
  good : Good L
  lt : P < L.length
  at_ : AtOk L L.length b
  ext : Ext b a
  den : den L P = T.sub (stand L b)
  more : ∃ x, L = l ++ x ∧ (∀ c ∈ x, c.wf)
theorem seg_append (l x : List C) : Seg (l ++ x) l.length x := fun i c hc => by rw [List.getElem?_append_right (by omega)]; simpa using hc
theorem atOk_more {L : List C} {n0 : Nat} {a : List Int} (h : AtOk L n0 a) : AtOk L L.length a := fun v => by
  rcases h v with e | ⟨p, e, h1, h2⟩
  · exact .inl e
  · exact .inr ⟨p, e, h1, .inl h1⟩
theorem atOk_pre {l L : List C} {a : List Int} (h : AtOk l l.length a) (hp : Pre l L) : AtOk L l.length a := fun v => by
  rcases h v with e | ⟨p, e, h1, h2⟩
  · exact .inl e
  · exact .inr ⟨p, e, by have := hp.le; omega, .inl h1⟩
theorem okSl_wf {L : List C} (hL : L.length ≤ 1000000) {p : Nat} {c : C} (h : okSl L p c = true) : c.wf := by
  rcases ok_kind h with k | k | k | k
  · obtain ⟨h1, h2, h3⟩ := ok_ref h k
    exact ⟨by unfold i64; omega, by unfold i64; omega, by rw [h1]; decide⟩
  · obtain ⟨h1, h2, h3⟩ := ok_num h k
    exact ⟨by unfold i64; omega, by unfold i64; omega, by rw [h1]; decide⟩
  · obtain ⟨h1, h2, h3, h4⟩ := ok_ptr h k
    exact ⟨by unfold i64; omega, by unfold i64; omega, by rw [h1]; decide⟩
  · obtain ⟨h1, h2, h3, h4, h5⟩ := ok_top h k
    refine ⟨by unfold i64; omega, by unfold i64; omega, ?_⟩
    unfold okName at h4
    simp at h4
    simp [maxLen]; omega
theorem put_ok {l : List C} (hg : Good l) {T : Tm} (ho : T.ok = true) {a : List Int} (ha : AtOk l l.length a) (hlen : (putA l T a).1.length ≤ 1000000) : PutOk l T a (putA l T a).1 (putA l T a).2.1 (putA l T a).2.2 := by
  cases T with
  | f s us =>
    simp only [putA] at hlen ⊢
    have hp := Pre.append l (layA (.f s us) l.length a).1
    have hseg := seg_append l (layA (.f s us) l.length a).1
    have ha' := atOk_pre ha hp
    obtain ⟨h1, h2⟩ := lay_ok (.f s us) l.length a hseg ho ha' hp.le
    have hedge : ∀ p, l.length ≤ p → p < (l ++ (layA (.f s us) l.length a).1).length → EdgeOk (l ++ (layA (.f s us) l.length a).1) l.length p := fun p hp1 hp2 => by
      have := h2 (p - l.length) (by simp [layA_len] at hp2; omega)
      rwa [show l.length + (p - l.length) = p by omega] at this
    have hgood := edges_good hp hg hedge
    have hpos : 0 < (Tm.f s us).hs := by simp [Tm.hs]; omega
    refine ⟨hp, hgood, by simp [layA_len]; exact hpos, atOk_more h1, layA_ext _ _ _, lay_den hgood hp.le (.f s us) l.length a hseg ho ha' (Ext.refl _) rfl, _, rfl, fun c hc => ?_⟩
    obtain ⟨i, hi, rfl⟩ := List.getElem_of_mem hc
    have := hseg i _ (List.getElem?_eq_getElem hi)
    rw [← sAt_get this]
    exact okSl_wf hlen (hedge (l.length + i) (by omega) (by rw [List.length_append]; omega)).ok
  | i n =>
    simp only [putA] at hlen ⊢
    have hp := Pre.append l [⟨2, emp, n⟩]
    have hsx : sAt (l ++ [⟨2, emp, n⟩]) l.length = ⟨2, emp, n⟩ := sAt_get (by simp)
    simp [Tm.ok] at ho
    have hgood := edges_good hp hg (fun p hp1 hp2 => by
      have : p = l.length := by simp at hp2; omega
      subst this
      refine ⟨by rw [hsx]; simp [okSl, emp, empty_toList, ho], fun k => ?_, fun k => ?_⟩
      · rw [hsx] at k; simp at k
      · rw [hsx] at k; simp at k)
    refine ⟨hp, hgood, by simp, atOk_more (atOk_pre ha hp), Ext.refl _, ?_, _, rfl, fun c hc => ?_⟩
    · rw [hgood.den_num (by rw [hsx]), hsx]; rfl
    · simp at hc; subst hc; exact ⟨by unfold i64; simp, by unfold i64; simp; omega, (by decide : emp.size ≤ maxLen)⟩
  | v n =>
    by_cases hneg : atA a n.toNat < 0
    · simp only [putA, if_pos hneg] at hlen ⊢
      have hp := Pre.append l [⟨1, emp, l.length⟩]
      have hsx : sAt (l ++ [⟨1, emp, l.length⟩]) l.length = ⟨1, emp, l.length⟩ := sAt_get (by simp)
      have hf : Free1 (l ++ [⟨1, emp, l.length⟩]) l.length := ⟨by simp, by rw [hsx], by rw [hsx]⟩
      have hgood := edges_good hp hg (fun p hp1 hp2 => by
        have : p = l.length := by simp at hp2; omega
        subst this
        refine ⟨by rw [hsx]; simp [okSl, emp, empty_toList]; omega, fun k => ⟨_, by rw [hsx], .inl rfl⟩, fun k => ?_⟩
        rw [hsx] at k; simp at k)
      refine ⟨hp, hgood, by simp, atOk_more (atOk_set (atOk_pre ha hp) hf), ext_set hneg _, ?_, _, rfl, fun c hc => ?_⟩
      · simp only [Tm.sub, stand]
        rw [atA_set (extA_len a _)]
        simp
      · simp at hc; subst hc
        simp at hlen
        exact ⟨by unfold i64; simp, by unfold i64; simp; omega, (by decide : emp.size ≤ maxLen)⟩
    · simp only [putA, if_neg hneg] at hlen ⊢
      rcases ha n.toNat with e | ⟨p, e, hp1, hp2⟩
      · omega
      · refine ⟨⟨fun _ _ => rfl, Nat.le_refl _⟩, hg, by rw [e]; simpa using hp1, atOk_ext ha _, ext_ext a _, ?_, [], by simp, by simp⟩
        simp only [Tm.sub, stand, atA_ext]
end Go.Proofs.Ytlndjooddkjnoaa

/- Laying a structure as the code does it: first all slots, then each structure, to which its slot is led. No program in sight. -/
namespace Go.Proofs.Ytlndjooddkjnoaa
open Go.RowKit

theorem slotA_row (u : Tm) (P q : Nat) (a : List Int) : (slotA u P q a).2 = (slotA u P 0 a).2 := by
  cases u <;> rfl
def slotsZ : List Tm → Nat → List Int → List C × List Int
  | [], _, a => ([], a)
  | u :: us, P, a => ((slotA u P 0 a).1 :: (slotsZ us (P + 1) (slotA u P 0 a).2).1, (slotsZ us (P + 1) (slotA u P 0 a).2).2)
theorem slotsZ_row : ∀ (us : List Tm) (P q : Nat) (a : List Int), (slotsA us P q a).2 = (slotsZ us P a).2
  | [], _, _, _ => rfl
  | u :: us, P, q, a => by
    simp only [slotsA, slotsZ]
    rw [slotsZ_row us, slotA_row]
theorem slotsZ_len : ∀ (us : List Tm) (P : Nat) (a : List Int), (slotsZ us P a).1.length = us.length
  | [], _, _ => rfl
  | u :: us, P, a => by simp [slotsZ, slotsZ_len us]
def setN (ls : List C) (i q : Nat) : List C := ls.set i { sAt ls i with n := q }
theorem setN_len (ls : List C) (i q : Nat) : (setN ls i q).length = ls.length := by simp [setN]
def fixA : List Tm → List C → Nat → List Int → List C × List Int
  | [], ls, _, a => (ls, a)
  | u :: us, ls, i, a => if u.c0.kind = 3 then fixA us (setN (ls ++ (layA u ls.length a).1) i ls.length) (i + 1) (layA u ls.length a).2 else fixA us ls (i + 1) a
theorem setN_mid (pre : List C) (c : C) (tail : List C) (q : Nat) : setN (pre ++ c :: tail) pre.length q = pre ++ { c with n := (q : Int) } :: tail := by
  unfold setN
  have : sAt (pre ++ c :: tail) pre.length = c := sAt_get (by simp)
  rw [this]
  simp [List.set_append]
theorem lay_other {u : Tm} (h : u.c0.kind ≠ 3) (P : Nat) (a : List Int) : layA u P a = ([], a) ∧ u.hs = 0 := by
  cases u <;> simp [Tm.c0] at h <;> exact ⟨rfl, rfl⟩
theorem fix_lay : ∀ (us : List Tm) (pre tail : List C) (P' q : Nat) (a0 a : List Int), q = pre.length + us.length + tail.length →
    fixA us (pre ++ (slotsZ us P' a0).1 ++ tail) pre.length a = (pre ++ (slotsA us P' q a0).1 ++ tail ++ (laysA us q a).1, (laysA us q a).2)
  | [], pre, tail, P', q, a0, a, _ => by simp [fixA, slotsZ, slotsA, laysA]
  | u :: us, pre, tail, P', q, a0, a, hq => by
    have hz := slotsZ_len us (P' + 1) (slotA u P' 0 a0).2
    have hlen : (pre ++ (slotsZ (u :: us) P' a0).1 ++ tail).length = q := by
      simp only [List.length_append, slotsZ_len]; omega
    simp only [List.length_cons] at hq
    by_cases hk : u.c0.kind = 3
    · unfold fixA
      rw [if_pos hk, hlen]
      have hsl : ∀ z, (slotA u P' z a0).1 = ⟨3, emp, z⟩ ∧ (slotA u P' z a0).2 = a0 := by
        intro z
        cases u with
        | f s vs => exact ⟨rfl, rfl⟩
        | i n => simp [Tm.c0] at hk
        | v n => simp [Tm.c0] at hk
      have e1 : setN (pre ++ (slotsZ (u :: us) P' a0).1 ++ tail ++ (layA u q a).1) pre.length q = (pre ++ [⟨3, emp, (q : Int)⟩]) ++ (slotsZ us (P' + 1) a0).1 ++ (tail ++ (layA u q a).1) := by
        simp only [slotsZ, (hsl 0).1, (hsl 0).2]
        have := setN_mid pre ⟨3, emp, ((0 : Nat) : Int)⟩ ((slotsZ us (P' + 1) a0).1 ++ (tail ++ (layA u q a).1)) q
        simp only [List.append_assoc, List.cons_append] at this ⊢
        rw [this]; simp
      rw [e1]
      have hpl : pre.length + 1 = (pre ++ [(⟨3, emp, (q : Int)⟩ : C)]).length := by simp
      have ih := fix_lay us (pre ++ [(⟨3, emp, (q : Int)⟩ : C)]) (tail ++ (layA u q a).1) (P' + 1) (q + u.hs) a0 (layA u q a).2 (by simp [layA_len]; omega)
      rw [hpl, ih]
      simp only [slotsA, laysA, (hsl q).1, (hsl q).2]
      simp [List.append_assoc]
    · obtain ⟨l1, l2⟩ := lay_other hk q a
      have hsl : ∀ z, slotA u P' z a0 = slotA u P' 0 a0 := by
        intro z
        cases u with
        | f s vs => simp [Tm.c0] at hk
        | i n => rfl
        | v n => rfl
      unfold fixA
      rw [if_neg hk]
      have e1 : pre ++ (slotsZ (u :: us) P' a0).1 ++ tail = (pre ++ [(slotA u P' 0 a0).1]) ++ (slotsZ us (P' + 1) (slotA u P' 0 a0).2).1 ++ tail := by simp [slotsZ]
      have hpl : pre.length + 1 = (pre ++ [(slotA u P' 0 a0).1]).length := by simp
      rw [e1, hpl, fix_lay us (pre ++ [(slotA u P' 0 a0).1]) tail (P' + 1) q (slotA u P' 0 a0).2 a (by simp; omega)]
      simp only [slotsA, laysA, l1, l2, hsl q, Nat.add_zero]
      simp [List.append_assoc]
/-- the code's way, and what it lays -/
theorem whole_lay (l : List C) (s : ByteArray) (us : List Tm) (a : List Int) :
    fixA us (l ++ [⟨4, s, us.length⟩] ++ (slotsZ us (l.length + 1) a).1) (l.length + 1) (slotsZ us (l.length + 1) a).2 = (l ++ (layA (.f s us) l.length a).1, (layA (.f s us) l.length a).2) := by
  have := fix_lay us (l ++ [⟨4, s, us.length⟩]) [] (l.length + 1) (l.length + 1 + us.length) a (slotsZ us (l.length + 1) a).2 (by simp)
  simp only [List.append_nil, List.length_append, List.length_cons, List.length_nil, Nat.zero_add] at this
  rw [this]
  simp only [layA, slotsZ_row]
  simp [List.append_assoc]
/-! ### how long a row becomes -/
theorem slotA_rowlen {u : Tm} (ho : u.ok = true) (P q : Nat) {a : List Int} (h : a.length ≤ 100000) : (slotA u P q a).2.length ≤ 100000 := by
  cases u with
  | i n => exact h
  | f s us => exact h
  | v n =>
    simp [Tm.ok] at ho
    rw [slotA_v]
    split <;> simp only [List.length_set, extA_len_le] <;> omega
theorem slotsA_rowlen : ∀ {us : List Tm}, oks us = true → ∀ (P q : Nat) {a : List Int}, a.length ≤ 100000 → (slotsA us P q a).2.length ≤ 100000
  | [], _, _, _, _, h => h
  | u :: us, ho, P, q, a, h => by
    rw [oks_cons, Bool.and_eq_true] at ho
    exact slotsA_rowlen ho.2 _ _ (slotA_rowlen ho.1 P q h)
mutual
theorem layA_rowlen : ∀ (T : Tm), T.ok = true → ∀ (P : Nat) (a : List Int), a.length ≤ 100000 → (layA T P a).2.length ≤ 100000
  | .i _, _, _, _, h => h
  | .v _, _, _, _, h => h
  | .f s us, ho, P, a, h => by
    simp only [Tm.ok, Bool.and_eq_true] at ho
    exact laysA_rowlen us ho.2.2 _ _ (slotsA_rowlen ho.2.2 _ _ h)
theorem laysA_rowlen : ∀ (us : List Tm), oks us = true → ∀ (P : Nat) (a : List Int), a.length ≤ 100000 → (laysA us P a).2.length ≤ 100000
  | [], _, _, _, h => h
  | u :: us, ho, P, a, h => by
    rw [oks_cons, Bool.and_eq_true] at ho
    exact laysA_rowlen us ho.2 _ _ (layA_rowlen u ho.1 _ _ h)
end
mutual
theorem hs_size : ∀ T : Tm, T.hs ≤ 2 * T.size
  | .i _ => by simp [Tm.hs]
  | .v _ => by simp [Tm.hs]
  | .f s us => by
    have := hss_size us
    have h2 := length_sizes us
    simp only [Tm.hs, Tm.size]; omega
theorem hss_size : ∀ us : List Tm, hss us + us.length ≤ 2 * sizes us
  | [] => by simp [hss, sizes]
  | u :: us => by
    have h1 := hs1 u
    have h2 := hss_size us
    simp only [hss, sizes_cons, List.length_cons]; omega
theorem hs1 : ∀ T : Tm, T.hs + 1 ≤ 2 * T.size
  | .i _ => by simp [Tm.hs, Tm.size]
  | .v _ => by simp [Tm.hs, Tm.size]
  | .f s us => by
    have := hss_size us
    simp only [Tm.hs, Tm.size]; omega
end
end Go.Proofs.Ytlndjooddkjnoaa

/- Getting the term at a place as the code does it: a row of places that wait. No program in sight. -/
namespace Go.Proofs.Ytlndjooddkjnoaa
open Go.RowKit

def argsRev (p : Nat) : Nat → List Nat
  | 0 => []
  | n + 1 => (p + (n + 1)) :: argsRev p n
theorem args_rev (p : Nat) : ∀ n, (argsRev p n).reverse = (List.range n).map (fun i => p + 1 + i)
  | 0 => rfl
  | n + 1 => by
    rw [argsRev, List.reverse_cons, args_rev p n, List.range_succ, List.map_append]
    simp; omega
theorem vles_append (n : Int) : ∀ a b : List Tm, vles n (a ++ b) = (vles n a && vles n b)
  | [], b => by simp [vles]
  | t :: a, b => by rw [List.cons_append, vles, vles, vles_append n a b, Bool.and_assoc]
/-- out is got, R waits, the last of it first -/
structure GetI (l : List C) (p : Nat) (out : List C) (R : List Nat) : Prop where
  flat : out ++ flats (R.reverse.map (den l)) = (den l p).flat
  vle : vles 999 (R.reverse.map (den l)) = (den l p).vle 999
  rl : ∀ q ∈ R, q < l.length
  len : out.length ≤ 200
theorem GetI.start {l : List C} {p : Nat} (hp : p < l.length) : GetI l p [] [p] := ⟨by simp [flats], by simp [vles], by simpa using hp, by simp⟩
theorem GetI.done {l : List C} {p : Nat} {out : List C} (h : GetI l p out []) : getF l p = some out := by
  have h1 := h.flat
  have h2 := h.vle
  have h3 := h.len
  simp [flats] at h1
  simp [vles] at h2
  have h4 := flat_size (den l p)
  rw [← h1] at h4
  unfold getF
  rw [if_pos ⟨by omega, h2⟩, ← h1]
theorem GetI.long {l : List C} {p a : Nat} {out : List C} {R : List Nat} (h : GetI l p out (R ++ [a])) (ho : out.length = 200) : getF l p = none := by
  have h1 := congrArg List.length h.flat
  rw [flat_size] at h1
  simp only [List.reverse_append, List.reverse_cons, List.reverse_nil, List.nil_append, List.cons_append, List.map_cons, flats_cons, List.length_append] at h1
  have h2 := flat_size (den l a)
  have h3 := (den l a).size_pos
  unfold getF
  rw [if_neg (by rintro ⟨h4, _⟩; omega)]
theorem GetI.great {l : List C} (hg : Good l) {p a : Nat} {out : List C} {R : List Nat} (h : GetI l p out (R ++ [a])) (hk : (sAt l (fol l a)).kind = 1) (hb : 999 < fol l a) : getF l p = none := by
  have ha : a < l.length := h.rl a (by simp)
  have hd := hg.den_eq ha
  rw [if_neg (by rw [hk]; decide), if_neg (by rw [hk]; decide)] at hd
  have h1 := h.vle
  simp only [List.reverse_append, List.reverse_cons, List.reverse_nil, List.nil_append, List.cons_append, List.map_cons, vles] at h1
  rw [hd] at h1
  have h2 : (Tm.v ((fol l a : Nat) : Int)).vle 999 = false := by simp [Tm.vle]; omega
  rw [h2] at h1
  simp at h1
  unfold getF
  rw [if_neg (by rintro ⟨_, h4⟩; rw [h4] at h1; cases h1)]
theorem GetI.step {l : List C} {p a : Nat} {out : List C} {R N : List Nat} {c : C} (h : GetI l p out (R ++ [a])) (ho : out.length < 200) (hf : (den l a).flat = c :: flats (N.reverse.map (den l))) (hv : (den l a).vle 999 = vles 999 (N.reverse.map (den l))) (hN : ∀ q ∈ N, q < l.length) :
    GetI l p (out ++ [c]) (R ++ N) := by
  refine ⟨?_, ?_, ?_, by simp; omega⟩
  · rw [← h.flat]
    simp [flats_append, flats_cons, hf]
  · rw [← h.vle]
    simp [vles_append, vles, hv]
  · intro q hq
    rcases List.mem_append.1 hq with hq | hq
    · exact h.rl q (by simp [hq])
    · exact hN q hq
theorem GetI.var {l : List C} (hg : Good l) {p a : Nat} {out : List C} {R : List Nat} (h : GetI l p out (R ++ [a])) (ho : out.length < 200) (hk : (sAt l (fol l a)).kind = 1) (hb : fol l a ≤ 999) : GetI l p (out ++ [⟨1, ⟨#[]⟩, ((fol l a : Nat) : Int)⟩]) R := by
  have ha : a < l.length := h.rl a (by simp)
  have hd := hg.den_eq ha
  rw [if_neg (by rw [hk]; decide), if_neg (by rw [hk]; decide)] at hd
  have := h.step ho (N := []) (c := ⟨1, ⟨#[]⟩, ((fol l a : Nat) : Int)⟩) (by rw [hd]; rfl) (by rw [hd]; simp [Tm.vle, vles]; omega) (by simp)
  simpa using this
theorem GetI.num {l : List C} (hg : Good l) {p a : Nat} {out : List C} {R : List Nat} (h : GetI l p out (R ++ [a])) (ho : out.length < 200) (hk : (sAt l (fol l a)).kind = 2) : GetI l p (out ++ [⟨2, ⟨#[]⟩, (sAt l (fol l a)).n⟩]) R := by
  have ha : a < l.length := h.rl a (by simp)
  have hd := hg.den_eq ha
  rw [if_neg (by rw [hk]; decide), if_pos hk] at hd
  have := h.step ho (N := []) (c := ⟨2, ⟨#[]⟩, (sAt l (fol l a)).n⟩) (by rw [hd]; rfl) (by rw [hd]; simp [Tm.vle, vles]) (by simp)
  simpa using this
theorem GetI.top {l : List C} (hg : Good l) {p a : Nat} {out : List C} {R : List Nat} (h : GetI l p out (R ++ [a])) (ho : out.length < 200) (hk : (sAt l (fol l a)).kind = 4) : GetI l p (out ++ [⟨3, (sAt l (fol l a)).name, (sAt l (fol l a)).n⟩]) (R ++ argsRev (fol l a) (sAt l (fol l a)).n.toNat) := by
  have ha : a < l.length := h.rl a (by simp)
  have hd := hg.den_eq ha
  rw [if_pos hk] at hd
  have hq := (hg.fol_end ha).2
  have ht := ok_top (shp_at hg.shp hq) hk
  have hm : (argsRev (fol l a) (sAt l (fol l a)).n.toNat).reverse.map (den l) = (List.range (sAt l (fol l a)).n.toNat).map fun i => den l (fol l a + 1 + i) := by
    rw [args_rev, List.map_map]; rfl
  refine h.step ho ?_ ?_ ?_
  · rw [hm, hd]
    simp only [Tm.flat, List.length_map, List.length_range]
    rw [show (((sAt l (fol l a)).n.toNat : Nat) : Int) = (sAt l (fol l a)).n by omega]
  · rw [hm, hd]; rfl
  · intro q hq'
    have : q ∈ (argsRev (fol l a) (sAt l (fol l a)).n.toNat).reverse := List.mem_reverse.2 hq'
    rw [args_rev] at this
    obtain ⟨i, hi, rfl⟩ := List.mem_map.1 this
    simp at hi
    omega
end Go.Proofs.Ytlndjooddkjnoaa
