/- Rows of the call's own, whose elements lie in no row of it; rows of clauses. -/
import Derived.Test.YtekdcmplcjgonaaDoorRT
import Derived.Test.YtekdcmplcjgonaaDoorB4
set_option linter.unusedVariables false
set_option linter.unusedSimpArgs false
namespace Go.Proofs.YtekdcmplcjgonaaDoor
open Go.RowKit

/-- another place than A's, that is there -/
def UnB (A : Option Addr) (w : World) (X : Option Addr) : Prop := Un A X ∧ ∀ a, X = some a → a.block < w.heap.size
theorem UnB.below {A X : Option Addr} {w w' : World} (h : UnB A w X) (hb : w.heap.size ≤ w'.heap.size) : UnB A w' X := ⟨h.1, fun a ha => Nat.lt_of_lt_of_le (h.2 a ha) hb⟩
theorem UnB.apart {A A2 X : Option Addr} {w w' : World} (h : UnB A w X) (hap : Apart w w' A A2) : UnB A2 w' X := by
  refine ⟨fun a b ha hb => ?_, fun a ha => Nat.lt_of_lt_of_le (h.2 a ha) hap.size⟩
  rcases (hap.blk a ha).2 with ⟨a0, ha0, e⟩ | h5
  · rw [e]; exact h.1 a0 b ha0 hb
  · have := h.2 b hb; omega

structure Fam {α : Type} (R : Option Addr → World → α → List Value → Prop) : Prop where
  below : ∀ A w w' x v, R A w x v → Below w.heap.size w w' → R A w' x v
  apart : ∀ A A2 w w' x v, R A w x v → Apart w w' A A2 → R A2 w' x v

structure RowG {α : Type} (R : Option Addr → World → α → List Value → Prop) (k : Nat) (e : TypeId) (w : World) (base : Nat) (A : Option Addr) (n c : Nat) (xs : List α) : Prop where
  len : xs.length = n
  own : ∀ a, A = some a → base ≤ a.block ∧ a.block < w.heap.size
  rows : ∃ vs : List (List Value), vs.length = xs.length ∧ (∀ v ∈ vs, v.length = k) ∧ Own0 w base e k (.slice A n c) n vs.flatten ∧ ∀ (i : Nat) (x : α) (v : List Value), xs[i]? = some x → vs[i]? = some v → R A w x v
section
variable {α : Type} {R : Option Addr → World → α → List Value → Prop} {k : Nat} {e : TypeId} {w w' : World} {base : Nat} {A : Option Addr} {n c : Nat} {xs : List α}
theorem RowG.nil (A : Option Addr) (h : ∀ a, A = some a → base ≤ a.block ∧ a.block < w.heap.size) : RowG R k e w base A 0 0 [] := ⟨rfl, h, [], rfl, by simp, .inl ⟨A, rfl, rfl, rfl⟩, by simp⟩
theorem RowG.below (hR : Fam R) (h : RowG R k e w base A n c xs) (hb : Below w.heap.size w w') : RowG R k e w' base A n c xs := by
  obtain ⟨vs, h1, h2, h3, h4⟩ := h.rows
  exact ⟨h.len, fun a ha => ⟨(h.own a ha).1, Nat.lt_of_lt_of_le (h.own a ha).2 hb.size⟩, vs, h1, h2, h3.below hb, fun i x v hx hv => hR.below _ _ _ _ _ (h4 i x v hx hv) hb⟩
theorem RowG.is (h : RowG R k e w base A n c xs) (hk : 0 < k) : IsG (R A) k w A n c xs := by
  obtain ⟨vs, h1, h2, h3, h4⟩ := h.rows
  exact ⟨h.len, vs, h1, h2, h3.sl hk, h4⟩
theorem RowG.snoc (hR : Fam R) {A2 : Option Addr} {c2 : Nat} {vs : List (List Value)} {x : α} {u : List Value} (hl : xs.length = n) (h1 : vs.length = xs.length) (h2 : ∀ v ∈ vs, v.length = k)
    (h4 : ∀ (i : Nat) (x : α) (v : List Value), xs[i]? = some x → vs[i]? = some v → R A w x v) (hown : w'.ownsRow base e k (.slice A2 (n + 1) c2) (n + 1) (vs.flatten ++ u)) (hap : Apart w w' A A2) (hu : u.length = k) (hx : R A w x u) :
    RowG R k e w' base A2 (n + 1) c2 (xs ++ [x]) := by
  refine ⟨by simp [hl], fun a ha => Own0.lt hown a ha, vs ++ [u], by simp [h1], ?_, .inr (by simpa using hown), ?_⟩
  · intro v hv
    rcases List.mem_append.1 hv with hv | hv
    · exact h2 v hv
    · simp at hv; subst hv; exact hu
  · intro i y v hy hv
    rw [List.getElem?_append] at hy hv
    split at hy
    · rename_i hi
      rw [if_pos (by omega)] at hv
      exact hR.apart _ _ _ _ _ _ (h4 i y v hy hv) hap
    · rename_i hi
      rw [if_neg (by omega)] at hv
      have e1 : i - xs.length = 0 := by
        have := (List.getElem?_eq_some_iff.1 hy).1
        simp at this
        omega
      have e2 : i - vs.length = 0 := by omega
      rw [e1] at hy
      rw [e2] at hv
      simp at hy hv
      subst hy hv
      exact hR.apart _ _ _ _ _ _ hx hap
end
/-- a literal, whose atom lies in no row A, in a block of which P holds -/
def RLu (P : Nat → Prop) (A : Option Addr) : World → Bool × Tm → List Value → Prop := fun w p v => ∃ A' n c, v = [.bool p.1, .slice A' n c] ∧ IsC w A' n c p.2.flat ∧ UnB A w A' ∧ ∀ a, A' = some a → P a.block
theorem famL (P : Nat → Prop) : Fam (RLu P) :=
  ⟨fun _ _ _ _ _ ⟨A', n, c, h1, h2, h3, h4⟩ hb => ⟨A', n, c, h1, h2.below hb, h3.below hb.size, h4⟩, fun _ _ _ _ _ _ ⟨A', n, c, h1, h2, h3, h4⟩ hap => ⟨A', n, c, h1, h2.apart hap h3.1, h3.apart hap, h4⟩⟩
/-- a clause, that lies in no row A -/
def RCu (A : Option Addr) : World → Tm × List (Bool × Tm) → List Value → Prop := fun w c v => ∃ A' n cp B m d, v = [.slice A' n cp, .slice B m d] ∧ IsC w A' n cp c.1.flat ∧ UnB A w A' ∧ IsG (RLu (fun _ => True) A) 2 w B m d c.2 ∧ UnB A w B
theorem famC : Fam RCu := by
  refine ⟨fun _ _ _ _ _ ⟨A', n, cp, B, m, d, h1, h2, h3, h4, h5⟩ hb => ⟨A', n, cp, B, m, d, h1, h2.below hb, h3.below hb.size, h4.below (fun w w' x v h hb => (famL _).below _ _ _ _ _ h hb) hb, h5.below hb.size⟩,
    fun A A2 w w' _ _ ⟨A', n, cp, B, m, d, h1, h2, h3, h4, h5⟩ hap => ⟨A', n, cp, B, m, d, h1, h2.apart hap h3.1, h3.apart hap, ?_, h5.apart hap⟩⟩
  obtain ⟨vs, g1, g2, g3, g4⟩ := h4.rows
  exact ⟨h4.len, vs, g1, g2, g3.apart hap h5.1, fun i x v hx hv => (famL _).apart _ _ _ _ _ _ (g4 i x v hx hv) hap⟩
theorem rcu_rc {A : Option Addr} {w : World} {c : Tm × List (Bool × Tm)} {v : List Value} (h : RCu A w c v) : RC w c v := by
  obtain ⟨A', n, cp, B, m, d, h1, h2, _, h4, _⟩ := h
  obtain ⟨vs, g1, g2, g3, g4⟩ := h4.rows
  refine ⟨A', n, cp, B, m, d, h1, h2, h4.len, vs, g1, g2, g3, fun i x v hx hv => ?_⟩
  obtain ⟨A'', n', c', e1, e2, _⟩ := g4 i x v hx hv
  exact ⟨A'', n', c', e1, e2⟩
theorem isRC {A X : Option Addr} {w : World} {n c : Nat} {cs : List (Tm × List (Bool × Tm))} (h : IsG (RCu A) 2 w X n c cs) : IsG RC 2 w X n c cs := by
  obtain ⟨vs, g1, g2, g3, g4⟩ := h.rows
  exact ⟨h.len, vs, g1, g2, g3, fun i x v hx hv => rcu_rc (g4 i x v hx hv)⟩
/-- the literals of a row of the call's own are off another row too -/
theorem rlu_off {P : Nat → Prop} {B X A : Option Addr} {w : World} {m d : Nat} {ls : List (Bool × Tm)} (h : IsG (RLu P B) 2 w X m d ls) (hP : ∀ a, A = some a → ¬ P a.block) : IsG (RLu (fun _ => True) A) 2 w X m d ls := by
  obtain ⟨vs, g1, g2, g3, g4⟩ := h.rows
  refine ⟨h.len, vs, g1, g2, g3, fun i x v hx hv => ?_⟩
  obtain ⟨A', n', c', e1, e2, e3, e4⟩ := g4 i x v hx hv
  exact ⟨A', n', c', e1, e2, ⟨fun a b ha hb e => hP a ha (e ▸ e4 b hb), e3.2⟩, fun _ _ => trivial⟩
end Go.Proofs.YtekdcmplcjgonaaDoor
