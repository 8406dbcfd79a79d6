/- A slice whose elements are read by a relation: rows of structs, rows of rows. No program in sight. -/
import Derived.Test.YtdeaeiolehglaaaLaw
set_option linter.unusedVariables false
set_option linter.unusedSimpArgs false
namespace Go.Proofs.Ytdeaeiolehglaaa
open Go.RowKit

/-- elements of k places each; R w x v: in w the places v are the element x -/
structure IsG {α : Type} (R : World → α → List Value → Prop) (k : Nat) (w : World) (A : Option Addr) (n cap : Nat) (xs : List α) : Prop where
  len : xs.length = n
  rows : ∃ vs : List (List Value), vs.length = xs.length ∧ (∀ v ∈ vs, v.length = k) ∧ Sl w k A n cap vs.flatten ∧ ∀ (i : Nat) (x : α) (v : List Value), xs[i]? = some x → vs[i]? = some v → R w x v
/-- a relation that later worlds keep -/
def Keeps {α : Type} (R : World → α → List Value → Prop) : Prop := ∀ w w' x v, R w x v → Below w.heap.size w w' → R w' x v

theorem flatten_len {k : Nat} : ∀ {vs : List (List Value)}, (∀ v ∈ vs, v.length = k) → vs.flatten.length = vs.length * k
  | [], _ => by simp
  | v :: vs, h => by
    rw [List.flatten_cons, List.length_append, h v (by simp), flatten_len (fun u hu => h u (by simp [hu])), List.length_cons, Nat.succ_mul]; omega
theorem flatten_get {k : Nat} : ∀ {vs : List (List Value)} {i j : Nat} {v : List Value} {u : Value}, (∀ v ∈ vs, v.length = k) → vs[i]? = some v → v[j]? = some u → vs.flatten[i * k + j]? = some u
  | [], i, j, v, u, _, hi, _ => by simp at hi
  | v0 :: vs, i, j, v, u, h, hi, hj => by
    have h0 := h v0 (by simp)
    rw [List.flatten_cons]
    cases i with
    | zero =>
      simp at hi
      subst hi
      have := (List.getElem?_eq_some_iff.1 hj).1
      rw [Nat.zero_mul, Nat.zero_add, List.getElem?_append_left this, hj]
    | succ i =>
      have hi' : vs[i]? = some v := by simpa using hi
      have hj' := (List.getElem?_eq_some_iff.1 hj).1
      rw [List.getElem?_append_right (by rw [Nat.succ_mul]; omega), show (i + 1) * k + j - v0.length = i * k + j by rw [Nat.succ_mul]; omega]
      exact flatten_get (fun u hu => h u (by simp [hu])) hi' hj

section
variable {α : Type} {R : World → α → List Value → Prop} {k : Nat} {w w' : World} {A : Option Addr} {n cap : Nat} {xs : List α}
theorem IsG.below (hR : Keeps R) (h : IsG R k w A n cap xs) (hb : Below w.heap.size w w') : IsG R k w' A n cap xs := by
  obtain ⟨vs, h1, h2, h3, h4⟩ := h.rows
  exact ⟨h.len, vs, h1, h2, h3.below hb, fun i x v hx hv => hR _ _ _ _ (h4 i x v hx hv) hb⟩
theorem IsG.cap_le (h : IsG R k w A n cap xs) : n ≤ cap ∧ cap ≤ maxLen := by
  obtain ⟨vs, h1, h2, h3, h4⟩ := h.rows
  exact ⟨h3.hcap, h3.hmax⟩
theorem IsG.get (h : IsG R k w A n cap xs) {i : Nat} (hi : i < n) : ∃ x, xs[i]? = some x := ⟨_, List.getElem?_eq_getElem (by have := h.len; omega)⟩
theorem IsG.at_ (h : IsG R k w A n cap xs) {i : Nat} {x : α} (hx : xs[i]? = some x) :
    ∃ b off v, A = some ⟨b, off, none⟩ ∧ b < w.heap.size ∧ v.length = k ∧ R w x v ∧ ∀ j u, v[j]? = some u → w.cell? ⟨b, off + i * k + j, none⟩ = some u := by
  have hlt : i < xs.length := (List.getElem?_eq_some_iff.1 hx).1
  obtain ⟨vs, h1, h2, h3, h4⟩ := h.rows
  obtain ⟨v, hv⟩ : ∃ v, vs[i]? = some v := ⟨_, List.getElem?_eq_getElem (by omega)⟩
  obtain ⟨b, off, rfl, hb, hc⟩ := h3.cells (by have := h.len; omega)
  exact ⟨b, off, v, rfl, hb, h2 v (List.mem_of_getElem? hv), h4 i x v hx hv, fun j u hu => by rw [Nat.add_assoc]; exact hc _ _ (flatten_get h2 hv hu)⟩
theorem IsG.nil (hc : cap ≤ maxLen) : IsG R k w A 0 cap [] := ⟨rfl, [], rfl, by simp, ⟨by simp, Nat.zero_le _, hc, fun h => absurd h (by omega)⟩, by simp⟩
theorem IsG.take (h : IsG R k w A n cap xs) {m : Nat} (hm : m ≤ n) : IsG R k w A m cap (xs.take m) := by
  obtain ⟨vs, h1, h2, h3, h4⟩ := h.rows
  have hl := h.len
  refine ⟨by rw [List.length_take]; omega, vs.take m, by rw [List.length_take, List.length_take, h1], fun v hv => h2 v (List.mem_of_mem_take hv), ⟨?_, Nat.le_trans hm h3.hcap, h3.hmax, fun hm0 => ?_⟩, fun i x v hx hv => ?_⟩
  · rw [flatten_len (fun v hv => h2 v (List.mem_of_mem_take hv)), List.length_take]; congr 1; omega
  · obtain ⟨b, off, rfl, hb, hc⟩ := h3.cells (by omega)
    refine ⟨b, off, rfl, hb, fun j u hu => hc j u ?_⟩
    have hs : vs.flatten = (vs.take m).flatten ++ (vs.drop m).flatten := by rw [← List.flatten_append, List.take_append_drop]
    rw [hs, List.getElem?_append_left (List.getElem?_eq_some_iff.1 hu).1]
    exact hu
  · rw [List.getElem?_take] at hx hv
    split at hx
    · rename_i hi; rw [if_pos hi] at hv; exact h4 i x v hx hv
    · cases hx
theorem flatten_drop {k : Nat} : ∀ {vs : List (List Value)} (m : Nat), (∀ v ∈ vs, v.length = k) → vs.flatten.drop (m * k) = (vs.drop m).flatten
  | [], m, _ => by simp
  | v :: vs, 0, _ => by simp
  | v :: vs, m + 1, h => by
    have h0 := h v (by simp)
    rw [List.flatten_cons, Nat.succ_mul, List.drop_append, h0, List.drop_of_length_le (by omega), List.nil_append, show m * k + k - k = m * k by omega, List.drop_succ_cons]
    exact flatten_drop m (fun u hu => h u (by simp [hu]))
theorem IsG.drop (h : IsG R k w A n cap xs) {m : Nat} (hm : m ≤ n) : IsG R k w (if cap = m then A else A.map (·.add (m * k))) (n - m) (cap - m) (xs.drop m) := by
  obtain ⟨vs, h1, h2, h3, h4⟩ := h.rows
  have hl := h.len
  refine ⟨by rw [List.length_drop]; omega, vs.drop m, by rw [List.length_drop, List.length_drop, h1], fun v hv => h2 v (List.mem_of_mem_drop hv), ?_, fun i x v hx hv => ?_⟩
  · rw [← flatten_drop m h2]
    have hlen := h3.len
    have hmul : (n - m) * k = n * k - m * k := Nat.sub_mul n m k
    refine ⟨by rw [List.length_drop, hlen, hmul], by have := h3.hcap; omega, by have := h3.hmax; omega, fun hn => ?_⟩
    obtain ⟨b, off, rfl, hb, hc⟩ := h3.cells (by omega)
    rw [if_neg (by have := h3.hcap; omega)]
    refine ⟨b, off + m * k, by simp [Addr.add], hb, fun j u hu => ?_⟩
    rw [List.getElem?_drop] at hu
    have := hc _ u hu
    rwa [← Nat.add_assoc] at this
  · rw [List.getElem?_drop] at hx hv
    exact h4 _ x v hx hv
/-- out of a row of the call's own -/
theorem IsG.own {base : Nat} {e : TypeId} {vs : List (List Value)} (h : w.ownsRow base e k (.slice A n cap) n vs.flatten) (hk : 0 < k) (hl : xs.length = n) (h1 : vs.length = xs.length) (h2 : ∀ v ∈ vs, v.length = k)
    (h4 : ∀ (i : Nat) (x : α) (v : List Value), xs[i]? = some x → vs[i]? = some v → R w x v) : IsG R k w A n cap xs := ⟨hl, vs, h1, h2, Sl.own h hk, h4⟩

/-- a row of the call's own, of such elements -/
structure OwnG (R : World → α → List Value → Prop) (k : Nat) (w : World) (base : Nat) (e : TypeId) (v : Value) (n : Nat) (xs : List α) : Prop where
  len : xs.length = n
  rows : ∃ vs : List (List Value), vs.length = xs.length ∧ (∀ v ∈ vs, v.length = k) ∧ w.ownsRow base e k v n vs.flatten ∧ ∀ (i : Nat) (x : α) (v : List Value), xs[i]? = some x → vs[i]? = some v → R w x v
theorem OwnG.is {base : Nat} {e : TypeId} (h : OwnG R k w base e (.slice A n cap) n xs) (hk : 0 < k) : IsG R k w A n cap xs := by
  obtain ⟨vs, h1, h2, h3, h4⟩ := h.rows
  exact ⟨h.len, vs, h1, h2, Sl.own h3 hk, h4⟩
theorem OwnG.below {base : Nat} {e : TypeId} {v : Value} (hR : Keeps R) (h : OwnG R k w base e v n xs) (hb : Below w.heap.size w w') : OwnG R k w' base e v n xs := by
  obtain ⟨vs, h1, h2, h3, h4⟩ := h.rows
  exact ⟨h.len, vs, h1, h2, own_below h3 hb, fun i x v hx hv => hR _ _ _ _ (h4 i x v hx hv) hb⟩
theorem OwnG.nil (w : World) (base : Nat) (e : TypeId) : OwnG R k w base e (.slice none 0 0) 0 [] := ⟨rfl, [], rfl, by simp, World.ownsRow_nil w base e k, by simp⟩
/-- one more: what 'append' leaves -/
theorem OwnG.snoc {w2 : World} {base : Nat} {e : TypeId} {v' : Value} {x : α} {u : List Value} {vs : List (List Value)}
    (hown : w2.ownsRow base e k v' (n + 1) (vs.flatten ++ u)) (hl : xs.length = n) (h1 : vs.length = xs.length) (h2 : ∀ v ∈ vs, v.length = k) (hu : u.length = k)
    (h4 : ∀ (i : Nat) (x : α) (v : List Value), xs[i]? = some x → vs[i]? = some v → R w2 x v) (hx : R w2 x u) : OwnG R k w2 base e v' (n + 1) (xs ++ [x]) := by
  refine ⟨by simp [hl], vs ++ [u], by simp [h1], ?_, by simpa using hown, ?_⟩
  · intro v hv
    rcases List.mem_append.1 hv with hv | hv
    · exact h2 v hv
    · simp at hv; subst hv; exact hu
  · intro i y v hy hv
    rw [List.getElem?_append] at hy hv
    split at hy
    · rename_i hi
      rw [if_pos (by omega)] at hv
      exact h4 i y v hy hv
    · rename_i hi
      rw [if_neg (by omega)] at hv
      have e : i - xs.length = 0 := by
        have := (List.getElem?_eq_some_iff.1 hy).1
        simp at this
        omega
      have e' : i - vs.length = 0 := by omega
      rw [e] at hy
      rw [e'] at hv
      simp at hy hv
      subst hy hv
      exact hx
end
end Go.Proofs.Ytdeaeiolehglaaa
