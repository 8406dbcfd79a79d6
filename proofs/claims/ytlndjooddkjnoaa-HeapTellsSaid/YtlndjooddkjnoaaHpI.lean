/- A term's cells are of it alone; what the document gets: a term's cells, or more than 200. No program in sight. -/
import Derived.Test.YtlndjooddkjnoaaB1
set_option linter.unusedVariables false
set_option linter.unusedSimpArgs false
namespace Go.Proofs.Ytlndjooddkjnoaa
open Go.RowKit

mutual
theorem flat_inj8 : ∀ (a b : Tm) (r r' : List C), a.flat ++ r = b.flat ++ r' → a = b ∧ r = r'
  | .v n, .v m, r, r', h => by simp [Tm.flat] at h; exact ⟨by rw [h.1], h.2⟩
  | .v n, .i m, r, r', h => by simp [Tm.flat] at h
  | .v n, .f s us, r, r', h => by simp [Tm.flat] at h
  | .i n, .v m, r, r', h => by simp [Tm.flat] at h
  | .i n, .i m, r, r', h => by simp [Tm.flat] at h; exact ⟨by rw [h.1], h.2⟩
  | .i n, .f s us, r, r', h => by simp [Tm.flat] at h
  | .f s us, .v m, r, r', h => by simp [Tm.flat] at h
  | .f s us, .i m, r, r', h => by simp [Tm.flat] at h
  | .f s us, .f s' us', r, r', h => by
    simp only [Tm.flat, List.cons_append, List.cons.injEq, C.mk.injEq, true_and] at h
    obtain ⟨⟨h1, h2⟩, h3⟩ := h
    obtain ⟨h4, h5⟩ := flats_inj8 us us' r r' (by omega) h3
    exact ⟨by rw [h1, h4], h5⟩
theorem flats_inj8 : ∀ (as_ bs : List Tm) (r r' : List C), as_.length = bs.length → flats as_ ++ r = flats bs ++ r' → as_ = bs ∧ r = r'
  | [], [], r, r', _, h => ⟨rfl, by simpa [flats] using h⟩
  | a :: as_, b :: bs, r, r', hl, h => by
    rw [flats_cons, flats_cons, List.append_assoc, List.append_assoc] at h
    obtain ⟨h1, h2⟩ := flat_inj8 a b _ _ h
    obtain ⟨h3, h4⟩ := flats_inj8 as_ bs r r' (by simpa using hl) h2
    exact ⟨by rw [h1, h3], h4⟩
  | [], b :: bs, r, r', hl, _ => by simp at hl
  | a :: as_, [], r, r', hl, _ => by simp at hl
end
theorem tm_inj8 {a b : Tm} (h : a.flat = b.flat) : a = b := (flat_inj8 a b [] [] (by simpa using h)).1
theorem flats_app8 : ∀ a b : List Tm, flats (a ++ b) = flats a ++ flats b
  | [], b => rfl
  | t :: a, b => by rw [List.cons_append, flats_cons, flats_cons, flats_app8 a b, List.append_assoc]
theorem sizes_app8 : ∀ a b : List Tm, sizes (a ++ b) = sizes a + sizes b
  | [], b => by simp [sizes]
  | t :: a, b => by rw [List.cons_append]; simp only [sizes]; rw [sizes_app8 a b]; omega
/-- what the document gets, behind so many cells -/
structure GetR (l : List C) (p h : Nat) (t : List C) : Prop where
  is : t = (den l p).flat ∨ (200 < h + t.length ∧ t.length ≤ (den l p).size)
  len : h + t.length ≤ 201
  wf : ∀ c ∈ t, c.wf
def argDen (l : List C) (q i : Nat) : List Tm := (List.range i).map fun j => den l (q + 1 + j)
structure GetL (l : List C) (q h : Nat) (c : C) (i : Nat) (out : List C) : Prop where
  is : out = c :: flats (argDen l q i) ∨ (200 < h + out.length ∧ out.length ≤ 1 + sizes (argDen l q i))
  len : h + out.length ≤ 201
  wf : ∀ c ∈ out, c.wf
theorem argDen_succ (l : List C) (q i : Nat) : argDen l q (i + 1) = argDen l q i ++ [den l (q + 1 + i)] := by
  simp [argDen, List.range_succ]
theorem sizes_argDen (l : List C) (q : Nat) {i N : Nat} (h : i ≤ N) : sizes (argDen l q i) ≤ sizes (argDen l q N) := by
  induction N with
  | zero => simp at h; subst h; exact Nat.le_refl _
  | succ N ih =>
    by_cases hi : i = N + 1
    · subst hi; exact Nat.le_refl _
    · rw [argDen_succ, sizes_app8]
      have := ih (by omega)
      omega
theorem GetL.start {l : List C} {q h : Nat} {c : C} (hh : h ≤ 200) (hc : c.wf) : GetL l q h c 0 [c] :=
  ⟨.inl rfl, by simp; omega, fun x hx => by simp at hx; subst hx; exact hc⟩
theorem GetL.step {l : List C} {q h i : Nat} {c : C} {out t : List C} (h1 : GetL l q h c i out) (hh : h + out.length ≤ 200) (h2 : GetR l (q + 1 + i) (h + out.length) t) : GetL l q h c (i + 1) (out ++ t) := by
  obtain ⟨a1, a2, a3⟩ := h1
  obtain ⟨b1, b2, b3⟩ := h2
  have ho : out = c :: flats (argDen l q i) := by
    rcases a1 with a1 | ⟨a1, _⟩
    · exact a1
    · omega
  refine ⟨?_, by rw [List.length_append]; omega, fun x hx => (List.mem_append.1 hx).elim (a3 x) (b3 x)⟩
  rcases b1 with b1 | ⟨b1, b4⟩
  · left
    rw [b1, ho, argDen_succ, flats_app8]
    simp [flats]
  · right
    have hol : out.length = 1 + sizes (argDen l q i) := by
      rw [ho, List.length_cons]
      have : (flats (argDen l q i)).length = sizes (argDen l q i) := flats_size _
      omega
    rw [List.length_append, argDen_succ, sizes_app8]
    simp only [sizes]
    omega
theorem GetL.done {l : List C} {p q h i N : Nat} {s : ByteArray} {out : List C} (hd : den l p = .f s (argDen l q N)) (h1 : GetL l q h ⟨3, s, (N : Int)⟩ i out) (hi : i ≤ N) (he : i = N ∨ 200 < h + out.length) : GetR l p h out := by
  obtain ⟨a1, a2, a3⟩ := h1
  have hl : (argDen l q N).length = N := by simp [argDen]
  refine ⟨?_, a2, a3⟩
  rw [hd]
  rcases he with rfl | he
  · rcases a1 with a1 | a1
    · left; rw [a1]; simp [Tm.flat, hl]
    · right; exact a1
  · right
    refine ⟨he, ?_⟩
    have h2 := sizes_argDen l q hi
    show out.length ≤ 1 + sizes (argDen l q N)
    rcases a1 with a1 | a1
    · rw [a1, List.length_cons]
      have : (flats (argDen l q i)).length = sizes (argDen l q i) := flats_size _
      omega
    · omega
theorem GetR.one {l : List C} {p h : Nat} {c : C} (hd : (den l p).flat = [c]) (hh : h ≤ 200) (hc : c.wf) : GetR l p h [c] :=
  ⟨.inl hd.symm, by simp; omega, fun x hx => by simp at hx; subst hx; exact hc⟩
theorem GetR.end_ {l : List C} (hg : Good l) {p : Nat} (hp : p < l.length) {t : List C} (h : GetR l p 0 t) : (rightB t = true ∧ getF l p = some t) ∨ (rightB t = false ∧ getF l p = none) := by
  obtain ⟨a1, a2, a3⟩ := h
  by_cases hc : (den l p).size ≤ 200 ∧ (den l p).vle 999 = true
  · have hF : getF l p = some (den l p).flat := by unfold getF; rw [if_pos hc]
    rcases a1 with rfl | ⟨a1, a4⟩
    · exact .inl ⟨getF_right hg hp hF, hF⟩
    · omega
  · have hF : getF l p = none := by unfold getF; rw [if_neg hc]
    refine .inr ⟨?_, hF⟩
    cases hr : rightB t with
    | false => rfl
    | true =>
      obtain ⟨T, h1, h2, h3⟩ := right_tree hr
      have hl : t.length ≤ 200 := by rw [← h2, flat_size]; exact h3
      rcases a1 with rfl | ⟨a1, a4⟩
      · have := tm_inj8 h2
        subst this
        exact absurd ⟨h3, by rw [← hg.den_ok p hp]; exact h1⟩ hc
      · omega
end Go.Proofs.Ytlndjooddkjnoaa
