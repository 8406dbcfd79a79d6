/- Lists' terms and their texts, in plain words; a term's cells are of it alone. No program in sight. -/
import Derived.Test.YtekdcmplcjgonaaDoorB4
import Derived.Test.YtekdcmplcjgonaaDoorB1
set_option linter.unusedVariables false
set_option linter.unusedSimpArgs false
namespace Go.Proofs.YtekdcmplcjgonaaDoor
open Go.RowKit

mutual
theorem flat_inj6 : ∀ (a b : Tm) (r r' : List C), a.flat ++ r = b.flat ++ r' → a = b ∧ r = r'
  | .v n, .v m, r, r', h => by simp [Tm.flat] at h; exact ⟨by rw [h.1], h.2⟩
  | .v n, .i m, r, r', h => by simp [Tm.flat] at h
  | .v n, .f s us, r, r', h => by simp [Tm.flat] at h
  | .i n, .v m, r, r', h => by simp [Tm.flat] at h
  | .i n, .i m, r, r', h => by simp [Tm.flat] at h; exact ⟨by rw [h.1], h.2⟩
  | .i n, .f s us, r, r', h => by simp [Tm.flat] at h
  | .f s us, .v m, r, r', h => by simp [Tm.flat] at h
  | .f s us, .i m, r, r', h => by simp [Tm.flat] at h
  | .f s us, .f s' us', r, r', h => by
    simp only [Tm.flat, List.cons_append, List.cons.injEq, C.mk.injEq, true_and] at h
    obtain ⟨⟨h1, h2⟩, h3⟩ := h
    obtain ⟨h4, h5⟩ := flats_inj6 us us' r r' (by omega) h3
    exact ⟨by rw [h1, h4], h5⟩
theorem flats_inj6 : ∀ (as_ bs : List Tm) (r r' : List C), as_.length = bs.length → flats as_ ++ r = flats bs ++ r' → as_ = bs ∧ r = r'
  | [], [], r, r', _, h => ⟨rfl, by simpa [flats] using h⟩
  | a :: as_, b :: bs, r, r', hl, h => by
    rw [flats_cons, flats_cons, List.append_assoc, List.append_assoc] at h
    obtain ⟨h1, h2⟩ := flat_inj6 a b _ _ h
    obtain ⟨h3, h4⟩ := flats_inj6 as_ bs r r' (by simpa using hl) h2
    exact ⟨by rw [h1, h3], h4⟩
  | [], b :: bs, r, r', hl, _ => by simp at hl
  | a :: as_, [], r, r', hl, _ => by simp at hl
end
theorem tm_inj6 {a b : Tm} (h : a.flat = b.flat) : a = b := (flat_inj6 a b [] [] (by simpa using h)).1
theorem same_tm {a b : Tm} : sameC a.flat b.flat = true ↔ a = b := by rw [sameC_iff]; exact ⟨tm_inj6, fun h => by rw [h]⟩
/-- a list's term, with what is at its end -/
def lstT : List Tm → Tm → Tm
  | [], E => E
  | x :: l, E => .f ⟨#[46]⟩ [x, lstT l E]
theorem lst_size : ∀ (l : List Tm) (E : Tm), (lstT l E).size = l.length + sizes l + E.size
  | [], E => by simp [lstT, sizes]
  | x :: l, E => by rw [lstT, Tm.size, sizes_cons, sizes_cons, lst_size l E, sizes, sizes_cons, List.length_cons]; omega
theorem lst_ok : ∀ {l : List Tm} {E : Tm}, (∀ U ∈ l, U.ok = true) → E.ok = true → (lstT l E).ok = true
  | [], E, _, h => h
  | x :: l, E, h, hE => by
    rw [lstT]
    have h1 := h x (by simp)
    have h2 := lst_ok (l := l) (fun U hU => h U (by simp [hU])) hE
    simp [Tm.ok, oks, h1, h2]
    decide
theorem prL_lst : ∀ (l : List Tm) (E : Tm), prL (lstT l E) = prC l ++ prL E
  | [], E => by simp [lstT, prC]
  | x :: l, E => by rw [lstT, prL, if_pos (by decide), prL_lst l E, prC]; simp
theorem prT_lst (x : Tm) (l : List Tm) (E : Tm) : prT (lstT (x :: l) E) = 91 :: (prA (x :: l) ++ prL E) := by
  rw [lstT, prT, if_neg (by decide), if_pos (by decide), prL_lst, prA]; simp
theorem prL_nil : prL hN = [93] := by rw [hN, prL, if_pos (by decide)]
theorem prL_end {E : Tm} (hok : E.ok = true) (h1 : ¬ isDot E) (h2 : E ≠ hN) : prL E = 124 :: (prT E ++ [93]) := by
  refine prL_other hok h2 fun a b h => h1 ⟨_, a, b, h, by decide⟩
theorem prA_cons (x : Tm) (l : List Tm) : prA (x :: l) = prT x ++ (if l = [] then [] else 44 :: prA l) := by
  cases l with
  | nil => simp [prA, prC]
  | cons y l => rw [if_neg (by simp), prA, prC, prA]
end Go.Proofs.YtekdcmplcjgonaaDoor
