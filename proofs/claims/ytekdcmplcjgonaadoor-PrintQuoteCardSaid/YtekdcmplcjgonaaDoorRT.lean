/- Rows of terms, and a term made of them. -/
import Derived.Test.YtekdcmplcjgonaaDoorAtom6
import Derived.Test.YtekdcmplcjgonaaDoorB1
set_option linter.unusedVariables false
set_option linter.unusedSimpArgs false
namespace Go.Proofs.YtekdcmplcjgonaaDoor
open Go.RowKit

/-- another place -/
def Un (A B : Option Addr) : Prop := ∀ a b, A = some a → B = some b → a.block ≠ b.block
/-- a row of the call's own, of terms, none of which lies in the row's own place -/
structure RowT (w : World) (base : Nat) (A : Option Addr) (k c : Nat) (Ts : List Tm) : Prop where
  len : Ts.length = k
  own : ∀ a, A = some a → base ≤ a.block ∧ a.block < w.heap.size
  rows : ∃ vs : List Value, Own0 w base 22 1 (.slice A k c) k vs ∧ ∀ (i : Nat) (T : Tm), Ts[i]? = some T → ∃ A' n' c', vs[i]? = some (.slice A' n' c') ∧ IsC w A' n' c' T.flat ∧ Un A A' ∧ (∀ a, A' = some a → a.block < w.heap.size)
section
variable {w w' : World} {base : Nat} {A : Option Addr} {k c : Nat} {Ts : List Tm}
theorem RowT.nil (A : Option Addr) (h : ∀ a, A = some a → base ≤ a.block ∧ a.block < w.heap.size) : RowT w base A 0 0 [] := ⟨rfl, h, [], .inl ⟨A, rfl, rfl, rfl⟩, by simp⟩
theorem RowT.below (h : RowT w base A k c Ts) (hb : Below w.heap.size w w') : RowT w' base A k c Ts := by
  obtain ⟨vs, h1, h2⟩ := h.rows
  exact ⟨h.len, fun a ha => ⟨(h.own a ha).1, Nat.lt_of_lt_of_le (h.own a ha).2 hb.size⟩, vs, h1.below hb, fun i T hi => by obtain ⟨A', n', c', h3, h4, h5, h6⟩ := h2 i T hi; exact ⟨A', n', c', h3, h4.below hb, h5, fun a ha => Nat.lt_of_lt_of_le (h6 a ha) hb.size⟩⟩
theorem RowT.cc (h : RowT w base A k c Ts) : IsCC w A k c (Ts.map Tm.flat) := by
  obtain ⟨vs, h1, h2⟩ := h.rows
  refine ⟨by rw [List.length_map, h.len], vs, h1.sl (by omega), fun i t hi => ?_⟩
  rw [List.getElem?_map] at hi
  obtain ⟨T, hT, rfl⟩ := Option.map_eq_some_iff.1 hi
  obtain ⟨A', n', c', h3, h4, _⟩ := h2 i T hT
  exact ⟨A', n', c', h3, h4⟩
theorem isC_lt {w : World} {A : Option Addr} {n c : Nat} {T : Tm} (h : IsC w A n c T.flat) : ∀ a, A = some a → a.block < w.heap.size := by
  obtain ⟨b, off, rfl, hb, _⟩ := h.at_ (flat_get0 T)
  intro a ha
  cases ha
  exact hb
/-- a term more -/
theorem RowT.snoc {A2 A' : Option Addr} {n' c' c2 : Nat} {vs : List Value} {T : Tm} (hl : Ts.length = k) (hown : w'.ownsRow base 22 1 (.slice A2 (k + 1) c2) (k + 1) (vs ++ [.slice A' n' c'])) (hap : Apart w w' A A2)
    (h2 : ∀ (i : Nat) (T : Tm), Ts[i]? = some T → ∃ A' n' c', vs[i]? = some (.slice A' n' c') ∧ IsC w A' n' c' T.flat ∧ Un A A' ∧ (∀ a, A' = some a → a.block < w.heap.size)) (hT : IsC w A' n' c' T.flat) (hu : Un A A') : RowT w' base A2 (k + 1) c2 (Ts ++ [T]) := by
  have hvl : vs.length = k := by have := hown.1; simp at this; omega
  have key : ∀ {A' : Option Addr} {n' c' : Nat} {T : Tm}, IsC w A' n' c' T.flat → Un A A' → (∀ a, A' = some a → a.block < w.heap.size) → IsC w' A' n' c' T.flat ∧ Un A2 A' ∧ (∀ a, A' = some a → a.block < w'.heap.size) := by
    intro A' n' c' T h h3 h4
    refine ⟨h.apart hap h3, fun a b ha hb => ?_, fun a ha => Nat.lt_of_lt_of_le (h4 a ha) hap.size⟩
    rcases (hap.blk a ha).2 with ⟨a0, ha0, e⟩ | h5
    · rw [e]; exact h3 a0 b ha0 hb
    · have := h4 b hb; omega
  refine ⟨by simp [hl], fun a ha => Own0.lt hown a ha, _, .inr hown, fun i U hi => ?_⟩
  rw [List.getElem?_append] at hi
  split at hi
  · rename_i hlt
    obtain ⟨A', n', c', e, hc, h5, h6⟩ := h2 i U hi
    exact ⟨A', n', c', by rw [List.getElem?_append_left (by omega)]; exact e, key hc h5 h6⟩
  · rename_i hlt
    have := (List.getElem?_eq_some_iff.1 hi).1
    simp at this
    obtain rfl : i = Ts.length := by omega
    simp at hi
    subst hi
    exact ⟨A', n', c', by rw [hl, ← hvl]; simp, key hT hu (isC_lt hT)⟩
theorem RowT.at_ (h : RowT w base A k c Ts) {i : Nat} {T : Tm} (hi : Ts[i]? = some T) : ∃ b off A' n' c', A = some ⟨b, off, none⟩ ∧ b < w.heap.size ∧ w.cell? ⟨b, off + i, none⟩ = some (.slice A' n' c') ∧ IsC w A' n' c' T.flat :=
  h.cc.at_ (by rw [List.getElem?_map, hi]; rfl)
/-- what a maker leaves lies not in a row of the call's own -/
theorem RowT.un (h : RowT w base A k c Ts) {A0 A' : Option Addr} {n0 : Nat} (hat : At0 w A0 n0 A') (h0 : 0 < n0 → ∀ a, A0 = some a → a.block < base) : Un A A' := by
  intro a b ha hb'
  have h3 := h.own a ha
  rcases hat b hb' with ⟨h4, h5⟩ | h4
  · have := h0 h5 b h4; omega
  · omega
end
/-- a literal of rows -/
theorem cc_lit {w : World} (vs : List Value) {ts : List (List C)} (hl : vs.length = ts.length) (hn : ts.length ≤ 1000) (h : ∀ (i : Nat) (t : List C), ts[i]? = some t → ∃ A n c, vs[i]? = some (.slice A n c) ∧ IsC w A n c t) :
    IsCC (w.alloc (.cells vs.toArray 22)) (some ⟨w.heap.size, 0, none⟩) ts.length ts.length ts := by
  have hb : Below w.heap.size w (w.alloc (.cells vs.toArray 22)) := (Below.refl _ _).alloc (Nat.le_refl _) _
  refine ⟨rfl, vs, Sl.lit w w.heap.size vs 22 1 ts.length rfl (by omega) (by simp [maxLen]; omega), fun i t hi => ?_⟩
  obtain ⟨A, n, c, e, hc⟩ := h i t hi
  exact ⟨A, n, c, e, hc.below hb⟩
theorem cc_one {w : World} {A : Option Addr} {n c : Nat} {t : List C} (h : IsC w A n c t) : IsCC (w.alloc (.cells #[.slice A n c] 22)) (some ⟨w.heap.size, 0, none⟩) 1 1 [t] :=
  cc_lit (ts := [t]) [.slice A n c] rfl (by simp) fun i u hi => by
    match i, hi with
    | 0, hi => simp at hi; subst hi; exact ⟨A, n, c, rfl, h⟩
theorem cc_two {w : World} {A B : Option Addr} {n c m d : Nat} {t u : List C} (h : IsC w A n c t) (h' : IsC w B m d u) : IsCC (w.alloc (.cells #[.slice A n c, .slice B m d] 22)) (some ⟨w.heap.size, 0, none⟩) 2 2 [t, u] :=
  cc_lit (ts := [t, u]) [.slice A n c, .slice B m d] rfl (by simp) fun i x hi => by
    match i, hi with
    | 0, hi => simp at hi; subst hi; exact ⟨A, n, c, rfl, h⟩
    | 1, hi => simp at hi; subst hi; exact ⟨B, m, d, rfl, h'⟩
theorem rMakeT_any (s : ByteArray) (A : Option Addr) (n cap : Nat) (Ts : List Tm) (w : World) (h : IsCC w A n cap (Ts.map Tm.flat)) (hs : okName s = true) (hl : Ts.length ≤ 6) (hok : oks Ts = true) (hsz : 1 + sizes Ts ≤ 200) :
    Calls Tryd.prog 34 #[.string s, .slice A n cap] w (RetC w (Tm.f s Ts).flat) := by
  have hfl : ((Ts.map Tm.flat)).flatten.length = sizes Ts := by rw [← flats_flatten, flats_size]
  have hn := h.len
  rw [List.length_map] at hn
  have h12 := okName_le hs
  have hT : (Tm.f s Ts).ok = true := by simp [Tm.ok, hs, hok, hl]
  have hrow : mkRow s (Ts.map Tm.flat) = (Tm.f s Ts).flat := by
    show (⟨3, s, ((Ts.map Tm.flat).length : Int)⟩ : C) :: (Ts.map Tm.flat).flatten = _
    rw [Tm.flat, flats_flatten, List.length_map]
  have hall : (Ts.map Tm.flat).all rightB = true := by
    rw [List.all_eq_true]
    intro t ht
    obtain ⟨U, hU, rfl⟩ := List.mem_map.1 ht
    exact right_flat (ok_mem hok hU) (by have := size_mem hU; omega)
  have hmk : makeF s (Ts.map Tm.flat) = (Tm.f s Ts).flat := by
    rw [make_yes hall (by rw [hrow]; exact right_flat hT (by rw [Tm.size]; exact hsz)), hrow]
  rw [← hmk]
  exact rMake_any s A n cap _ w h (by omega) (by omega) (by simp [maxLen]; omega)
theorem prC_append : ∀ a b : List Tm, prC (a ++ b) = prC a ++ prC b
  | [], b => by simp [prC]
  | t :: a, b => by rw [List.cons_append, prC, prC, prC_append a b]; simp
theorem prA_snoc (Ts : List Tm) (T : Tm) : prA (Ts ++ [T]) = if Ts = [] then prT T else prA Ts ++ 44 :: prT T := by
  cases Ts with
  | nil => simp [prA, prC]
  | cons t ts => rw [List.cons_append, prA, prC_append, if_neg (by simp), prA]; simp [prC]
theorem prA_len (Ts : List Tm) (h : oks Ts = true) : (prA Ts).length ≤ 40 * sizes Ts + Ts.length := by
  cases Ts with
  | nil => simp [prA]
  | cons t ts =>
    have := prC_len (t :: ts) h
    rw [prC, List.length_cons] at this
    rw [prA]
    omega
end Go.Proofs.YtekdcmplcjgonaaDoor
