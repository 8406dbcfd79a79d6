/- Terms as trees, and their rows of cells. No program in sight. -/
import Derived.Test.YtdeaeiolehglaaaPart
set_option linter.unusedVariables false
set_option linter.unusedSimpArgs false
namespace Go.Proofs.Ytdeaeiolehglaaa
open Go.RowKit

inductive Tm where
  | v (n : Int)
  | i (n : Int)
  | f (s : ByteArray) (as : List Tm)
mutual
def Tm.flat : Tm → List C
  | .v n => [⟨1, ⟨#[]⟩, n⟩]
  | .i n => [⟨2, ⟨#[]⟩, n⟩]
  | .f s as => ⟨3, s, as.length⟩ :: flats as
def flats : List Tm → List C
  | [] => []
  | t :: ts => t.flat ++ flats ts
end
mutual
def Tm.ok : Tm → Bool
  | .v n => decide (0 ≤ n) && decide (n ≤ 999)
  | .i n => decide (-2147483647 ≤ n) && decide (n ≤ 2147483647)
  | .f s as => okName s && (decide (as.length ≤ 6) && oks as)
def oks : List Tm → Bool
  | [] => true
  | t :: ts => t.ok && oks ts
end
mutual
def Tm.size : Tm → Nat
  | .v _ => 1
  | .i _ => 1
  | .f _ as => 1 + sizes as
def sizes : List Tm → Nat
  | [] => 0
  | t :: ts => t.size + sizes ts
end
theorem flats_nil : flats [] = [] := rfl
theorem flats_cons (t : Tm) (ts : List Tm) : flats (t :: ts) = t.flat ++ flats ts := rfl
theorem oks_cons (t : Tm) (ts : List Tm) : oks (t :: ts) = (t.ok && oks ts) := rfl
theorem sizes_cons (t : Tm) (ts : List Tm) : sizes (t :: ts) = t.size + sizes ts := rfl
theorem flats_append : ∀ a b : List Tm, flats (a ++ b) = flats a ++ flats b
  | [], b => rfl
  | t :: a, b => by rw [List.cons_append, flats_cons, flats_cons, flats_append a b, List.append_assoc]
theorem oks_append : ∀ a b : List Tm, oks (a ++ b) = (oks a && oks b)
  | [], b => by simp [oks]
  | t :: a, b => by rw [List.cons_append, oks_cons, oks_cons, oks_append a b, Bool.and_assoc]
theorem sizes_append : ∀ a b : List Tm, sizes (a ++ b) = sizes a + sizes b
  | [], b => by simp [sizes]
  | t :: a, b => by rw [List.cons_append, sizes_cons, sizes_cons, sizes_append a b, Nat.add_assoc]
theorem flats_flatten : ∀ as : List Tm, flats as = (as.map Tm.flat).flatten
  | [] => rfl
  | t :: ts => by rw [flats_cons, List.map_cons, List.flatten_cons, flats_flatten ts]
theorem Tm.size_pos (t : Tm) : 1 ≤ t.size := by cases t <;> simp [Tm.size] <;> omega
mutual
theorem flat_size : ∀ t : Tm, t.flat.length = t.size
  | .v _ => rfl
  | .i _ => rfl
  | .f _ as => by simp [Tm.flat, Tm.size, flats_size as]; omega
theorem flats_size : ∀ ts : List Tm, (flats ts).length = sizes ts
  | [] => rfl
  | t :: ts => by rw [flats_cons, sizes_cons, List.length_append, flat_size t, flats_size ts]
end
theorem size_mem {t : Tm} : ∀ {as : List Tm}, t ∈ as → t.size ≤ sizes as
  | a :: as, h => by
    rw [sizes_cons]
    rcases List.mem_cons.1 h with rfl | h
    · omega
    · have := size_mem h; omega
theorem ok_mem {t : Tm} : ∀ {as : List Tm}, oks as = true → t ∈ as → t.ok = true
  | a :: as, h, hm => by
    rw [oks_cons, Bool.and_eq_true] at h
    rcases List.mem_cons.1 hm with rfl | hm
    · exact h.1
    · exact ok_mem h.2 hm
theorem length_sizes (as : List Tm) : as.length ≤ sizes as := by
  induction as with
  | nil => simp [sizes]
  | cons t ts ih => rw [sizes_cons, List.length_cons]; have := t.size_pos; omega

/-- the cell that a term begins with -/
def Tm.c0 : Tm → C
  | .v n => ⟨1, ⟨#[]⟩, n⟩
  | .i n => ⟨2, ⟨#[]⟩, n⟩
  | .f s as => ⟨3, s, as.length⟩
def Tm.args : Tm → List Tm
  | .f _ as => as
  | _ => []
theorem flat_cons (t : Tm) : t.flat = t.c0 :: flats t.args := by cases t <;> rfl
theorem flat_get0 (t : Tm) : t.flat[0]? = some t.c0 := by rw [flat_cons]; rfl
theorem empty_toList : (⟨#[]⟩ : ByteArray).toList = [] := by rw [ByteArray.toList_eq]
theorem c0_ok {t : Tm} (h : t.ok = true) : t.c0.ok = true := by
  cases t with
  | v n =>
    simp only [Tm.ok] at h
    simp only [Tm.c0, C.ok, if_true, empty_toList, decide_true, Bool.true_and]
    exact h
  | i n =>
    simp only [Tm.ok] at h
    have h21 : ¬ (2 : Int) = 1 := by decide
    simp only [Tm.c0, C.ok, if_neg h21, if_true, empty_toList, decide_true, Bool.true_and]
    exact h
  | f s as =>
    simp only [Tm.ok, Bool.and_eq_true, decide_eq_true_eq] at h
    have h31 : ¬ (3 : Int) = 1 := by decide
    have h32 : ¬ (3 : Int) = 2 := by decide
    simp only [Tm.c0, C.ok, if_neg h31, if_neg h32, if_true, h.1, Bool.true_and, Bool.and_eq_true, decide_eq_true_eq]
    exact ⟨decide_eq_true (by omega), decide_eq_true (by omega)⟩
theorem c0_ar (t : Tm) : t.c0.ar = t.args.length := by cases t <;> simp [Tm.c0, C.ar, Tm.args]
theorem args_ok {t : Tm} (h : t.ok = true) : oks t.args = true := by
  cases t with
  | v n => rfl
  | i n => rfl
  | f s as => simp [Tm.ok] at h; exact h.2.2
theorem args_len {t : Tm} (h : t.ok = true) : t.args.length ≤ 6 := by
  cases t with
  | v n => simp [Tm.args]
  | i n => simp [Tm.args]
  | f s as => simp [Tm.ok] at h; exact h.2.1
theorem size_args (t : Tm) : t.size = 1 + sizes t.args := by cases t <;> simp [Tm.size, Tm.args, sizes]
theorem c0_name {c : C} (h : c.ok = true) (hk : c.kind ≠ 3) : c.name = ⟨#[]⟩ := by
  have hn : c.name.toList = [] := by
    unfold C.ok at h
    by_cases h1 : c.kind = 1
    · simp [h1] at h; exact h.1
    · by_cases h2 : c.kind = 2
      · simp [h2] at h; exact h.1
      · simp [h1, h2, hk] at h
  rw [ByteArray.toList_eq] at hn
  obtain ⟨k, ⟨⟨x⟩⟩, n⟩ := c
  simp at hn
  simp [hn]
theorem c0_kind {c : C} (h : c.ok = true) : c.kind = 1 ∨ c.kind = 2 ∨ c.kind = 3 := by
  unfold C.ok at h
  by_cases h1 : c.kind = 1
  · exact .inl h1
  · by_cases h2 : c.kind = 2
    · exact .inr (.inl h2)
    · by_cases h3 : c.kind = 3
      · exact .inr (.inr h3)
      · simp [h1, h2, h3] at h

/-- passing over trees -/
theorem skip_flats : ∀ (N : Nat) (ts : List Tm), sizes ts ≤ N → oks ts = true → ∀ (r : List C) (k : Nat), skip (flats ts ++ r) (ts.length + k) = skip r k := by
  intro N
  induction N with
  | zero =>
    intro ts hs _ r k
    cases ts with
    | nil => simp [flats]
    | cons t ts => rw [sizes_cons] at hs; have := t.size_pos; omega
  | succ N ih =>
    intro ts hs ho r k
    cases ts with
    | nil => simp [flats]
    | cons t ts =>
      rw [sizes_cons, size_args] at hs
      rw [oks_cons, Bool.and_eq_true] at ho
      rw [flats_cons, flat_cons, List.cons_append, List.cons_append, show (t :: ts).length + k = (ts.length + k) + 1 by simp; omega, skip_cons, if_pos (c0_ok ho.1), c0_ar]
      rw [show ts.length + k + t.args.length = (t.args ++ ts).length + k by simp; omega, List.append_assoc, ← List.append_assoc, ← flats_append]
      exact ih (t.args ++ ts) (by rw [sizes_append]; omega) (by rw [oks_append, args_ok ho.1, ho.2]; rfl) r k
theorem tree_of : ∀ (N : Nat) (t : List C), t.length ≤ N → ∀ k, skip t k = some [] → ∃ Ts : List Tm, Ts.length = k ∧ oks Ts = true ∧ flats Ts = t := by
  intro N
  induction N with
  | zero =>
    intro t ht k h
    have : t = [] := List.eq_nil_of_length_eq_zero (by omega)
    subst this
    cases k with
    | zero => exact ⟨[], rfl, rfl, rfl⟩
    | succ k => rw [skip_nil _ (by omega)] at h; cases h
  | succ N ih =>
    intro t ht k h
    cases t with
    | nil =>
      cases k with
      | zero => exact ⟨[], rfl, rfl, rfl⟩
      | succ k => rw [skip_nil _ (by omega)] at h; cases h
    | cons c cs =>
      cases k with
      | zero => rw [skip_zero] at h; cases h
      | succ k =>
        rw [skip_cons] at h
        split at h
        · rename_i hc
          obtain ⟨Us, h1, h2, h3⟩ := ih cs (by simp at ht; omega) _ h
          rw [← List.take_append_drop c.ar Us, oks_append, Bool.and_eq_true] at h2
          have hf : flats (Us.take c.ar) ++ flats (Us.drop c.ar) = cs := by rw [← flats_append, List.take_append_drop]; exact h3
          have hl : (Us.take c.ar).length = c.ar := by rw [List.length_take]; omega
          have hl' : (Us.drop c.ar).length = k := by rw [List.length_drop]; omega
          have key : ∃ T : Tm, T.ok = true ∧ T.flat = c :: flats (Us.take c.ar) := by
            by_cases hk : c.kind = 3
            · refine ⟨.f c.name (Us.take c.ar), ?_, ?_⟩
              · have h6 := ok_fun hc hk
                have har := ar_fun hc hk
                have hn : okName c.name = true := by
                  unfold C.ok at hc
                  simp [hk] at hc
                  exact hc.1
                simp only [Tm.ok, hn, h2.1, Bool.and_true, Bool.true_and, decide_eq_true_eq]
                omega
              · have har := ar_fun hc hk
                simp only [Tm.flat, hl, har]
                congr 1
                obtain ⟨q, s, n⟩ := c
                simp at hk ⊢
                exact hk.symm
            · have ha := ar_other hk
              rw [ha] at *
              have hn := c0_name hc hk
              rw [List.take_zero]
              rcases c0_kind hc with h1 | h1 | h1
              · refine ⟨.v c.n, ?_, ?_⟩
                · unfold C.ok at hc; simp [h1] at hc; simp [Tm.ok, hc.2]
                · obtain ⟨q, s, n⟩ := c
                  simp at h1 hn
                  subst h1 hn
                  rfl
              · refine ⟨.i c.n, ?_, ?_⟩
                · unfold C.ok at hc; simp [h1] at hc; simp [Tm.ok, hc.2]
                · obtain ⟨q, s, n⟩ := c
                  simp at h1 hn
                  subst h1 hn
                  rfl
              · exact absurd h1 hk
          obtain ⟨T, ht1, ht2⟩ := key
          exact ⟨T :: Us.drop c.ar, by simp [hl'], by rw [oks_cons, ht1, h2.2]; rfl, by rw [flats_cons, ht2, List.cons_append, hf]⟩
        · cases h
theorem right_flat {T : Tm} (h : T.ok = true) (hs : T.size ≤ 200) : rightB T.flat = true := by
  rw [right_iff, flat_size]
  refine ⟨?_, hs⟩
  have := skip_flats (sizes [T]) [T] (Nat.le_refl _) (by simp [oks, h]) [] 0
  simpa [flats, skip_zero] using this
theorem right_tree {t : List C} (h : rightB t = true) : ∃ T : Tm, T.ok = true ∧ T.flat = t ∧ T.size ≤ 200 := by
  obtain ⟨h1, h2⟩ := (right_iff t).1 h
  obtain ⟨Ts, a1, a2, a3⟩ := tree_of t.length t (Nat.le_refl _) 1 h1
  match Ts, a1 with
  | [T], _ =>
    have a3' : T.flat = t := by simpa [flats] using a3
    exact ⟨T, by simpa [oks] using a2, a3', by rw [← flat_size, a3']; exact h2⟩

/-- rows of terms with the same cells, and as many, are the same -/
theorem same_rows : ∀ (a b : List (List C)), a.length = b.length → (∀ p ∈ a, skip p 1 = some []) → (∀ p ∈ b, skip p 1 = some []) → a.flatten = b.flatten → a = b
  | [], [], _, _, _, _ => rfl
  | [], _ :: _, h, _, _, _ => by simp at h
  | _ :: _, [], h, _, _, _ => by simp at h
  | p :: a, q :: b, h, ha, hb, he => by
    rw [List.flatten_cons, List.flatten_cons] at he
    have h1 := skip_append p a.flatten 1 (ha p (by simp))
    have h2 := skip_append q b.flatten 1 (hb q (by simp))
    rw [he, h2] at h1
    injection h1 with h1
    have hpq : p = q := by
      have := congrArg List.length he
      rw [h1] at he
      exact (List.append_cancel_right he)
    rw [hpq, same_rows a b (by simpa using h) (fun x hx => ha x (by simp [hx])) (fun x hx => hb x (by simp [hx])) h1.symm]
theorem parts_flat {T : Tm} (h : T.ok = true) (hs : T.size ≤ 200) : partsF T.flat = T.args.map Tm.flat := by
  have hr := right_flat h hs
  have hfc := flat_cons T
  by_cases hk : T.c0.kind = 3
  · rw [hfc] at hr
    have hsp := parts_splits hr hk
    rw [hfc]
    refine same_rows _ _ ?_ ?_ ?_ ?_
    · rw [hsp.flat.2.1, c0_ar, List.length_map]
    · intro p hp
      exact ((right_iff p).1 (parts_right hr hp).1).1
    · intro p hp
      obtain ⟨U, hU, rfl⟩ := List.mem_map.1 hp
      have := skip_flats (sizes [U]) [U] (Nat.le_refl _) (by simp [oks, ok_mem (args_ok h) hU]) [] 0
      simpa [flats, skip_zero] using this
    · rw [← flats_flatten]; exact hsp.flat.1
  · have ha : T.args = [] := by cases T <;> first | rfl | exact absurd rfl hk
    rw [hfc, parts_other hk, ha]; rfl
end Go.Proofs.Ytdeaeiolehglaaa
