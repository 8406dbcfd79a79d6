/- Texts of this proof that belong together: words of memory, plain laws, walks. -/
import Derived.Test.YtgipiplklaeplaaDoorA02
set_option linter.unusedVariables false
set_option linter.unusedSimpArgs false
namespace Go.Proofs.YtgipiplklaeplaaDoor
open Go.RowKit
theorem skip_prefix (cs : List C) : ∀ (k : Nat) (r : List C), skip cs k = some r → ∃ p, cs = p ++ r ∧ skip p k = some [] := by
  induction cs with
  | nil =>
    intro k r h
    cases k with
    | zero => simp [skip_zero] at h; exact ⟨[], by simp [h], rfl⟩
    | succ k => rw [skip_nil _ (by omega)] at h; cases h
  | cons c cs ih =>
    intro k r h
    cases k with
    | zero => rw [skip_zero] at h; injection h with h; exact ⟨[], by simp [h], rfl⟩
    | succ k =>
      rw [skip_cons] at h
      split at h
      · rename_i ho
        obtain ⟨p, h1, h2⟩ := ih _ _ h
        exact ⟨c :: p, by simp [h1], by rw [skip_cons, if_pos ho]; exact h2⟩
      · cases h
theorem skip_append (p r : List C) : ∀ k : Nat, skip p k = some [] → skip (p ++ r) k = some r := by
  induction p with
  | nil =>
    intro k h
    cases k with
    | zero => exact skip_zero r
    | succ k => rw [skip_nil _ (by omega)] at h; cases h
  | cons c p ih =>
    intro k h
    cases k with
    | zero => rw [skip_zero] at h; cases h
    | succ k =>
      rw [skip_cons] at h
      split at h
      · rename_i ho
        rw [List.cons_append, skip_cons, if_pos ho]
        exact ih _ h
      · cases h
theorem skip_pos {t : List C} (h : skip t 1 = some []) : 1 ≤ t.length := by
  cases t with
  | nil => rw [skip_nil _ (by omega)] at h; cases h
  | cons c t => simp
theorem endN_zero {t : List C} : endN t 0 = some t.length ↔ skip t 1 = some [] := by
  rw [endN_some]
  simp
  intro h
  have := skip_pos h
  omega
theorem right_iff (t : List C) : rightB t = true ↔ skip t 1 = some [] ∧ t.length ≤ 200 := by
  simp only [rightB, Bool.and_eq_true, decide_eq_true_eq, beq_iff_eq, endN_zero]
  constructor
  · rintro ⟨⟨_, h⟩, h'⟩; exact ⟨h', h⟩
  · rintro ⟨h', h⟩; exact ⟨⟨skip_pos h', h⟩, h'⟩
/-- 'l' are the parts, one behind the other, of what 'k' terms take up -/
inductive Splits : List C → Nat → List (List C) → Prop
  | nil : Splits [] 0 []
  | cons {p r : List C} {k : Nat} {l : List (List C)} : skip p 1 = some [] → Splits r k l → Splits (p ++ r) (k + 1) (p :: l)
theorem Splits.flat {cs : List C} {k : Nat} {l : List (List C)} (h : Splits cs k l) : l.flatten = cs ∧ l.length = k ∧ (∀ p ∈ l, skip p 1 = some []) ∧ skip cs k = some [] := by
  induction h with
  | nil => exact ⟨rfl, rfl, by simp, rfl⟩
  | cons hp _ ih =>
    obtain ⟨h1, h2, h3, h4⟩ := ih
    refine ⟨by simp [h1], by simp [h2], ?_, ?_⟩
    · intro q hq
      rcases List.mem_cons.1 hq with rfl | hq
      · exact hp
      · exact h3 q hq
    · rw [Nat.add_comm, skip_add, skip_append _ _ _ hp]
      exact h4
theorem partsA_splits (t : List C) : ∀ (k at_ : Nat), at_ ≤ t.length → skip (t.drop at_) k = some [] → Splits (t.drop at_) k (partsA t k at_) := by
  intro k
  induction k with
  | zero =>
    intro at_ hl h
    rw [skip_zero] at h
    injection h with h
    rw [h]
    exact .nil
  | succ k ih =>
    intro at_ hl h
    rw [show k + 1 = 1 + k by omega, skip_add] at h
    cases hs : skip (t.drop at_) 1 with
    | none => rw [hs] at h; cases h
    | some r =>
      rw [hs] at h
      obtain ⟨d, rfl, hd1, hd2⟩ := skip_suffix _ _ _ hs
      rw [List.drop_drop] at hs h
      have hd3 : at_ + d ≤ t.length := by simp at hd2; omega
      have he : endN t at_ = some (at_ + d) := endN_some.2 ⟨hs, by omega, hd3⟩
      obtain ⟨p, hp1, hp2⟩ := skip_prefix _ _ _ hs
      have hpl : p.length = d := by
        have := congrArg List.length hp1
        simp at this
        omega
      have htake : (t.drop at_).take (at_ + d - at_) = p := by
        rw [hp1, show at_ + d - at_ = p.length by omega]
        exact List.take_left
      have hpa : partsA t (k + 1) at_ = p :: partsA t k (at_ + d) := by simp only [partsA, he, htake]
      rw [hpa, hp1]
      exact .cons hp2 (ih (at_ + d) hd3 h)
theorem right_head {c : C} {cs : List C} (h : rightB (c :: cs) = true) : c.ok = true ∧ skip cs c.ar = some [] := by
  obtain ⟨h, _⟩ := (right_iff _).1 h
  rw [skip_cons] at h
  split at h
  · rename_i ho
    exact ⟨ho, by simpa using h⟩
  · cases h
theorem parts_splits {c : C} {cs : List C} (h : rightB (c :: cs) = true) (hk : c.kind = 3) : Splits cs c.ar (partsF (c :: cs)) := by
  obtain ⟨_, hs⟩ := right_head h
  have := partsA_splits (c :: cs) c.ar 1 (by simp) (by simpa using hs)
  simpa [partsF, hk, C.ar] using this
theorem parts_other {c : C} {cs : List C} (hk : c.kind ≠ 3) : partsF (c :: cs) = [] := by simp [partsF, hk]
theorem mem_length {l : List (List C)} {p : List C} (h : p ∈ l) : p.length ≤ l.flatten.length := by
  induction l with
  | nil => cases h
  | cons q l ih =>
    simp only [List.flatten_cons, List.length_append]
    rcases List.mem_cons.1 h with rfl | h
    · omega
    · have := ih h; omega
theorem parts_right {t p : List C} (h : rightB t = true) (hp : p ∈ partsF t) : rightB p = true ∧ p.length < t.length := by
  match t, h with
  | [], h => simp [partsF] at hp
  | c :: cs, h =>
    by_cases hk : c.kind = 3
    · have hs := parts_splits h hk
      obtain ⟨h1, h2, h3, _⟩ := hs.flat
      have hl := mem_length hp
      rw [h1] at hl
      have := ((right_iff _).1 h).2
      simp only [List.length_cons] at *
      exact ⟨(right_iff _).2 ⟨h3 p hp, by omega⟩, by omega⟩
    · rw [parts_other hk] at hp
      cases hp
end Go.Proofs.YtgipiplklaeplaaDoor
namespace Go.Proofs.YtgipiplklaeplaaDoor
open Go.RowKit
inductive Tm where
  | v (n : Int)
  | i (n : Int)
  | f (s : ByteArray) (asx : List Tm)
mutual
def Tm.flat : Tm → List C
  | .v n => [⟨1, ⟨#[]⟩, n⟩]
  | .i n => [⟨2, ⟨#[]⟩, n⟩]
  | .f s asx => ⟨3, s, asx.length⟩ :: flats asx
def flats : List Tm → List C
  | [] => []
  | t :: ts => t.flat ++ flats ts
end
mutual
def Tm.ok : Tm → Bool
  | .v n => decide (0 ≤ n) && decide (n ≤ 999)
  | .i n => decide (-2147483647 ≤ n) && decide (n ≤ 2147483647)
  | .f s asx => okName s && (decide (asx.length ≤ 6) && oks asx)
def oks : List Tm → Bool
  | [] => true
  | t :: ts => t.ok && oks ts
end
mutual
def Tm.size : Tm → Nat
  | .v _ => 1
  | .i _ => 1
  | .f _ asx => 1 + sizes asx
def sizes : List Tm → Nat
  | [] => 0
  | t :: ts => t.size + sizes ts
end
theorem flats_cons (t : Tm) (ts : List Tm) : flats (t :: ts) = t.flat ++ flats ts := rfl
theorem oks_cons (t : Tm) (ts : List Tm) : oks (t :: ts) = (t.ok && oks ts) := rfl
theorem sizes_cons (t : Tm) (ts : List Tm) : sizes (t :: ts) = t.size + sizes ts := rfl
theorem flats_append : ∀ a b : List Tm, flats (a ++ b) = flats a ++ flats b
  | [], b => rfl
  | t :: a, b => by rw [List.cons_append, flats_cons, flats_cons, flats_append a b, List.append_assoc]
theorem oks_append : ∀ a b : List Tm, oks (a ++ b) = (oks a && oks b)
  | [], b => by simp [oks]
  | t :: a, b => by rw [List.cons_append, oks_cons, oks_cons, oks_append a b, Bool.and_assoc]
theorem sizes_append : ∀ a b : List Tm, sizes (a ++ b) = sizes a + sizes b
  | [], b => by simp [sizes]
  | t :: a, b => by rw [List.cons_append, sizes_cons, sizes_cons, sizes_append a b, Nat.add_assoc]
theorem flats_flatten : ∀ asx : List Tm, flats asx = (asx.map Tm.flat).flatten
  | [] => rfl
  | t :: ts => by rw [flats_cons, List.map_cons, List.flatten_cons, flats_flatten ts]
theorem Tm.size_pos (t : Tm) : 1 ≤ t.size := by cases t <;> simp [Tm.size] <;> omega
mutual
theorem flat_size : ∀ t : Tm, t.flat.length = t.size
  | .v _ => rfl
  | .i _ => rfl
  | .f _ asx => by simp [Tm.flat, Tm.size, flats_size asx]; omega
theorem flats_size : ∀ ts : List Tm, (flats ts).length = sizes ts
  | [] => rfl
  | t :: ts => by rw [flats_cons, sizes_cons, List.length_append, flat_size t, flats_size ts]
end
theorem size_mem {t : Tm} : ∀ {asx : List Tm}, t ∈ asx → t.size ≤ sizes asx
  | a :: asx, h => by
    rw [sizes_cons]
    rcases List.mem_cons.1 h with rfl | h
    · omega
    · have := size_mem h; omega
theorem ok_mem {t : Tm} : ∀ {asx : List Tm}, oks asx = true → t ∈ asx → t.ok = true
  | a :: asx, h, hm => by
    rw [oks_cons, Bool.and_eq_true] at h
    rcases List.mem_cons.1 hm with rfl | hm
    · exact h.1
    · exact ok_mem h.2 hm
theorem length_sizes (asx : List Tm) : asx.length ≤ sizes asx := by
  induction asx with
  | nil => simp [sizes]
  | cons t ts ih => rw [sizes_cons, List.length_cons]; have := t.size_pos; omega
/-- the cell that a term begins with -/
def Tm.c0 : Tm → C
  | .v n => ⟨1, ⟨#[]⟩, n⟩
  | .i n => ⟨2, ⟨#[]⟩, n⟩
  | .f s asx => ⟨3, s, asx.length⟩
def Tm.args : Tm → List Tm
  | .f _ asx => asx
  | _ => []
theorem flat_cons (t : Tm) : t.flat = t.c0 :: flats t.args := by cases t <;> rfl
theorem flat_get0 (t : Tm) : t.flat[0]? = some t.c0 := by rw [flat_cons]; rfl
theorem empty_toList : (⟨#[]⟩ : ByteArray).toList = [] := by rw [ByteArray.toList_eq]
theorem c0_ok {t : Tm} (h : t.ok = true) : t.c0.ok = true := by
  cases t with
  | v n =>
    simp only [Tm.ok] at h
    simp only [Tm.c0, C.ok, if_true, empty_toList, decide_true, Bool.true_and]
    exact h
  | i n =>
    simp only [Tm.ok] at h
    have h21 : ¬ (2 : Int) = 1 := by decide
    simp only [Tm.c0, C.ok, if_neg h21, if_true, empty_toList, decide_true, Bool.true_and]
    exact h
  | f s asx =>
    simp only [Tm.ok, Bool.and_eq_true, decide_eq_true_eq] at h
    have h31 : ¬ (3 : Int) = 1 := by decide
    have h32 : ¬ (3 : Int) = 2 := by decide
    simp only [Tm.c0, C.ok, if_neg h31, if_neg h32, if_true, h.1, Bool.true_and, Bool.and_eq_true, decide_eq_true_eq]
    exact ⟨decide_eq_true (by omega), decide_eq_true (by omega)⟩
theorem c0_ar (t : Tm) : t.c0.ar = t.args.length := by cases t <;> simp [Tm.c0, C.ar, Tm.args]
theorem args_ok {t : Tm} (h : t.ok = true) : oks t.args = true := by
  cases t with
  | v n => rfl
  | i n => rfl
  | f s asx => simp [Tm.ok] at h; exact h.2.2
theorem args_len {t : Tm} (h : t.ok = true) : t.args.length ≤ 6 := by
  cases t with
  | v n => simp [Tm.args]
  | i n => simp [Tm.args]
  | f s asx => simp [Tm.ok] at h; exact h.2.1
theorem size_args (t : Tm) : t.size = 1 + sizes t.args := by cases t <;> simp [Tm.size, Tm.args, sizes]
theorem c0_name {c : C} (h : c.ok = true) (hk : c.kind ≠ 3) : c.name = ⟨#[]⟩ := by
  have hn : c.name.toList = [] := by
    unfold C.ok at h
    by_cases h1 : c.kind = 1
    · simp [h1] at h; exact h.1
    · by_cases h2 : c.kind = 2
      · simp [h2] at h; exact h.1
      · simp [h1, h2, hk] at h
  rw [ByteArray.toList_eq] at hn
  obtain ⟨k, ⟨⟨x⟩⟩, n⟩ := c
  simp at hn
  simp [hn]
theorem c0_kind {c : C} (h : c.ok = true) : c.kind = 1 ∨ c.kind = 2 ∨ c.kind = 3 := by
  unfold C.ok at h
  by_cases h1 : c.kind = 1
  · exact .inl h1
  · by_cases h2 : c.kind = 2
    · exact .inr (.inl h2)
    · by_cases h3 : c.kind = 3
      · exact .inr (.inr h3)
      · simp [h1, h2, h3] at h
/-- passing over trees -/
theorem skip_flats : ∀ (N : Nat) (ts : List Tm), sizes ts ≤ N → oks ts = true → ∀ (r : List C) (k : Nat), skip (flats ts ++ r) (ts.length + k) = skip r k := by
  intro N
  induction N with
  | zero =>
    intro ts hs _ r k
    cases ts with
    | nil => simp [flats]
    | cons t ts => rw [sizes_cons] at hs; have := t.size_pos; omega
  | succ N ih =>
    intro ts hs ho r k
    cases ts with
    | nil => simp [flats]
    | cons t ts =>
      rw [sizes_cons, size_args] at hs
      rw [oks_cons, Bool.and_eq_true] at ho
      rw [flats_cons, flat_cons, List.cons_append, List.cons_append, show (t :: ts).length + k = (ts.length + k) + 1 by simp; omega, skip_cons, if_pos (c0_ok ho.1), c0_ar]
      rw [show ts.length + k + t.args.length = (t.args ++ ts).length + k by simp; omega, List.append_assoc, ← List.append_assoc, ← flats_append]
      exact ih (t.args ++ ts) (by rw [sizes_append]; omega) (by rw [oks_append, args_ok ho.1, ho.2]; rfl) r k
theorem tree_of : ∀ (N : Nat) (t : List C), t.length ≤ N → ∀ k, skip t k = some [] → ∃ Ts : List Tm, Ts.length = k ∧ oks Ts = true ∧ flats Ts = t := by
  intro N
  induction N with
  | zero =>
    intro t ht k h
    have : t = [] := List.eq_nil_of_length_eq_zero (by omega)
    subst this
    cases k with
    | zero => exact ⟨[], rfl, rfl, rfl⟩
    | succ k => rw [skip_nil _ (by omega)] at h; cases h
  | succ N ih =>
    intro t ht k h
    cases t with
    | nil =>
      cases k with
      | zero => exact ⟨[], rfl, rfl, rfl⟩
      | succ k => rw [skip_nil _ (by omega)] at h; cases h
    | cons c cs =>
      cases k with
      | zero => rw [skip_zero] at h; cases h
      | succ k =>
        rw [skip_cons] at h
        split at h
        · rename_i hc
          obtain ⟨Us, h1, h2, h3⟩ := ih cs (by simp at ht; omega) _ h
          rw [← List.take_append_drop c.ar Us, oks_append, Bool.and_eq_true] at h2
          have hf : flats (Us.take c.ar) ++ flats (Us.drop c.ar) = cs := by rw [← flats_append, List.take_append_drop]; exact h3
          have hl : (Us.take c.ar).length = c.ar := by rw [List.length_take]; omega
          have hl' : (Us.drop c.ar).length = k := by rw [List.length_drop]; omega
          have key : ∃ T : Tm, T.ok = true ∧ T.flat = c :: flats (Us.take c.ar) := by
            by_cases hk : c.kind = 3
            · refine ⟨.f c.name (Us.take c.ar), ?_, ?_⟩
              · have h6 := ok_fun hc hk
                have har := ar_fun hc hk
                have hn : okName c.name = true := by
                  unfold C.ok at hc
                  simp [hk] at hc
                  exact hc.1
                simp only [Tm.ok, hn, h2.1, Bool.and_true, Bool.true_and, decide_eq_true_eq]
                omega
              · have har := ar_fun hc hk
                simp only [Tm.flat, hl, har]
                congr 1
                obtain ⟨q, s, n⟩ := c
                simp at hk ⊢
                exact hk.symm
            · have ha := ar_other hk
              rw [ha] at *
              have hn := c0_name hc hk
              rw [List.take_zero]
              rcases c0_kind hc with h1 | h1 | h1
              · refine ⟨.v c.n, ?_, ?_⟩
                · unfold C.ok at hc; simp [h1] at hc; simp [Tm.ok, hc.2]
                · obtain ⟨q, s, n⟩ := c
                  simp at h1 hn
                  subst h1 hn
                  rfl
              · refine ⟨.i c.n, ?_, ?_⟩
                · unfold C.ok at hc; simp [h1] at hc; simp [Tm.ok, hc.2]
                · obtain ⟨q, s, n⟩ := c
                  simp at h1 hn
                  subst h1 hn
                  rfl
              · exact absurd h1 hk
          obtain ⟨T, ht1, ht2⟩ := key
          exact ⟨T :: Us.drop c.ar, by simp [hl'], by rw [oks_cons, ht1, h2.2]; rfl, by rw [flats_cons, ht2, List.cons_append, hf]⟩
        · cases h
theorem right_flat {T : Tm} (h : T.ok = true) (hs : T.size ≤ 200) : rightB T.flat = true := by
  rw [right_iff, flat_size]
  refine ⟨?_, hs⟩
  have := skip_flats (sizes [T]) [T] (Nat.le_refl _) (by simp [oks, h]) [] 0
  simpa [flats, skip_zero] using this
theorem right_tree {t : List C} (h : rightB t = true) : ∃ T : Tm, T.ok = true ∧ T.flat = t ∧ T.size ≤ 200 := by
  obtain ⟨h1, h2⟩ := (right_iff t).1 h
  obtain ⟨Ts, a1, a2, a3⟩ := tree_of t.length t (Nat.le_refl _) 1 h1
  match Ts, a1 with
  | [T], _ =>
    have a3' : T.flat = t := by simpa [flats] using a3
    exact ⟨T, by simpa [oks] using a2, a3', by rw [← flat_size, a3']; exact h2⟩
/-- rows of terms with the same cells, and asx many, are the same -/
theorem same_rows : ∀ (a b : List (List C)), a.length = b.length → (∀ p ∈ a, skip p 1 = some []) → (∀ p ∈ b, skip p 1 = some []) → a.flatten = b.flatten → a = b
  | [], [], _, _, _, _ => rfl
  | [], _ :: _, h, _, _, _ => by simp at h
  | _ :: _, [], h, _, _, _ => by simp at h
  | p :: a, q :: b, h, ha, hb, he => by
    rw [List.flatten_cons, List.flatten_cons] at he
    have h1 := skip_append p a.flatten 1 (ha p (by simp))
    have h2 := skip_append q b.flatten 1 (hb q (by simp))
    rw [he, h2] at h1
    injection h1 with h1
    have hpq : p = q := by
      have := congrArg List.length he
      rw [h1] at he
      exact (List.append_cancel_right he)
    rw [hpq, same_rows a b (by simpa using h) (fun x hx => ha x (by simp [hx])) (fun x hx => hb x (by simp [hx])) h1.symm]
theorem parts_flat {T : Tm} (h : T.ok = true) (hs : T.size ≤ 200) : partsF T.flat = T.args.map Tm.flat := by
  have hr := right_flat h hs
  have hfc := flat_cons T
  by_cases hk : T.c0.kind = 3
  · rw [hfc] at hr
    have hsp := parts_splits hr hk
    rw [hfc]
    refine same_rows _ _ ?_ ?_ ?_ ?_
    · rw [hsp.flat.2.1, c0_ar, List.length_map]
    · intro p hp
      exact ((right_iff p).1 (parts_right hr hp).1).1
    · intro p hp
      obtain ⟨U, hU, rfl⟩ := List.mem_map.1 hp
      have := skip_flats (sizes [U]) [U] (Nat.le_refl _) (by simp [oks, ok_mem (args_ok h) hU]) [] 0
      simpa [flats, skip_zero] using this
    · rw [← flats_flatten]; exact hsp.flat.1
  · have ha : T.args = [] := by cases T <;> first | rfl | exact absurd rfl hk
    rw [hfc, parts_other hk, ha]; rfl
end Go.Proofs.YtgipiplklaeplaaDoor
namespace Go.Proofs.YtgipiplklaeplaaDoor
open Go.RowKit
/-- the slot at a place -/
def sAt (l : List C) (p : Nat) : C := (l[p]?).getD ⟨0, ⟨#[]⟩, 0⟩
theorem sAt_get {l : List C} {p : Nat} {c : C} (h : l[p]? = some c) : sAt l p = c := by simp [sAt, h]
theorem sAt_past {l : List C} {p : Nat} (h : l.length ≤ p) : sAt l p = ⟨0, ⟨#[]⟩, 0⟩ := by simp [sAt, List.getElem?_eq_none h]
theorem sAt_some {l : List C} {p : Nat} (h : p < l.length) : l[p]? = some (sAt l p) := by simp [sAt, h]
/-- a place that leads on, as one of a chain: a bound variable, a pointer -/
def onB (l : List C) (p : Nat) : Bool := ((sAt l p).kind == 1 && !((sAt l p).n == (p : Int))) || (sAt l p).kind == 3
def nx (l : List C) (p : Nat) : Nat := (sAt l p).n.toNat
def leads (l : List C) (p : Nat) : List Nat :=
  if onB l p then [nx l p] else if (sAt l p).kind = 4 then (List.range (sAt l p).n.toNat).map (fun i => p + 1 + i) else []
/-- nothing goes round -/
def Ac (l : List C) : Prop := ∃ rk : Nat → Nat, ∀ p, ∀ q ∈ leads l p, rk q < rk p
def okSl (l : List C) (p : Nat) (c : C) : Bool :=
  if c.kind = 1 then c.name.toList == [] && (decide (0 ≤ c.n) && decide (c.n < l.length))
  else if c.kind = 2 then c.name.toList == [] && (decide (-2147483647 ≤ c.n) && decide (c.n ≤ 2147483647))
  else if c.kind = 3 then c.name.toList == [] && ((decide (0 ≤ c.n) && decide (c.n < l.length)) && (sAt l c.n.toNat).kind == 4)
  else if c.kind = 4 then (decide (0 ≤ c.n) && decide (c.n ≤ 6)) && (decide ((p : Int) + c.n < l.length) && (okName c.name && !((List.range c.n.toNat).any fun i => (sAt l (p + 1 + i)).kind == 4)))
  else false
def shpB (l : List C) : Bool := (List.range l.length).all fun p => okSl l p (sAt l p)
theorem toList_nil {s : ByteArray} (h : s.toList = []) : s = ⟨#[]⟩ := by
  rw [ByteArray.toList_eq] at h
  obtain ⟨⟨x⟩⟩ := s
  simp at h
  simp [h]
theorem shp_at {l : List C} (h : shpB l = true) {p : Nat} (hp : p < l.length) : okSl l p (sAt l p) = true := by
  unfold shpB at h
  rw [List.all_eq_true] at h
  exact h p (by simpa using hp)
theorem shp_mk {l : List C} (h : ∀ p, p < l.length → okSl l p (sAt l p) = true) : shpB l = true := by
  unfold shpB
  rw [List.all_eq_true]
  exact fun p hp => h p (by simpa using hp)
theorem ok_ref {l : List C} {p : Nat} {c : C} (h : okSl l p c = true) (k : c.kind = 1) : c.name = ⟨#[]⟩ ∧ 0 ≤ c.n ∧ c.n < l.length := by
  simp only [okSl, if_pos k, Bool.and_eq_true, beq_iff_eq, decide_eq_true_eq] at h
  exact ⟨toList_nil h.1, h.2.1, h.2.2⟩
theorem ok_num {l : List C} {p : Nat} {c : C} (h : okSl l p c = true) (k : c.kind = 2) : c.name = ⟨#[]⟩ ∧ -2147483647 ≤ c.n ∧ c.n ≤ 2147483647 := by
  have k1 : ¬ c.kind = 1 := by omega
  simp only [okSl, if_neg k1, if_pos k, Bool.and_eq_true, beq_iff_eq, decide_eq_true_eq] at h
  exact ⟨toList_nil h.1, h.2.1, h.2.2⟩
theorem ok_ptr {l : List C} {p : Nat} {c : C} (h : okSl l p c = true) (k : c.kind = 3) : c.name = ⟨#[]⟩ ∧ 0 ≤ c.n ∧ c.n < l.length ∧ (sAt l c.n.toNat).kind = 4 := by
  have k1 : ¬ c.kind = 1 := by omega
  have k2 : ¬ c.kind = 2 := by omega
  simp only [okSl, if_neg k1, if_neg k2, if_pos k, Bool.and_eq_true, beq_iff_eq, decide_eq_true_eq] at h
  exact ⟨toList_nil h.1, h.2.1.1, h.2.1.2, h.2.2⟩
theorem ok_top {l : List C} {p : Nat} {c : C} (h : okSl l p c = true) (k : c.kind = 4) : 0 ≤ c.n ∧ c.n ≤ 6 ∧ (p : Int) + c.n < l.length ∧ okName c.name = true ∧ ∀ i, i < c.n.toNat → (sAt l (p + 1 + i)).kind ≠ 4 := by
  have k1 : ¬ c.kind = 1 := by omega
  have k2 : ¬ c.kind = 2 := by omega
  have k3 : ¬ c.kind = 3 := by omega
  simp only [okSl, if_neg k1, if_neg k2, if_neg k3, if_pos k, Bool.and_eq_true, decide_eq_true_eq, Bool.not_eq_true', List.any_eq_false, List.mem_range, beq_iff_eq] at h
  exact ⟨h.1.1, h.1.2, h.2.1, h.2.2.1, h.2.2.2⟩
theorem ok_kind {l : List C} {p : Nat} {c : C} (h : okSl l p c = true) : c.kind = 1 ∨ c.kind = 2 ∨ c.kind = 3 ∨ c.kind = 4 := by
  by_cases k1 : c.kind = 1
  · exact .inl k1
  · by_cases k2 : c.kind = 2
    · exact .inr (.inl k2)
    · by_cases k3 : c.kind = 3
      · exact .inr (.inr (.inl k3))
      · by_cases k4 : c.kind = 4
        · exact .inr (.inr (.inr k4))
        · simp [okSl, k1, k2, k3, k4] at h
theorem on_ref {l : List C} {p : Nat} (h : (sAt l p).kind = 1) : onB l p = !((sAt l p).n == (p : Int)) := by simp [onB, h]
theorem on_num {l : List C} {p : Nat} (h : (sAt l p).kind = 2) : onB l p = false := by simp [onB, h]
theorem on_ptr {l : List C} {p : Nat} (h : (sAt l p).kind = 3) : onB l p = true := by simp [onB, h]
theorem on_top {l : List C} {p : Nat} (h : (sAt l p).kind = 4) : onB l p = false := by simp [onB, h]
theorem on_kind {l : List C} {p : Nat} (h : onB l p = true) : (sAt l p).kind = 1 ∧ (sAt l p).n ≠ p ∨ (sAt l p).kind = 3 := by
  simpa [onB] using h
theorem on_lt {l : List C} {p : Nat} (h : onB l p = true) : p < l.length := by
  by_cases hp : p < l.length
  · exact hp
  · rw [onB, sAt_past (by omega)] at h; simp at h
theorem nx_lt {l : List C} (hs : shpB l = true) {p : Nat} (h : onB l p = true) : nx l p < l.length := by
  have ho := shp_at hs (on_lt h)
  unfold nx
  rcases on_kind h with ⟨k, _⟩ | k
  · have := ok_ref ho k; omega
  · have := ok_ptr ho k; omega
theorem leads_on {l : List C} {p : Nat} (h : onB l p = true) : leads l p = [nx l p] := by simp [leads, h]
theorem leads_top {l : List C} {p : Nat} (h : (sAt l p).kind = 4) : leads l p = (List.range (sAt l p).n.toNat).map (fun i => p + 1 + i) := by simp [leads, on_top h, h]
theorem leads_no {l : List C} {p : Nat} (h : onB l p = false) (h4 : (sAt l p).kind ≠ 4) : leads l p = [] := by simp [leads, h, h4]
theorem leads_lt {l : List C} (hs : shpB l = true) {p q : Nat} (h : q ∈ leads l p) : q < l.length := by
  cases ho : onB l p
  · by_cases h4 : (sAt l p).kind = 4
    · rw [leads_top h4] at h
      obtain ⟨i, hi, rfl⟩ := List.mem_map.1 h
      have hp : p < l.length := by
        by_cases hp : p < l.length
        · exact hp
        · rw [sAt_past (by omega)] at h4; simp at h4
      have := ok_top (shp_at hs hp) h4
      simp at hi
      omega
    · rw [leads_no ho h4] at h; cases h
  · rw [leads_on ho] at h
    simp at h
    subst h
    exact nx_lt hs ho
theorem leads_past {l : List C} {p : Nat} (h : l.length ≤ p) : leads l p = [] := leads_no (by simp [onB, sAt_past h]) (by simp [sAt_past h])
theorem filter_lt {α : Type} (P Q : α → Bool) : ∀ (l : List α), (∀ x ∈ l, P x = true → Q x = true) → ∀ x ∈ l, Q x = true → P x = false → (l.filter P).length < (l.filter Q).length
  | [], _, x, hx, _, _ => by cases hx
  | a :: l, h, x, hx, hq, hp => by
    have hle : ∀ (l : List α), (∀ x ∈ l, P x = true → Q x = true) → (l.filter P).length ≤ (l.filter Q).length := by
      intro l h
      induction l with
      | nil => simp
      | cons b l ih =>
        have ih' := ih (fun x hx => h x (by simp [hx]))
        have hb := h b (by simp)
        cases hpb : P b
        · cases hqb : Q b <;> simp [List.filter_cons, hpb, hqb] <;> omega
        · simp [List.filter_cons, hpb, hb hpb]; omega
    rcases List.mem_cons.1 hx with rfl | hx
    · have := hle l (fun y hy => h y (by simp [hy]))
      simp [List.filter_cons, hp, hq]; omega
    · have ih := filter_lt P Q l (fun y hy => h y (by simp [hy])) x hx hq hp
      have ha := h a (by simp)
      cases hpa : P a
      · cases hqa : Q a <;> simp [List.filter_cons, hpa, hqa] <;> omega
      · simp [List.filter_cons, hpa, ha hpa]; omega
theorem Ac.bounded {l : List C} (h : Ac l) : ∃ rk : Nat → Nat, (∀ p, p < l.length → rk p < l.length) ∧ ∀ p q, q < l.length → q ∈ leads l p → rk q < rk p := by
  obtain ⟨rk, hr⟩ := h
  refine ⟨fun p => ((List.range l.length).filter fun q => decide (rk q < rk p)).length, fun p hp => ?_, fun p q hq hm => ?_⟩
  · have := filter_lt (fun q => decide (rk q < rk p)) (fun _ => true) (List.range l.length) (fun _ _ _ => rfl) p (by simpa using hp) rfl (by simp)
    rw [List.filter_eq_self.2 (fun _ _ => rfl), List.length_range] at this
    exact this
  · have h1 := hr p q hm
    exact filter_lt _ _ _ (fun x _ hx => by simp at hx ⊢; omega) q (by simpa using hq) (by simpa using h1) (by simp)
def folN (l : List C) : Nat → Nat → Nat
  | 0, p => p
  | k + 1, p => if onB l p then folN l k (nx l p) else p
def fol (l : List C) (p : Nat) : Nat := folN l l.length p
structure Good (l : List C) : Prop where
  shp : shpB l = true
  ac : Ac l
theorem folN_stop {l : List C} {rk : Nat → Nat} (hs : shpB l = true) (hr : ∀ p q, q < l.length → q ∈ leads l p → rk q < rk p) : ∀ (k p : Nat), p < l.length → rk p ≤ k → onB l (folN l k p) = false ∧ folN l k p < l.length
  | 0, p, hp, hk => by
    refine ⟨?_, hp⟩
    show onB l p = false
    cases ho : onB l p
    · rfl
    · have := hr p (nx l p) (nx_lt hs ho) (by rw [leads_on ho]; simp)
      omega
  | k + 1, p, hp, hk => by
    unfold folN
    cases ho : onB l p
    · simp [ho, hp]
    · have := hr p (nx l p) (nx_lt hs ho) (by rw [leads_on ho]; simp)
      simpa using folN_stop hs hr k (nx l p) (nx_lt hs ho) (by omega)
theorem folN_eq {l : List C} {rk : Nat → Nat} (hs : shpB l = true) (hr : ∀ p q, q < l.length → q ∈ leads l p → rk q < rk p) : ∀ (k k' p : Nat), rk p ≤ k → rk p ≤ k' → folN l k p = folN l k' p
  | 0, 0, p, _, _ => rfl
  | 0, k' + 1, p, hk, _ => by
    unfold folN
    cases ho : onB l p
    · simp
    · have := hr p (nx l p) (nx_lt hs ho) (by rw [leads_on ho]; simp)
      omega
  | k + 1, 0, p, _, hk => by
    unfold folN
    cases ho : onB l p
    · simp
    · have := hr p (nx l p) (nx_lt hs ho) (by rw [leads_on ho]; simp)
      omega
  | k + 1, k' + 1, p, hk, hk' => by
    unfold folN
    cases ho : onB l p
    · simp
    · have := hr p (nx l p) (nx_lt hs ho) (by rw [leads_on ho]; simp)
      simpa using folN_eq hs hr k k' (nx l p) (by omega) (by omega)
theorem Good.fol_end {l : List C} (h : Good l) {p : Nat} (hp : p < l.length) : onB l (fol l p) = false ∧ fol l p < l.length := by
  obtain ⟨rk, h1, h2⟩ := h.ac.bounded
  exact folN_stop h.shp h2 _ p hp (by have := h1 p hp; omega)
theorem fol_here {l : List C} {p : Nat} (h : onB l p = false) : fol l p = p := by
  unfold fol
  cases l.length <;> simp [folN, h]
theorem Good.fol_step {l : List C} (h : Good l) {p : Nat} (ho : onB l p = true) : fol l p = fol l (nx l p) := by
  obtain ⟨rk, h1, h2⟩ := h.ac.bounded
  have hp := on_lt ho
  have hlt := h2 p (nx l p) (nx_lt h.shp ho) (by rw [leads_on ho]; simp)
  have hb := h1 p hp
  unfold fol
  obtain ⟨n, hn⟩ : ∃ n, l.length = n + 1 := ⟨l.length - 1, by omega⟩
  rw [hn]
  have : folN l (n + 1) p = folN l n (nx l p) := by simp [folN, ho]
  rw [this]
  exact folN_eq h.shp h2 n (n + 1) _ (by omega) (by omega)
theorem Good.fol_fol {l : List C} (h : Good l) {p : Nat} (hp : p < l.length) : fol l (fol l p) = fol l p := fol_here (h.fol_end hp).1
/-- what is where a place leads in the end -/
theorem Good.fol_kind {l : List C} (h : Good l) {p : Nat} (hp : p < l.length) : (sAt l (fol l p)).kind = 1 ∧ (sAt l (fol l p)).n = fol l p ∨ (sAt l (fol l p)).kind = 2 ∨ (sAt l (fol l p)).kind = 4 := by
  obtain ⟨h1, h2⟩ := h.fol_end hp
  rcases ok_kind (shp_at h.shp h2) with k | k | k | k
  · refine .inl ⟨k, ?_⟩
    rw [on_ref k] at h1
    simpa using h1
  · exact .inr (.inl k)
  · rw [on_ptr k] at h1; cases h1
  · exact .inr (.inr k)
inductive Path (l : List C) : Nat → Nat → Prop
  | refl (p : Nat) : Path l p p
  | step {p q r : Nat} : q ∈ leads l p → Path l q r → Path l p r
theorem Path.trans {l : List C} {p q r : Nat} (h : Path l p q) (h' : Path l q r) : Path l p r := by
  induction h with
  | refl => exact h'
  | step hq _ ih => exact .step hq (ih h')
theorem Path.snoc {l : List C} {p q r : Nat} (h : Path l p q) (h' : r ∈ leads l q) : Path l p r := h.trans (.step h' (.refl _))
theorem Path.lt {l : List C} (hs : shpB l = true) {p q : Nat} (h : Path l p q) (hp : p < l.length) : q < l.length := by
  induction h with
  | refl => exact hp
  | step hq _ ih => exact ih (leads_lt hs hq)
def rchN (l : List C) : Nat → Nat → Nat → Bool
  | 0, p, q => p == q
  | k + 1, p, q => p == q || (leads l p).any fun r => rchN l k r q
def rch (l : List C) (p q : Nat) : Bool := rchN l l.length p q
theorem rchN_path {l : List C} : ∀ (k p q : Nat), rchN l k p q = true → Path l p q
  | 0, p, q, h => by simp [rchN] at h; subst h; exact .refl _
  | k + 1, p, q, h => by
    simp only [rchN, Bool.or_eq_true, beq_iff_eq, List.any_eq_true] at h
    rcases h with rfl | ⟨r, hr, h⟩
    · exact .refl _
    · exact .step hr (rchN_path k r q h)
theorem rchN_of {l : List C} {rk : Nat → Nat} (hs : shpB l = true) (hr : ∀ p q, q < l.length → q ∈ leads l p → rk q < rk p) {p q : Nat} (h : Path l p q) : ∀ k, rk p ≤ k → rchN l k p q = true := by
  induction h with
  | refl p => intro k _; cases k <;> simp [rchN]
  | step hq h ih =>
    intro k hk
    have := hr _ _ (leads_lt hs hq) hq
    cases k with
    | zero => omega
    | succ k =>
      simp only [rchN, Bool.or_eq_true, List.any_eq_true]
      exact .inr ⟨_, hq, ih k (by omega)⟩
theorem Good.rch_iff {l : List C} (h : Good l) {p q : Nat} (hp : p < l.length) : rch l p q = true ↔ Path l p q := by
  obtain ⟨rk, h1, h2⟩ := h.ac.bounded
  exact ⟨rchN_path _ p q, fun hh => rchN_of h.shp h2 hh _ (by have := h1 p hp; omega)⟩
theorem Good.rch_no {l : List C} (h : Good l) {p q : Nat} (hp : p < l.length) : rch l p q = false ↔ ¬ Path l p q := by
  rw [← h.rch_iff hp, Bool.not_eq_true]
def bnd (l : List C) (p q : Nat) : List C := l.set p { sAt l p with n := q }
theorem bnd_len (l : List C) (p q : Nat) : (bnd l p q).length = l.length := by simp [bnd]
theorem bnd_other {l : List C} {p q r : Nat} (h : r ≠ p) : sAt (bnd l p q) r = sAt l r := by
  unfold sAt bnd
  rw [List.getElem?_set_ne (by omega)]
theorem bnd_self {l : List C} {p q : Nat} (h : p < l.length) : sAt (bnd l p q) p = { sAt l p with n := (q : Int) } := by
  conv => lhs; unfold sAt bnd
  rw [List.getElem?_set_self h]; rfl
theorem bnd_kind {l : List C} {p q r : Nat} (h : p < l.length) : (sAt (bnd l p q) r).kind = (sAt l r).kind := by
  by_cases e : r = p
  · subst e; rw [bnd_self h]
  · rw [bnd_other e]
/-- a free variable -/
structure Free1 (l : List C) (p : Nat) : Prop where
  lt : p < l.length
  kind : (sAt l p).kind = 1
  own : (sAt l p).n = p
theorem Free1.on {l : List C} {p : Nat} (h : Free1 l p) : onB l p = false := by rw [on_ref h.kind, h.own]; simp
theorem Free1.leads {l : List C} {p : Nat} (h : Free1 l p) : leads l p = [] := leads_no h.on (by rw [h.kind]; decide)
theorem bnd_on_other {l : List C} {p q r : Nat} (h : r ≠ p) : onB (bnd l p q) r = onB l r := by unfold onB; rw [bnd_other h]
theorem bnd_leads_other {l : List C} {p q r : Nat} (h : r ≠ p) : leads (bnd l p q) r = leads l r := by unfold leads nx; rw [bnd_on_other h, bnd_other h]
theorem bnd_on_self {l : List C} {p q : Nat} (h : Free1 l p) (hq : q ≠ p) : onB (bnd l p q) p = true := by
  rw [on_ref (by rw [bnd_kind h.lt, h.kind]), bnd_self h.lt]
  simp; omega
theorem bnd_leads_self {l : List C} {p q : Nat} (h : Free1 l p) (hq : q ≠ p) : leads (bnd l p q) p = [q] := by
  rw [leads_on (bnd_on_self h hq), nx, bnd_self h.lt]; simp
theorem Good.bind {l : List C} (h : Good l) {p q : Nat} (hf : Free1 l p) (hq : q < l.length) (hn : ¬ Path l q p) : Good (bnd l p q) := by
  have hne : q ≠ p := by rintro rfl; exact hn (.refl _)
  refine ⟨shp_mk fun r hr => ?_, ?_⟩
  · rw [bnd_len] at hr
    have ho := shp_at h.shp hr
    by_cases e : r = p
    · subst e
      obtain ⟨h1, h2, h3⟩ := ok_ref ho hf.kind
      rw [bnd_self hr]
      simp only [okSl, hf.kind, if_true, h1, bnd_len]
      simp [empty_toList]
      omega
    · rw [bnd_other e]
      have : okSl (bnd l p q) r (sAt l r) = okSl l r (sAt l r) := by
        unfold okSl
        simp only [bnd_len, bnd_kind hf.lt]
      rw [this]; exact ho
  · classical
    obtain ⟨rk, hr⟩ := h.ac
    refine ⟨fun r => if Path l r p then rk r + rk q + 1 else rk r, fun r s hs => ?_⟩
    by_cases e : r = p
    · subst e
      rw [bnd_leads_self hf hne] at hs
      simp at hs
      subst hs
      simp only [if_neg hn, if_pos (Path.refl (l := l) r)]
      omega
    · rw [bnd_leads_other e] at hs
      have h1 := hr r s hs
      by_cases hs' : Path l s p
      · simp only [if_pos hs', if_pos (Path.step hs hs')]; omega
      · simp only [if_neg hs']
        split <;> omega
end Go.Proofs.YtgipiplklaeplaaDoor
