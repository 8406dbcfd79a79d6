/- Texts of this proof that belong together: words of memory, plain laws, short walks. -/
import Derived.Test.YtlndjooddkjnoaaB0
set_option linter.unusedVariables false
set_option linter.unusedSimpArgs false
/- Plain laws on depth and variables. No program in sight. -/
namespace Go.Proofs.Ytlndjooddkjnoaa
open Go.RowKit

/-! ### depth -/
theorem depthF_le (t : List C) : depthF t ≤ t.length := depthN_le _ _
theorem maxA_ge {d : List C → Nat} : ∀ (l : List (List C)) (m : Nat), m ≤ maxA d m l
  | [], _ => Nat.le_refl _
  | p :: l, m => by have := maxA_ge (d := d) l (max m (d p)); simp only [maxA]; omega
theorem maxA_mem {d : List C → Nat} : ∀ (l : List (List C)) (m : Nat), ∀ p ∈ l, d p ≤ maxA d m l
  | [], _ => by simp
  | q :: l, m => by
    intro p hp
    simp only [maxA]
    rcases List.mem_cons.1 hp with rfl | hp
    · have := maxA_ge (d := d) l (max m (d p)); omega
    · exact maxA_mem l _ p hp
theorem depthF_one {t : List C} (h : rightB t = true) : depthF t = 1 ↔ t.length = 1 := by
  match t, h with
  | [], h => simp [rightB] at h
  | c :: cs, h =>
    have he := depthF_eq h
    constructor
    · intro h1
      by_cases hk : c.kind = 3
      · have hs := (parts_splits h hk).flat.1
        cases hp : partsF (c :: cs) with
        | nil => rw [hp] at hs; simp at hs; simp [hs]
        | cons p l =>
          have hp1 : p ∈ partsF (c :: cs) := by rw [hp]; simp
          have := maxA_mem (d := depthF) (partsF (c :: cs)) 0 p hp1
          have h2 := depthF_eq (parts_right h hp1).1
          omega
      · rw [alone h hk]; rfl
    · intro h1
      have := depthF_le (c :: cs)
      omega

/-! ### variables -/
theorem varsA_nil (acc : List Int) : varsA acc [] = acc := rfl
theorem varsA_step (acc : List Int) (c : C) (cs : List C) : varsA acc (c :: cs) = if c.kind = 1 ∧ inI acc c.n = false then varsA (acc ++ [c.n]) cs else varsA acc cs := rfl
theorem varsA_append (p r : List C) : ∀ acc, varsA acc (p ++ r) = varsA (varsA acc p) r := by
  induction p with
  | nil => intro acc; rfl
  | cons c p ih =>
    intro acc
    rw [List.cons_append, varsA_step, varsA_step]
    split
    · exact ih _
    · exact ih _
/-- so many numbers more, each once -/
def mergeV : List Int → List Int → List Int
  | acc, [] => acc
  | acc, x :: l => if inI acc x then mergeV acc l else mergeV (acc ++ [x]) l
theorem mergeV_nil (acc : List Int) : mergeV acc [] = acc := rfl
theorem mergeV_step (acc : List Int) (x : Int) (l : List Int) : mergeV acc (x :: l) = if inI acc x then mergeV acc l else mergeV (acc ++ [x]) l := rfl
theorem inI_append (l : List Int) (x y : Int) : inI (l ++ [x]) y = (inI l y || x == y) := by simp [inI]
theorem mergeV_in (acc l : List Int) (y : Int) : inI (mergeV acc l) y = (inI acc y || inI l y) := by
  induction l generalizing acc with
  | nil => simp [mergeV, inI]
  | cons x l ih =>
    rw [mergeV_step]
    split
    · rename_i h
      rw [ih]
      unfold inI
      rw [List.any_cons]
      by_cases hxy : x = y
      · subst hxy
        have : (acc.any fun y => y == x) = true := h
        rw [this]; rfl
      · have : (x == y) = false := by simpa using hxy
        rw [this]; rfl
    · rw [ih, inI_append]
      unfold inI
      rw [List.any_cons, Bool.or_assoc]
theorem mergeV_snoc (acc l : List Int) (x : Int) : mergeV acc (l ++ [x]) = if inI (mergeV acc l) x then mergeV acc l else mergeV acc l ++ [x] := by
  induction l generalizing acc with
  | nil => rw [List.nil_append, mergeV_step, mergeV_nil, mergeV_nil]
  | cons y l ih =>
    rw [List.cons_append, mergeV_step, mergeV_step]
    split
    · exact ih _
    · exact ih _
theorem varsA_merge (cs : List C) : ∀ acc b, mergeV acc (varsA b cs) = varsA (mergeV acc b) cs := by
  induction cs with
  | nil => intro acc b; rfl
  | cons c cs ih =>
    intro acc b
    rw [varsA_step, varsA_step]
    by_cases hk : c.kind = 1
    · cases hb : inI b c.n
      · rw [if_pos ⟨hk, rfl⟩, ih, mergeV_snoc]
        cases hm : inI (mergeV acc b) c.n
        · rw [if_neg (by simp), if_pos ⟨hk, rfl⟩]
        · rw [if_pos rfl, if_neg (fun h => by cases h.2)]
      · have hm : inI (mergeV acc b) c.n = true := by rw [mergeV_in, hb]; simp
        rw [if_neg (fun h => by cases h.2), if_neg (fun h => by rw [hm] at h; cases h.2), ih]
    · rw [if_neg (fun h => hk h.1), if_neg (fun h => hk h.1), ih]
theorem varsA_part (acc : List Int) (p : List C) : varsA acc p = mergeV acc (varsF p) := by
  rw [varsF, varsA_merge]; rfl
theorem vars_flat (l : List (List C)) (acc : List Int) (k : Nat) (p : List C) (h : l[k]? = some p) : varsA acc (l.take (k + 1)).flatten = mergeV (varsA acc (l.take k).flatten) (varsF p) := by
  obtain ⟨hl, he⟩ := List.getElem?_eq_some_iff.1 h
  rw [List.take_succ_eq_append_getElem hl, he, List.flatten_append, varsA_append, ← varsA_part]
  simp
theorem vars_fun {c : C} (cs : List C) (hk : c.kind ≠ 1) : varsF (c :: cs) = varsF cs := by
  rw [varsF, varsA_step, if_neg (by simp [hk])]; rfl
theorem vars_in (cs : List C) : ∀ acc x, inI (varsA acc cs) x = (inI acc x || cs.any fun c => c.kind == 1 && c.n == x) := by
  induction cs with
  | nil => intro acc x; simp [varsA_nil]
  | cons c cs ih =>
    intro acc x
    rw [varsA_step]
    split
    · rename_i h
      rw [ih, inI_append, List.any_cons, h.1]
      simp [Bool.or_assoc]
    · rename_i h
      rw [ih, List.any_cons]
      by_cases hk : c.kind = 1
      · have hin : inI acc c.n = true := by
          cases hi : inI acc c.n
          · exact absurd ⟨hk, hi⟩ h
          · rfl
        by_cases hx : c.n = x
        · subst hx; rw [hin]; rfl
        · have : (c.n == x) = false := by simpa using hx
          rw [this, Bool.and_false, Bool.false_or]
      · have : (c.kind == 1) = false := by simpa using hk
        rw [this]; rfl
theorem ground_vars (t : List C) : groundF t = ((varsF t).length == 0) := by
  have h : ∀ (cs : List C) (acc : List Int), ((varsA acc cs).length == 0) = ((acc.length == 0) && !(cs.any fun c => c.kind == 1)) := by
    intro cs
    induction cs with
    | nil => intro acc; simp [varsA_nil]
    | cons c cs ih =>
      intro acc
      rw [varsA_step]
      split
      · rename_i h; rw [ih, List.any_cons, h.1]; simp
      · rename_i h
        rw [ih, List.any_cons]
        by_cases hk : c.kind = 1
        · have hin : inI acc c.n = true := by
            cases hi : inI acc c.n
            · exact absurd ⟨hk, hi⟩ h
            · rfl
          cases acc with
          | nil => simp [inI] at hin
          | cons a l => simp
        · have : (c.kind == 1) = false := by simp [hk]
          rw [this]; simp
  have := h t []
  simp at this
  simp only [groundF, varsF]
  rw [Bool.eq_iff_iff]
  simp [this]
end Go.Proofs.Ytlndjooddkjnoaa

/- Plain laws on terms whose variables are turned into others. No program in sight. -/
namespace Go.Proofs.Ytlndjooddkjnoaa
open Go.RowKit

def turnC (f : Int → Int) (c : C) : C := if c.kind = 1 then { c with n := f c.n } else c
theorem turnF_map (f : Int → Int) (t : List C) : turnF f t = t.map (turnC f) := rfl
theorem turnC_kind (f : Int → Int) (c : C) : (turnC f c).kind = c.kind := by unfold turnC; split <;> rfl
theorem turnC_ar (f : Int → Int) (c : C) : (turnC f c).ar = c.ar := by
  unfold turnC
  split
  · rename_i h; simp [C.ar, h]
  · rfl
theorem turnC_var {f : Int → Int} {c : C} (h : c.kind = 1) : turnC f c = { c with n := f c.n } := by simp [turnC, h]
theorem turnC_other {f : Int → Int} {c : C} (h : c.kind ≠ 1) : turnC f c = c := by simp [turnC, h]
theorem ok_var {c : C} (h : c.ok = true) (hk : c.kind = 1) : c.name.toList = [] ∧ 0 ≤ c.n ∧ c.n ≤ 999 := by
  unfold C.ok at h
  simpa [hk] using h
theorem turnC_ok {f : Int → Int} {c : C} (h : c.ok = true) (hf : c.kind = 1 → 0 ≤ f c.n ∧ f c.n ≤ 999) : (turnC f c).ok = true := by
  by_cases hk : c.kind = 1
  · rw [turnC_var hk]
    obtain ⟨h1, h2, h3⟩ := ok_var h hk
    obtain ⟨h4, h5⟩ := hf hk
    unfold C.ok
    simp [hk, h1, h4, h5]
  · rw [turnC_other hk]; exact h
theorem turnC_back {f : Int → Int} {c : C} (h : (turnC f c).ok = true) (hk : c.kind = 1) : 0 ≤ f c.n ∧ f c.n ≤ 999 := by
  rw [turnC_var hk] at h
  exact (ok_var h hk).2

theorem skip_turn {f : Int → Int} (cs : List C) : (∀ c ∈ cs, (turnC f c).ok = c.ok) → ∀ k, skip (cs.map (turnC f)) k = (skip cs k).map (List.map (turnC f)) := by
  induction cs with
  | nil => intro _ k; cases k <;> rfl
  | cons c cs ih =>
    intro h k
    cases k with
    | zero => rfl
    | succ k =>
      rw [List.map_cons, skip_cons, skip_cons, h c (by simp), turnC_ar]
      split
      · exact ih (fun d hd => h d (by simp [hd])) _
      · rfl
theorem skip_ok {cs : List C} : ∀ {k : Nat}, skip cs k = some [] → ∀ c ∈ cs, c.ok = true := by
  induction cs with
  | nil => simp
  | cons c cs ih =>
    intro k h d hd
    cases k with
    | zero => rw [skip_zero] at h; cases h
    | succ k =>
      rw [skip_cons] at h
      split at h
      · rename_i ho
        rcases List.mem_cons.1 hd with rfl | hd
        · exact ho
        · exact ih h d hd
      · cases h
theorem right_ok {t : List C} (h : rightB t = true) : ∀ c ∈ t, c.ok = true := skip_ok ((right_iff _).1 h).1
theorem right_var {t : List C} (h : rightB t = true) : ∀ c ∈ t, c.kind = 1 → 0 ≤ c.n ∧ c.n ≤ 999 := fun c hc hk => (ok_var (right_ok h c hc) hk).2
theorem turn_len (f : Int → Int) (t : List C) : (turnF f t).length = t.length := by simp [turnF]
theorem turn_right {f : Int → Int} {t : List C} (h : rightB t = true) (hf : ∀ c ∈ t, c.kind = 1 → 0 ≤ f c.n ∧ f c.n ≤ 999) : rightB (turnF f t) = true := by
  obtain ⟨h1, h2⟩ := (right_iff _).1 h
  have hok := skip_ok h1
  rw [right_iff, turn_len]
  refine ⟨?_, h2⟩
  rw [turnF_map, skip_turn t (fun c hc => by rw [hok c hc]; exact turnC_ok (hok c hc) (hf c hc)), h1]
  rfl
theorem turn_back {f : Int → Int} {t : List C} (h : rightB (turnF f t) = true) : ∀ c ∈ t, c.kind = 1 → 0 ≤ f c.n ∧ f c.n ≤ 999 := by
  intro c hc hk
  exact turnC_back (right_ok h (turnC f c) (List.mem_map.2 ⟨c, hc, rfl⟩)) hk

/-! ### parts and depth stay -/
theorem Splits.inv : ∀ {cs : List C} {k : Nat} {l : List (List C)}, Splits cs k l → (k = 0 ∧ cs = [] ∧ l = []) ∨ ∃ p r k' l', k = k' + 1 ∧ cs = p ++ r ∧ l = p :: l' ∧ skip p 1 = some [] ∧ Splits r k' l' := by
  intro cs k l h
  induction h with
  | nil => exact .inl ⟨rfl, rfl, rfl⟩
  | cons hp hr _ => exact .inr ⟨_, _, _, _, rfl, rfl, rfl, hp, hr⟩
theorem Splits.unique : ∀ {cs : List C} {k : Nat} {l : List (List C)}, Splits cs k l → ∀ {l'}, Splits cs k l' → l = l' := by
  intro cs k l h
  induction h with
  | nil =>
    intro l' h'
    rcases h'.inv with ⟨_, _, rfl⟩ | ⟨_, _, _, _, h, _⟩
    · rfl
    · cases h
  | cons hp hr ih =>
    intro l' h'
    rename_i p r k l
    rcases h'.inv with ⟨h, _, _⟩ | ⟨p', r', k', l'', hk, hcs, rfl, hp', hr'⟩
    · cases h
    · obtain rfl : k = k' := by omega
      have e1 := skip_append p r 1 hp
      have e2 := skip_append p' r' 1 hp'
      rw [hcs, e2] at e1
      injection e1 with e1
      subst e1
      have e3 : p = p' := List.append_cancel_right hcs
      subst e3
      rw [ih hr']
theorem Splits.turn {f : Int → Int} : ∀ {cs : List C} {k : Nat} {l : List (List C)}, Splits cs k l → (∀ c ∈ cs, (turnC f c).ok = c.ok) → Splits (cs.map (turnC f)) k (l.map (List.map (turnC f))) := by
  intro cs k l h
  induction h with
  | nil => intro _; exact .nil
  | cons hp hr ih =>
    rename_i p r k l
    intro hok
    rw [List.map_append, List.map_cons]
    refine .cons ?_ (ih fun c hc => hok c (List.mem_append.2 (.inr hc)))
    rw [skip_turn p (fun c hc => hok c (List.mem_append.2 (.inl hc))), hp]
    rfl
theorem parts_turn {f : Int → Int} {t : List C} (h : rightB t = true) (h' : rightB (turnF f t) = true) : partsF (turnF f t) = (partsF t).map (turnF f) := by
  match t, h, h' with
  | [], h, _ => simp [rightB] at h
  | c :: cs, h, h' =>
    have hok : ∀ d ∈ cs, (turnC f d).ok = d.ok := fun d hd => by
      rw [right_ok h d (by simp [hd])]
      exact right_ok h' (turnC f d) (List.mem_map.2 ⟨d, by simp [hd], rfl⟩)
    have hc : turnF f (c :: cs) = turnC f c :: cs.map (turnC f) := rfl
    rw [hc] at h' ⊢
    by_cases hk : c.kind = 3
    · have h1 := parts_splits h' (by rw [turnC_kind]; exact hk)
      rw [turnC_ar] at h1
      have h2 := (parts_splits h hk).turn hok
      exact h1.unique h2
    · rw [parts_other hk, parts_other (by rw [turnC_kind]; exact hk)]; rfl
theorem depthN_turn {f : Int → Int} : ∀ (n : Nat) (t : List C), rightB t = true → (∀ c ∈ t, c.kind = 1 → 0 ≤ f c.n ∧ f c.n ≤ 999) → depthN n (turnF f t) = depthN n t := by
  intro n
  induction n with
  | zero => intro t _ _; rfl
  | succ n ih =>
    intro t h hf
    have key : ∀ (l : List (List C)) (m : Nat), (∀ p ∈ l, depthN n (turnF f p) = depthN n p) → maxA (depthN n) m (l.map (turnF f)) = maxA (depthN n) m l := by
      intro l
      induction l with
      | nil => intro m _; rfl
      | cons p l ihl =>
        intro m hl
        simp only [List.map_cons, maxA]
        rw [hl p (by simp)]
        exact ihl _ fun q hq => hl q (by simp [hq])
    simp only [depthN]
    rw [parts_turn h (turn_right h hf), key]
    intro p hp
    refine ih p (parts_right h hp).1 fun c hc hk => hf c ?_ hk
    match t, h, hp with
    | d :: ds, h, hp =>
      by_cases hk3 : d.kind = 3
      · have hfl := (parts_splits h hk3).flat.1
        rw [← hfl]
        exact List.mem_cons_of_mem _ (List.mem_flatten.2 ⟨p, hp, hc⟩)
      · rw [parts_other hk3] at hp; cases hp
theorem depth_turn {f : Int → Int} {t : List C} (h : rightB t = true) (hf : ∀ c ∈ t, c.kind = 1 → 0 ≤ f c.n ∧ f c.n ≤ 999) : depthF (turnF f t) = depthF t := by
  unfold depthF
  rw [turn_len]
  exact depthN_turn _ _ h hf

/-! ### variables are turned -/
theorem inI_map {f : Int → Int} {P : Int → Prop} (hinj : ∀ x y, P x → P y → f x = f y → x = y) (l : List Int) (x : Int) (hl : ∀ y ∈ l, P y) (hx : P x) : inI (l.map f) (f x) = inI l x := by
  rw [Bool.eq_iff_iff, inI_iff, inI_iff, List.mem_map]
  constructor
  · rintro ⟨y, hy, he⟩
    rw [← hinj y x (hl y hy) hx he]
    exact hy
  · intro h; exact ⟨x, h, rfl⟩
theorem vars_turn {f : Int → Int} {P : Int → Prop} (hinj : ∀ x y, P x → P y → f x = f y → x = y) (cs : List C) : ∀ acc, (∀ y ∈ acc, P y) → (∀ c ∈ cs, c.kind = 1 → P c.n) → varsA (acc.map f) (turnF f cs) = (varsA acc cs).map f := by
  induction cs with
  | nil => intro acc _ _; rfl
  | cons c cs ih =>
    intro acc ha hc
    have e : turnF f (c :: cs) = turnC f c :: turnF f cs := rfl
    rw [e, varsA_step, varsA_step, turnC_kind]
    by_cases hk : c.kind = 1
    · have hP := hc c (by simp) hk
      have en : (turnC f c).n = f c.n := by rw [turnC_var hk]
      rw [en, inI_map hinj acc c.n ha hP]
      cases hi : inI acc c.n
      · rw [if_pos ⟨hk, rfl⟩, if_pos ⟨hk, rfl⟩]
        have := ih (acc ++ [c.n]) (fun y hy => by
          rcases List.mem_append.1 hy with hy | hy
          · exact ha y hy
          · simp at hy; subst hy; exact hP) fun d hd => hc d (by simp [hd])
        rw [List.map_append] at this
        exact this
      · rw [if_neg (fun h => by cases h.2), if_neg (fun h => by cases h.2)]
        exact ih acc ha fun d hd => hc d (by simp [hd])
    · rw [if_neg (fun h => hk h.1), if_neg (fun h => hk h.1)]
      exact ih acc ha fun d hd => hc d (by simp [hd])
theorem varsF_turn {f : Int → Int} {P : Int → Prop} (hinj : ∀ x y, P x → P y → f x = f y → x = y) (t : List C) (hc : ∀ c ∈ t, c.kind = 1 → P c.n) : varsF (turnF f t) = (varsF t).map f :=
  vars_turn hinj t [] (by simp) hc
theorem turn_congr {f g : Int → Int} {t : List C} (h : ∀ c ∈ t, c.kind = 1 → f c.n = g c.n) : turnF f t = turnF g t := by
  rw [turnF_map, turnF_map]
  apply List.map_congr_left
  intro c hc
  by_cases hk : c.kind = 1
  · rw [turnC_var hk, turnC_var hk, h c hc hk]
  · rw [turnC_other hk, turnC_other hk]
theorem turn_turn (f g : Int → Int) (t : List C) : turnF f (turnF g t) = turnF (fun x => f (g x)) t := by
  rw [turnF_map, turnF_map, turnF_map, List.map_map]
  apply List.map_congr_left
  intro c _
  by_cases hk : c.kind = 1
  · simp [turnC, hk]
  · simp [turnC, hk]
theorem turn_id {f : Int → Int} {t : List C} (h : ∀ c ∈ t, c.kind = 1 → f c.n = c.n) : turnF f t = t := by
  rw [turnF_map]
  conv => rhs; rw [← List.map_id t]
  apply List.map_congr_left
  intro c hc
  by_cases hk : c.kind = 1
  · rw [turnC_var hk, h c hc hk]; rfl
  · rw [turnC_other hk]; rfl
theorem mem_vars {t : List C} {x : Int} : x ∈ varsF t ↔ ∃ c ∈ t, c.kind = 1 ∧ c.n = x := by
  rw [← inI_iff, varsF, vars_in]
  simp [inI]

/-! ### places -/
theorem idx_get {l : List Int} : ∀ (k i : Nat) (x : Int), l.Nodup → l[i]? = some x → idxF (fun y => y == x) k l = ((k + i : Nat) : Int) := by
  induction l with
  | nil => intro k i x _ h; simp at h
  | cons y l ih =>
    intro k i x hn h
    rw [List.nodup_cons] at hn
    cases i with
    | zero => simp at h; subst h; simp [idxF]
    | succ i =>
      have h' : l[i]? = some x := by simpa using h
      have hne : (y == x) = false := by
        rw [beq_eq_false_iff_ne]
        rintro rfl
        exact hn.1 (List.mem_of_getElem? h')
      rw [idxF, if_neg (by rw [hne]; simp), ih (k + 1) i x hn.2 h']
      congr 1
      omega
theorem place_get {l : List Int} {i : Nat} {x : Int} (hn : l.Nodup) (h : l[i]? = some x) : placeI l x = i := by
  have := idx_get 0 i x hn h
  simpa [placeI] using this
theorem varsA_nodup (cs : List C) : ∀ acc : List Int, acc.Nodup → (varsA acc cs).Nodup := by
  induction cs with
  | nil => intro acc h; exact h
  | cons c cs ih =>
    intro acc h
    rw [varsA_step]
    split
    · rename_i hc
      refine ih _ ?_
      rw [List.nodup_append]
      refine ⟨h, by simp, ?_⟩
      intro a ha b hb hab
      simp at hb
      subst hb
      subst hab
      have := hc.2
      rw [← Bool.not_eq_true, inI_iff] at this
      exact this ha
    · exact ih acc h
theorem varsF_nodup (t : List C) : (varsF t).Nodup := varsA_nodup t [] (by simp)
theorem place_inj {l : List Int} (hn : l.Nodup) : ∀ x y, x ∈ l → y ∈ l → placeI l x = placeI l y → x = y := by
  intro x y hx hy h
  obtain ⟨i, hi⟩ := List.getElem?_of_mem hx
  obtain ⟨j, hj⟩ := List.getElem?_of_mem hy
  rw [place_get hn hi, place_get hn hj] at h
  obtain rfl : i = j := by omega
  rw [hi] at hj
  injection hj
theorem place_range {l : List Int} (hn : l.Nodup) {x : Int} (hx : x ∈ l) : 0 ≤ placeI l x ∧ placeI l x < l.length := by
  obtain ⟨i, hi⟩ := List.getElem?_of_mem hx
  have := (List.getElem?_eq_some_iff.1 hi).1
  rw [place_get hn hi]
  omega
theorem map_place {l : List Int} (hn : l.Nodup) : l.map (placeI l) = (List.range l.length).map Int.ofNat := by
  apply List.ext_getElem?
  intro i
  rw [List.getElem?_map, List.getElem?_map]
  by_cases hi : i < l.length
  · rw [List.getElem?_eq_getElem hi, List.getElem?_range hi]
    simp only [Option.map_some]
    rw [place_get hn (List.getElem?_eq_getElem hi)]
    rfl
  · rw [List.getElem?_eq_none (by omega), List.getElem?_eq_none (by simpa using hi)]; rfl
end Go.Proofs.Ytlndjooddkjnoaa
