/- Texts of this proof that belong together: words of memory, plain laws, walks. -/
import Derived.Test.YtgipiplklaeplaaDoorB01
set_option linter.unusedVariables false
set_option linter.unusedSimpArgs false
namespace Go.Proofs.YtgipiplklaeplaaDoor
open Go.RowKit
structure IsG {α : Type} (R : World → α → List Value → Prop) (k : Nat) (w : World) (A : Option Addr) (n cap : Nat) (xs : List α) : Prop where
 len : xs.length = n
 rows : ∃ vs : List (List Value), vs.length = xs.length ∧ (∀ v ∈ vs, v.length = k) ∧ Sl w k A n cap vs.flatten ∧ ∀ (i : Nat) (x : α) (v : List Value), xs[i]? = some x → vs[i]? = some v → R w x v
def Keeps {α : Type} (R : World → α → List Value → Prop) : Prop := ∀ w w' x v, R w x v → Below w.heap.size w w' → R w' x v
theorem flatten_len {k : Nat} : ∀ {vs : List (List Value)}, (∀ v ∈ vs, v.length = k) → vs.flatten.length = vs.length * k
 | [], _ => by simp
 | v :: vs, h => by
  rw [List.flatten_cons, List.length_append, h v (by simp), flatten_len (fun u hu => h u (by simp [hu])), List.length_cons, Nat.succ_mul]; omega
theorem flatten_get {k : Nat} : ∀ {vs : List (List Value)} {i j : Nat} {v : List Value} {u : Value}, (∀ v ∈ vs, v.length = k) → vs[i]? = some v → v[j]? = some u → vs.flatten[i * k + j]? = some u
 | [], i, j, v, u, _, hi, _ => by simp at hi
 | v0 :: vs, i, j, v, u, h, hi, hj => by
  have h0 := h v0 (by simp)
  rw [List.flatten_cons]
  cases i with
  | zero =>
   simp at hi
   subst hi
   have := (List.getElem?_eq_some_iff.1 hj).1
   rw [Nat.zero_mul, Nat.zero_add, List.getElem?_append_left this, hj]
  | succ i =>
   have hi' : vs[i]? = some v := by simpa using hi
   have hj' := (List.getElem?_eq_some_iff.1 hj).1
   rw [List.getElem?_append_right (by rw [Nat.succ_mul]; omega), show (i + 1) * k + j - v0.length = i * k + j by rw [Nat.succ_mul]; omega]
   exact flatten_get (fun u hu => h u (by simp [hu])) hi' hj
section
variable {α : Type} {R : World → α → List Value → Prop} {k : Nat} {w w' : World} {A : Option Addr} {n cap : Nat} {xs : List α}
theorem IsG.below (hR : Keeps R) (h : IsG R k w A n cap xs) (hb : Below w.heap.size w w') : IsG R k w' A n cap xs := by
 obtain ⟨vs, h1, h2, h3, h4⟩ := h.rows
 exact ⟨h.len, vs, h1, h2, h3.below hb, fun i x v hx hv => hR _ _ _ _ (h4 i x v hx hv) hb⟩
theorem IsG.cap_le (h : IsG R k w A n cap xs) : n ≤ cap ∧ cap ≤ maxLen := by
 obtain ⟨vs, h1, h2, h3, h4⟩ := h.rows
 exact ⟨h3.hcap, h3.hmax⟩
theorem IsG.get (h : IsG R k w A n cap xs) {i : Nat} (hi : i < n) : ∃ x, xs[i]? = some x := ⟨_, List.getElem?_eq_getElem (by have := h.len; omega)⟩
theorem IsG.at_ (h : IsG R k w A n cap xs) {i : Nat} {x : α} (hx : xs[i]? = some x) :
  ∃ b off v, A = some ⟨b, off, none⟩ ∧ b < w.heap.size ∧ v.length = k ∧ R w x v ∧ ∀ j u, v[j]? = some u → w.cell? ⟨b, off + i * k + j, none⟩ = some u := by
 have hlt : i < xs.length := (List.getElem?_eq_some_iff.1 hx).1
 obtain ⟨vs, h1, h2, h3, h4⟩ := h.rows
 obtain ⟨v, hv⟩ : ∃ v, vs[i]? = some v := ⟨_, List.getElem?_eq_getElem (by omega)⟩
 obtain ⟨b, off, rfl, hb, hc⟩ := h3.cells (by have := h.len; omega)
 exact ⟨b, off, v, rfl, hb, h2 v (List.mem_of_getElem? hv), h4 i x v hx hv, fun j u hu => by rw [Nat.add_assoc]; exact hc _ _ (flatten_get h2 hv hu)⟩
theorem IsG.nil (hc : cap ≤ maxLen) : IsG R k w A 0 cap [] := ⟨rfl, [], rfl, by simp, ⟨by simp, Nat.zero_le _, hc, fun h => absurd h (by omega)⟩, by simp⟩
theorem IsG.own {base : Nat} {e : TypeId} {vs : List (List Value)} (h : w.ownsRow base e k (.slice A n cap) n vs.flatten) (hk : 0 < k) (hl : xs.length = n) (h1 : vs.length = xs.length) (h2 : ∀ v ∈ vs, v.length = k)
  (h4 : ∀ (i : Nat) (x : α) (v : List Value), xs[i]? = some x → vs[i]? = some v → R w x v) : IsG R k w A n cap xs := ⟨hl, vs, h1, h2, Sl.own h hk, h4⟩
structure OwnG (R : World → α → List Value → Prop) (k : Nat) (w : World) (base : Nat) (e : TypeId) (v : Value) (n : Nat) (xs : List α) : Prop where
 len : xs.length = n
 rows : ∃ vs : List (List Value), vs.length = xs.length ∧ (∀ v ∈ vs, v.length = k) ∧ w.ownsRow base e k v n vs.flatten ∧ ∀ (i : Nat) (x : α) (v : List Value), xs[i]? = some x → vs[i]? = some v → R w x v
theorem OwnG.is {base : Nat} {e : TypeId} (h : OwnG R k w base e (.slice A n cap) n xs) (hk : 0 < k) : IsG R k w A n cap xs := by
 obtain ⟨vs, h1, h2, h3, h4⟩ := h.rows
 exact ⟨h.len, vs, h1, h2, Sl.own h3 hk, h4⟩
theorem OwnG.below {base : Nat} {e : TypeId} {v : Value} (hR : Keeps R) (h : OwnG R k w base e v n xs) (hb : Below w.heap.size w w') : OwnG R k w' base e v n xs := by
 obtain ⟨vs, h1, h2, h3, h4⟩ := h.rows
 exact ⟨h.len, vs, h1, h2, own_below h3 hb, fun i x v hx hv => hR _ _ _ _ (h4 i x v hx hv) hb⟩
theorem OwnG.nil (w : World) (base : Nat) (e : TypeId) : OwnG R k w base e (.slice none 0 0) 0 [] := ⟨rfl, [], rfl, by simp, World.ownsRow_nil w base e k, by simp⟩
theorem OwnG.snoc {w2 : World} {base : Nat} {e : TypeId} {v' : Value} {x : α} {u : List Value} {vs : List (List Value)}
  (hown : w2.ownsRow base e k v' (n + 1) (vs.flatten ++ u)) (hl : xs.length = n) (h1 : vs.length = xs.length) (h2 : ∀ v ∈ vs, v.length = k) (hu : u.length = k)
  (h4 : ∀ (i : Nat) (x : α) (v : List Value), xs[i]? = some x → vs[i]? = some v → R w2 x v) (hx : R w2 x u) : OwnG R k w2 base e v' (n + 1) (xs ++ [x]) := by
 refine ⟨by simp [hl], vs ++ [u], by simp [h1], ?_, by simpa using hown, ?_⟩
 ·intro v hv
  rcases List.mem_append.1 hv with hv | hv
  ·exact h2 v hv
  ·simp at hv; subst hv; exact hu
 ·intro i y v hy hv
  rw [List.getElem?_append] at hy hv
  split at hy
  ·rename_i hi
   rw [if_pos (by omega)] at hv
   exact h4 i y v hy hv
  ·rename_i hi
   rw [if_neg (by omega)] at hv
   have e : i - xs.length = 0 := by
    have := (List.getElem?_eq_some_iff.1 hy).1
    simp at this
    omega
   have e' : i - vs.length = 0 := by omega
   rw [e] at hy
   rw [e'] at hv
   simp at hy hv
   subst hy hv
   exact hx
end
end Go.Proofs.YtgipiplklaeplaaDoor
namespace Go.Proofs.YtgipiplklaeplaaDoor
open Go.RowKit
theorem beq_iff (a b : C) : a.beq b = true ↔ a = b := by
 obtain ⟨k, s, n⟩ := a
 obtain ⟨k', s', n'⟩ := b
 simp only [C.beq, Bool.and_eq_true, beq_iff_eq, C.mk.injEq]
 constructor
 ·rintro ⟨h1, h2, h3⟩
  refine ⟨h1, ?_, h3⟩
  have := beq_toListBytes s s'
  rw [ByteArray.toList_eq, ByteArray.toList_eq] at h2
  obtain ⟨⟨x⟩⟩ := s
  obtain ⟨⟨y⟩⟩ := s'
  simp at h2
  rw [h2]
 ·rintro ⟨rfl, rfl, rfl⟩
  exact ⟨rfl, rfl, rfl⟩
def sameC : List C → List C → Bool
 | [], [] => true
 | a :: asx, b :: bs => a.beq b && sameC asx bs
 | _, _ => false
theorem sameC_iff : ∀ a b : List C, sameC a b = true ↔ a = b
 | [], [] => by simp [sameC]
 | [], b :: bs => by simp [sameC]
 | a :: asx, [] => by simp [sameC]
 | a :: asx, b :: bs => by simp [sameC, beq_iff, sameC_iff asx bs]
theorem sameC_len {a b : List C} (h : a.length ≠ b.length) : sameC a b = false := by
 rw [← Bool.not_eq_true, sameC_iff]
 rintro rfl
 exact h rfl
def sameI : List Int → List Int → Bool
 | [], [] => true
 | a :: asx, b :: bs => a == b && sameI asx bs
 | _, _ => false
theorem sameI_iff : ∀ a b : List Int, sameI a b = true ↔ a = b
 | [], [] => by simp [sameI]
 | [], b :: bs => by simp [sameI]
 | a :: asx, [] => by simp [sameI]
 | a :: asx, b :: bs => by simp [sameI, sameI_iff asx bs]
theorem sameI_len {a b : List Int} (h : a.length ≠ b.length) : sameI a b = false := by
 rw [← Bool.not_eq_true, sameI_iff]
 rintro rfl
 exact h rfl
theorem drop_get {α : Type} {l : List α} {k : Nat} {x : α} (h : l[k]? = some x) : l.drop k = x :: l.drop (k + 1) := by
 obtain ⟨hl, he⟩ := List.getElem?_eq_some_iff.1 h
 rw [List.drop_eq_getElem_cons hl, he]
theorem drop_end {α : Type} {l : List α} {k n : Nat} (h : l.length = n) (hk : ¬ k < n) : l.drop k = [] := List.drop_of_length_le (by omega)
def inI (ns : List Int) (x : Int) : Bool := ns.any fun y => y == x
theorem inI_iff (ns : List Int) (x : Int) : inI ns x = true ↔ x ∈ ns := by simp [inI]
def placeI (ns : List Int) (x : Int) : Int := idxF (fun y => y == x) 0 ns
def C.ar (c : C) : Nat := if c.kind = 3 then c.n.toNat else 0
def skip : List C → Nat → Option (List C)
 | cs, 0 => some cs
 | [], _ + 1 => none
 | c :: cs, k + 1 => if c.ok then skip cs (k + c.ar) else none
def endN (t : List C) (at_ : Nat) : Option Nat := (skip (t.drop at_) 1).map fun r => t.length - r.length
def endR (t : List C) (at_ : Nat) : Int := match endN t at_ with | some e => e | none => -1
def endT (t : List C) (at_ : Nat) : Int := match endN t at_ with | some e => e | none => 0
def rightB (t : List C) : Bool := (decide (1 ≤ t.length) && decide (t.length ≤ 200)) && (endN t 0 == some t.length)
def varsA : List Int → List C → List Int
 | acc, [] => acc
 | acc, c :: cs => if c.kind = 1 ∧ inI acc c.n = false then varsA (acc ++ [c.n]) cs else varsA acc cs
def varsF (t : List C) : List Int := varsA [] t
def partsA (t : List C) : Nat → Nat → List (List C)   -- how many are left, where
 | 0, _ => []
 | k + 1, at_ => match endN t at_ with
  | some e => (t.drop at_).take (e - at_) :: partsA t k e
  | none => []
def partsF (t : List C) : List (List C) := match t with
 | [] => []
 | c :: _ => if c.kind = 3 then partsA t c.n.toNat 1 else []
def turnF (f : Int → Int) (t : List C) : List C := t.map fun c => if c.kind = 1 then { c with n := f c.n } else c
def shiftF (t : List C) (by_ : Int) : List C := if rightB (turnF (fun n => wrap64 (n + by_)) t) then turnF (fun n => wrap64 (n + by_)) t else []
def numberF (t : List C) : List C := turnF (placeI (varsF t)) t
end Go.Proofs.YtgipiplklaeplaaDoor
namespace Go.Proofs.YtgipiplklaeplaaDoor
open Go.RowKit
theorem skip_zero (cs : List C) : skip cs 0 = some cs := by cases cs <;> rfl
theorem skip_cons (c : C) (cs : List C) (k : Nat) : skip (c :: cs) (k + 1) = if c.ok then skip cs (k + c.ar) else none := rfl
theorem skip_nil (k : Nat) (h : 0 < k) : skip [] k = none := by cases k <;> first | rfl | omega
theorem skip_add (cs : List C) : ∀ a b : Nat, skip cs (a + b) = (skip cs a).bind fun r => skip r b := by
 induction cs with
 | nil =>
  intro a b
  cases a with
  | zero => simp [skip_zero]
  | succ a => rw [skip_nil _ (by omega), skip_nil (a + 1) (by omega)]; rfl
 | cons c cs ih =>
  intro a b
  cases a with
  | zero => simp [skip_zero]
  | succ a =>
   rw [show a + 1 + b = (a + b) + 1 by omega, skip_cons, skip_cons]
   split
   ·rw [show a + b + c.ar = (a + c.ar) + b by omega, ih]
   ·rfl
theorem skip_suffix (cs : List C) : ∀ (k : Nat) (r : List C), skip cs k = some r → ∃ d, r = cs.drop d ∧ k ≤ d ∧ d ≤ cs.length := by
 induction cs with
 | nil =>
  intro k r h
  cases k with
  | zero => simp [skip_zero] at h; exact ⟨0, by simp [h], by omega, by simp⟩
  | succ k => rw [skip_nil _ (by omega)] at h; cases h
 | cons c cs ih =>
  intro k r h
  cases k with
  | zero => rw [skip_zero] at h; injection h with h; exact ⟨0, by simp [h], by omega, by simp⟩
  | succ k =>
   rw [skip_cons] at h
   split at h
   ·obtain ⟨d, h1, h2, h3⟩ := ih _ _ h
    exact ⟨d + 1, by simpa using h1, by omega, by simpa using h3⟩
   ·cases h
theorem endN_some {t : List C} {at_ e : Nat} : endN t at_ = some e ↔ skip (t.drop at_) 1 = some (t.drop e) ∧ at_ < e ∧ e ≤ t.length := by
 unfold endN
 constructor
 ·intro h
  cases hs : skip (t.drop at_) 1 with
  | none => rw [hs] at h; cases h
  | some r =>
   rw [hs] at h
   obtain ⟨d, rfl, h1, h2⟩ := skip_suffix _ _ _ hs
   simp at h h2
   rw [List.drop_drop]
   refine ⟨by congr 2; omega, by omega, by omega⟩
 ·rintro ⟨h, h1, h2⟩
  rw [h]
  simp; omega
theorem endN_none {t : List C} {at_ : Nat} : endN t at_ = none ↔ skip (t.drop at_) 1 = none := by
 unfold endN
 cases skip (t.drop at_) 1 <;> simp
theorem endN_out {t : List C} {at_ : Nat} (h : t.length ≤ at_) : endN t at_ = none := by
 rw [endN_none, List.drop_of_length_le h]
 exact skip_nil 1 (by omega)
theorem endN_bad {t : List C} {at_ : Nat} {c : C} (hc : t[at_]? = some c) (h : c.ok = false) : endN t at_ = none := by
 rw [endN_none, drop_get hc, skip_cons, h]; rfl
theorem endN_good {t : List C} {at_ e : Nat} {c : C} (hc : t[at_]? = some c) (h : c.ok = true) (he : at_ < e) (hl : e ≤ t.length) (hs : skip (t.drop (at_ + 1)) c.ar = some (t.drop e)) : endN t at_ = some e := by
 rw [endN_some, drop_get hc, skip_cons, if_pos h, Nat.zero_add]
 exact ⟨hs, he, hl⟩
theorem endN_args {t : List C} {at_ : Nat} {c : C} (hc : t[at_]? = some c) (h : c.ok = true) (hs : skip (t.drop (at_ + 1)) c.ar = none) : endN t at_ = none := by
 rw [endN_none, drop_get hc, skip_cons, if_pos h, Nat.zero_add]
 exact hs
theorem ok_fun {c : C} (h : c.ok = true) (hk : c.kind = 3) : 0 ≤ c.n ∧ c.n ≤ 6 := by
 unfold C.ok at h
 simp [hk] at h
 omega
theorem ar_fun {c : C} (h : c.ok = true) (hk : c.kind = 3) : (c.ar : Int) = c.n := by
 have := ok_fun h hk
 simp [C.ar, hk]; omega
theorem ar_other {c : C} (hk : c.kind ≠ 3) : c.ar = 0 := by simp [C.ar, hk]
theorem endT_some {t : List C} {at_ e : Nat} (h : endN t at_ = some e) : endT t at_ = e := by simp [endT, h]
theorem endT_none {t : List C} {at_ : Nat} (h : endN t at_ = none) : endT t at_ = 0 := by simp [endT, h]
theorem endR_some {t : List C} {at_ e : Nat} (h : endN t at_ = some e) : endR t at_ = e := by simp [endR, h]
theorem endR_none {t : List C} {at_ : Nat} (h : endN t at_ = none) : endR t at_ = -1 := by simp [endR, h]
theorem right_R (t : List C) (n : Nat) (hl : t.length = n) (h1 : 1 ≤ n) (h2 : n ≤ 200) : (endR t 0 == (n : Int)) = rightB t := by
 subst hl
 unfold rightB endR
 cases h : endN t 0 with
 | none => simp [h1, h2] <;> omega
 | some e => rw [Bool.eq_iff_iff]; simp [h1, h2]; omega
theorem right_T (t : List C) (n : Nat) (hl : t.length = n) (h1 : 1 ≤ n) (h2 : n ≤ 200) : (endT t 0 == (n : Int)) = rightB t := by
 subst hl
 unfold rightB endT
 cases h : endN t 0 with
 | none => simp [h1, h2] <;> omega
 | some e => rw [Bool.eq_iff_iff]; simp [h1, h2]; omega
theorem right_no (t : List C) (n : Nat) (hl : t.length = n) (h : n < 1 ∨ 200 < n) : rightB t = false := by
 subst hl
 unfold rightB
 rcases h with h | h
 ·simp; omega
 ·simp; omega
end Go.Proofs.YtgipiplklaeplaaDoor
namespace Go.Proofs.YtgipiplklaeplaaDoor
open Go.RowKit
theorem skip_prefix (cs : List C) : ∀ (k : Nat) (r : List C), skip cs k = some r → ∃ p, cs = p ++ r ∧ skip p k = some [] := by
 induction cs with
 | nil =>
  intro k r h
  cases k with
  | zero => simp [skip_zero] at h; exact ⟨[], by simp [h], rfl⟩
  | succ k => rw [skip_nil _ (by omega)] at h; cases h
 | cons c cs ih =>
  intro k r h
  cases k with
  | zero => rw [skip_zero] at h; injection h with h; exact ⟨[], by simp [h], rfl⟩
  | succ k =>
   rw [skip_cons] at h
   split at h
   ·rename_i ho
    obtain ⟨p, h1, h2⟩ := ih _ _ h
    exact ⟨c :: p, by simp [h1], by rw [skip_cons, if_pos ho]; exact h2⟩
   ·cases h
theorem skip_append (p r : List C) : ∀ k : Nat, skip p k = some [] → skip (p ++ r) k = some r := by
 induction p with
 | nil =>
  intro k h
  cases k with
  | zero => exact skip_zero r
  | succ k => rw [skip_nil _ (by omega)] at h; cases h
 | cons c p ih =>
  intro k h
  cases k with
  | zero => rw [skip_zero] at h; cases h
  | succ k =>
   rw [skip_cons] at h
   split at h
   ·rename_i ho
    rw [List.cons_append, skip_cons, if_pos ho]
    exact ih _ h
   ·cases h
theorem skip_pos {t : List C} (h : skip t 1 = some []) : 1 ≤ t.length := by
 cases t with
 | nil => rw [skip_nil _ (by omega)] at h; cases h
 | cons c t => simp
theorem endN_zero {t : List C} : endN t 0 = some t.length ↔ skip t 1 = some [] := by
 rw [endN_some]
 simp
 intro h
 have := skip_pos h
 omega
theorem right_iff (t : List C) : rightB t = true ↔ skip t 1 = some [] ∧ t.length ≤ 200 := by
 simp only [rightB, Bool.and_eq_true, decide_eq_true_eq, beq_iff_eq, endN_zero]
 constructor
 ·rintro ⟨⟨_, h⟩, h'⟩; exact ⟨h', h⟩
 ·rintro ⟨h', h⟩; exact ⟨⟨skip_pos h', h⟩, h'⟩
inductive Splits : List C → Nat → List (List C) → Prop
 | nil : Splits [] 0 []
 | cons {p r : List C} {k : Nat} {l : List (List C)} : skip p 1 = some [] → Splits r k l → Splits (p ++ r) (k + 1) (p :: l)
theorem Splits.flat {cs : List C} {k : Nat} {l : List (List C)} (h : Splits cs k l) : l.flatten = cs ∧ l.length = k ∧ (∀ p ∈ l, skip p 1 = some []) ∧ skip cs k = some [] := by
 induction h with
 | nil => exact ⟨rfl, rfl, by simp, rfl⟩
 | cons hp _ ih =>
  obtain ⟨h1, h2, h3, h4⟩ := ih
  refine ⟨by simp [h1], by simp [h2], ?_, ?_⟩
  ·intro q hq
   rcases List.mem_cons.1 hq with rfl | hq
   ·exact hp
   ·exact h3 q hq
  ·rw [Nat.add_comm, skip_add, skip_append _ _ _ hp]
   exact h4
theorem partsA_splits (t : List C) : ∀ (k at_ : Nat), at_ ≤ t.length → skip (t.drop at_) k = some [] → Splits (t.drop at_) k (partsA t k at_) := by
 intro k
 induction k with
 | zero =>
  intro at_ hl h
  rw [skip_zero] at h
  injection h with h
  rw [h]
  exact .nil
 | succ k ih =>
  intro at_ hl h
  rw [show k + 1 = 1 + k by omega, skip_add] at h
  cases hs : skip (t.drop at_) 1 with
  | none => rw [hs] at h; cases h
  | some r =>
   rw [hs] at h
   obtain ⟨d, rfl, hd1, hd2⟩ := skip_suffix _ _ _ hs
   rw [List.drop_drop] at hs h
   have hd3 : at_ + d ≤ t.length := by simp at hd2; omega
   have he : endN t at_ = some (at_ + d) := endN_some.2 ⟨hs, by omega, hd3⟩
   obtain ⟨p, hp1, hp2⟩ := skip_prefix _ _ _ hs
   have hpl : p.length = d := by
    have := congrArg List.length hp1
    simp at this
    omega
   have htake : (t.drop at_).take (at_ + d - at_) = p := by
    rw [hp1, show at_ + d - at_ = p.length by omega]
    exact List.take_left
   have hpa : partsA t (k + 1) at_ = p :: partsA t k (at_ + d) := by simp only [partsA, he, htake]
   rw [hpa, hp1]
   exact .cons hp2 (ih (at_ + d) hd3 h)
theorem right_head {c : C} {cs : List C} (h : rightB (c :: cs) = true) : c.ok = true ∧ skip cs c.ar = some [] := by
 obtain ⟨h, _⟩ := (right_iff _).1 h
 rw [skip_cons] at h
 split at h
 ·rename_i ho
  exact ⟨ho, by simpa using h⟩
 ·cases h
theorem parts_splits {c : C} {cs : List C} (h : rightB (c :: cs) = true) (hk : c.kind = 3) : Splits cs c.ar (partsF (c :: cs)) := by
 obtain ⟨_, hs⟩ := right_head h
 have := partsA_splits (c :: cs) c.ar 1 (by simp) (by simpa using hs)
 simpa [partsF, hk, C.ar] using this
theorem parts_other {c : C} {cs : List C} (hk : c.kind ≠ 3) : partsF (c :: cs) = [] := by simp [partsF, hk]
theorem mem_length {l : List (List C)} {p : List C} (h : p ∈ l) : p.length ≤ l.flatten.length := by
 induction l with
 | nil => cases h
 | cons q l ih =>
  simp only [List.flatten_cons, List.length_append]
  rcases List.mem_cons.1 h with rfl | h
  ·omega
  ·have := ih h; omega
theorem parts_right {t p : List C} (h : rightB t = true) (hp : p ∈ partsF t) : rightB p = true ∧ p.length < t.length := by
 match t, h with
 | [], h => simp [partsF] at hp
 | c :: cs, h =>
  by_cases hk : c.kind = 3
  ·have hs := parts_splits h hk
   obtain ⟨h1, h2, h3, _⟩ := hs.flat
   have hl := mem_length hp
   rw [h1] at hl
   have := ((right_iff _).1 h).2
   simp only [List.length_cons] at *
   exact ⟨(right_iff _).2 ⟨h3 p hp, by omega⟩, by omega⟩
  ·rw [parts_other hk] at hp
   cases hp
end Go.Proofs.YtgipiplklaeplaaDoor
namespace Go.Proofs.YtgipiplklaeplaaDoor
open Go.RowKit
inductive Tm where
 | v (n : Int)
 | i (n : Int)
 | f (s : ByteArray) (asx : List Tm)
mutual
def Tm.flat : Tm → List C
 | .v n => [⟨1, ⟨#[]⟩, n⟩]
 | .i n => [⟨2, ⟨#[]⟩, n⟩]
 | .f s asx => ⟨3, s, asx.length⟩ :: flats asx
def flats : List Tm → List C
 | [] => []
 | t :: ts => t.flat ++ flats ts
end
mutual
def Tm.ok : Tm → Bool
 | .v n => decide (0 ≤ n) && decide (n ≤ 999)
 | .i n => decide (-2147483647 ≤ n) && decide (n ≤ 2147483647)
 | .f s asx => okName s && (decide (asx.length ≤ 6) && oks asx)
def oks : List Tm → Bool
 | [] => true
 | t :: ts => t.ok && oks ts
end
mutual
def Tm.size : Tm → Nat
 | .v _ => 1
 | .i _ => 1
 | .f _ asx => 1 + sizes asx
def sizes : List Tm → Nat
 | [] => 0
 | t :: ts => t.size + sizes ts
end
theorem flats_cons (t : Tm) (ts : List Tm) : flats (t :: ts) = t.flat ++ flats ts := rfl
theorem oks_cons (t : Tm) (ts : List Tm) : oks (t :: ts) = (t.ok && oks ts) := rfl
theorem sizes_cons (t : Tm) (ts : List Tm) : sizes (t :: ts) = t.size + sizes ts := rfl
theorem flats_append : ∀ a b : List Tm, flats (a ++ b) = flats a ++ flats b
 | [], b => rfl
 | t :: a, b => by rw [List.cons_append, flats_cons, flats_cons, flats_append a b, List.append_assoc]
theorem oks_append : ∀ a b : List Tm, oks (a ++ b) = (oks a && oks b)
 | [], b => by simp [oks]
 | t :: a, b => by rw [List.cons_append, oks_cons, oks_cons, oks_append a b, Bool.and_assoc]
theorem sizes_append : ∀ a b : List Tm, sizes (a ++ b) = sizes a + sizes b
 | [], b => by simp [sizes]
 | t :: a, b => by rw [List.cons_append, sizes_cons, sizes_cons, sizes_append a b, Nat.add_assoc]
theorem flats_flatten : ∀ asx : List Tm, flats asx = (asx.map Tm.flat).flatten
 | [] => rfl
 | t :: ts => by rw [flats_cons, List.map_cons, List.flatten_cons, flats_flatten ts]
theorem Tm.size_pos (t : Tm) : 1 ≤ t.size := by cases t <;> simp [Tm.size] <;> omega
mutual
theorem flat_size : ∀ t : Tm, t.flat.length = t.size
 | .v _ => rfl
 | .i _ => rfl
 | .f _ asx => by simp [Tm.flat, Tm.size, flats_size asx]; omega
theorem flats_size : ∀ ts : List Tm, (flats ts).length = sizes ts
 | [] => rfl
 | t :: ts => by rw [flats_cons, sizes_cons, List.length_append, flat_size t, flats_size ts]
end
theorem size_mem {t : Tm} : ∀ {asx : List Tm}, t ∈ asx → t.size ≤ sizes asx
 | a :: asx, h => by
  rw [sizes_cons]
  rcases List.mem_cons.1 h with rfl | h
  ·omega
  ·have := size_mem h; omega
theorem ok_mem {t : Tm} : ∀ {asx : List Tm}, oks asx = true → t ∈ asx → t.ok = true
 | a :: asx, h, hm => by
  rw [oks_cons, Bool.and_eq_true] at h
  rcases List.mem_cons.1 hm with rfl | hm
  ·exact h.1
  ·exact ok_mem h.2 hm
theorem length_sizes (asx : List Tm) : asx.length ≤ sizes asx := by
 induction asx with
 | nil => simp [sizes]
 | cons t ts ih => rw [sizes_cons, List.length_cons]; have := t.size_pos; omega
def Tm.c0 : Tm → C
 | .v n => ⟨1, ⟨#[]⟩, n⟩
 | .i n => ⟨2, ⟨#[]⟩, n⟩
 | .f s asx => ⟨3, s, asx.length⟩
def Tm.args : Tm → List Tm
 | .f _ asx => asx
 | _ => []
theorem flat_cons (t : Tm) : t.flat = t.c0 :: flats t.args := by cases t <;> rfl
theorem flat_get0 (t : Tm) : t.flat[0]? = some t.c0 := by rw [flat_cons]; rfl
theorem empty_toList : (⟨#[]⟩ : ByteArray).toList = [] := by rw [ByteArray.toList_eq]
theorem c0_ok {t : Tm} (h : t.ok = true) : t.c0.ok = true := by
 cases t with
 | v n =>
  simp only [Tm.ok] at h
  simp only [Tm.c0, C.ok, if_true, empty_toList, decide_true, Bool.true_and]
  exact h
 | i n =>
  simp only [Tm.ok] at h
  have h21 : ¬ (2 : Int) = 1 := by decide
  simp only [Tm.c0, C.ok, if_neg h21, if_true, empty_toList, decide_true, Bool.true_and]
  exact h
 | f s asx =>
  simp only [Tm.ok, Bool.and_eq_true, decide_eq_true_eq] at h
  have h31 : ¬ (3 : Int) = 1 := by decide
  have h32 : ¬ (3 : Int) = 2 := by decide
  simp only [Tm.c0, C.ok, if_neg h31, if_neg h32, if_true, h.1, Bool.true_and, Bool.and_eq_true, decide_eq_true_eq]
  exact ⟨decide_eq_true (by omega), decide_eq_true (by omega)⟩
theorem c0_ar (t : Tm) : t.c0.ar = t.args.length := by cases t <;> simp [Tm.c0, C.ar, Tm.args]
theorem args_ok {t : Tm} (h : t.ok = true) : oks t.args = true := by
 cases t with
 | v n => rfl
 | i n => rfl
 | f s asx => simp [Tm.ok] at h; exact h.2.2
theorem args_len {t : Tm} (h : t.ok = true) : t.args.length ≤ 6 := by
 cases t with
 | v n => simp [Tm.args]
 | i n => simp [Tm.args]
 | f s asx => simp [Tm.ok] at h; exact h.2.1
theorem size_args (t : Tm) : t.size = 1 + sizes t.args := by cases t <;> simp [Tm.size, Tm.args, sizes]
theorem c0_name {c : C} (h : c.ok = true) (hk : c.kind ≠ 3) : c.name = ⟨#[]⟩ := by
 have hn : c.name.toList = [] := by
  unfold C.ok at h
  by_cases h1 : c.kind = 1
  ·simp [h1] at h; exact h.1
  ·by_cases h2 : c.kind = 2
   ·simp [h2] at h; exact h.1
   ·simp [h1, h2, hk] at h
 rw [ByteArray.toList_eq] at hn
 obtain ⟨k, ⟨⟨x⟩⟩, n⟩ := c
 simp at hn
 simp [hn]
theorem c0_kind {c : C} (h : c.ok = true) : c.kind = 1 ∨ c.kind = 2 ∨ c.kind = 3 := by
 unfold C.ok at h
 by_cases h1 : c.kind = 1
 ·exact .inl h1
 ·by_cases h2 : c.kind = 2
  ·exact .inr (.inl h2)
  ·by_cases h3 : c.kind = 3
   ·exact .inr (.inr h3)
   ·simp [h1, h2, h3] at h
theorem skip_flats : ∀ (N : Nat) (ts : List Tm), sizes ts ≤ N → oks ts = true → ∀ (r : List C) (k : Nat), skip (flats ts ++ r) (ts.length + k) = skip r k := by
 intro N
 induction N with
 | zero =>
  intro ts hs _ r k
  cases ts with
  | nil => simp [flats]
  | cons t ts => rw [sizes_cons] at hs; have := t.size_pos; omega
 | succ N ih =>
  intro ts hs ho r k
  cases ts with
  | nil => simp [flats]
  | cons t ts =>
   rw [sizes_cons, size_args] at hs
   rw [oks_cons, Bool.and_eq_true] at ho
   rw [flats_cons, flat_cons, List.cons_append, List.cons_append, show (t :: ts).length + k = (ts.length + k) + 1 by simp; omega, skip_cons, if_pos (c0_ok ho.1), c0_ar]
   rw [show ts.length + k + t.args.length = (t.args ++ ts).length + k by simp; omega, List.append_assoc, ← List.append_assoc, ← flats_append]
   exact ih (t.args ++ ts) (by rw [sizes_append]; omega) (by rw [oks_append, args_ok ho.1, ho.2]; rfl) r k
theorem tree_of : ∀ (N : Nat) (t : List C), t.length ≤ N → ∀ k, skip t k = some [] → ∃ Ts : List Tm, Ts.length = k ∧ oks Ts = true ∧ flats Ts = t := by
 intro N
 induction N with
 | zero =>
  intro t ht k h
  have : t = [] := List.eq_nil_of_length_eq_zero (by omega)
  subst this
  cases k with
  | zero => exact ⟨[], rfl, rfl, rfl⟩
  | succ k => rw [skip_nil _ (by omega)] at h; cases h
 | succ N ih =>
  intro t ht k h
  cases t with
  | nil =>
   cases k with
   | zero => exact ⟨[], rfl, rfl, rfl⟩
   | succ k => rw [skip_nil _ (by omega)] at h; cases h
  | cons c cs =>
   cases k with
   | zero => rw [skip_zero] at h; cases h
   | succ k =>
    rw [skip_cons] at h
    split at h
    ·rename_i hc
     obtain ⟨Us, h1, h2, h3⟩ := ih cs (by simp at ht; omega) _ h
     rw [← List.take_append_drop c.ar Us, oks_append, Bool.and_eq_true] at h2
     have hf : flats (Us.take c.ar) ++ flats (Us.drop c.ar) = cs := by rw [← flats_append, List.take_append_drop]; exact h3
     have hl : (Us.take c.ar).length = c.ar := by rw [List.length_take]; omega
     have hl' : (Us.drop c.ar).length = k := by rw [List.length_drop]; omega
     have key : ∃ T : Tm, T.ok = true ∧ T.flat = c :: flats (Us.take c.ar) := by
      by_cases hk : c.kind = 3
      ·refine ⟨.f c.name (Us.take c.ar), ?_, ?_⟩
       ·have h6 := ok_fun hc hk
        have har := ar_fun hc hk
        have hn : okName c.name = true := by
         unfold C.ok at hc
         simp [hk] at hc
         exact hc.1
        simp only [Tm.ok, hn, h2.1, Bool.and_true, Bool.true_and, decide_eq_true_eq]
        omega
       ·have har := ar_fun hc hk
        simp only [Tm.flat, hl, har]
        congr 1
        obtain ⟨q, s, n⟩ := c
        simp at hk ⊢
        exact hk.symm
      ·have ha := ar_other hk
       rw [ha] at *
       have hn := c0_name hc hk
       rw [List.take_zero]
       rcases c0_kind hc with h1 | h1 | h1
       ·refine ⟨.v c.n, ?_, ?_⟩
        ·unfold C.ok at hc; simp [h1] at hc; simp [Tm.ok, hc.2]
        ·obtain ⟨q, s, n⟩ := c
         simp at h1 hn
         subst h1 hn
         rfl
       ·refine ⟨.i c.n, ?_, ?_⟩
        ·unfold C.ok at hc; simp [h1] at hc; simp [Tm.ok, hc.2]
        ·obtain ⟨q, s, n⟩ := c
         simp at h1 hn
         subst h1 hn
         rfl
       ·exact absurd h1 hk
     obtain ⟨T, ht1, ht2⟩ := key
     exact ⟨T :: Us.drop c.ar, by simp [hl'], by rw [oks_cons, ht1, h2.2]; rfl, by rw [flats_cons, ht2, List.cons_append, hf]⟩
    ·cases h
theorem right_flat {T : Tm} (h : T.ok = true) (hs : T.size ≤ 200) : rightB T.flat = true := by
 rw [right_iff, flat_size]
 refine ⟨?_, hs⟩
 have := skip_flats (sizes [T]) [T] (Nat.le_refl _) (by simp [oks, h]) [] 0
 simpa [flats, skip_zero] using this
theorem right_tree {t : List C} (h : rightB t = true) : ∃ T : Tm, T.ok = true ∧ T.flat = t ∧ T.size ≤ 200 := by
 obtain ⟨h1, h2⟩ := (right_iff t).1 h
 obtain ⟨Ts, a1, a2, a3⟩ := tree_of t.length t (Nat.le_refl _) 1 h1
 match Ts, a1 with
 | [T], _ =>
  have a3' : T.flat = t := by simpa [flats] using a3
  exact ⟨T, by simpa [oks] using a2, a3', by rw [← flat_size, a3']; exact h2⟩
theorem same_rows : ∀ (a b : List (List C)), a.length = b.length → (∀ p ∈ a, skip p 1 = some []) → (∀ p ∈ b, skip p 1 = some []) → a.flatten = b.flatten → a = b
 | [], [], _, _, _, _ => rfl
 | [], _ :: _, h, _, _, _ => by simp at h
 | _ :: _, [], h, _, _, _ => by simp at h
 | p :: a, q :: b, h, ha, hb, he => by
  rw [List.flatten_cons, List.flatten_cons] at he
  have h1 := skip_append p a.flatten 1 (ha p (by simp))
  have h2 := skip_append q b.flatten 1 (hb q (by simp))
  rw [he, h2] at h1
  injection h1 with h1
  have hpq : p = q := by
   have := congrArg List.length he
   rw [h1] at he
   exact (List.append_cancel_right he)
  rw [hpq, same_rows a b (by simpa using h) (fun x hx => ha x (by simp [hx])) (fun x hx => hb x (by simp [hx])) h1.symm]
theorem parts_flat {T : Tm} (h : T.ok = true) (hs : T.size ≤ 200) : partsF T.flat = T.args.map Tm.flat := by
 have hr := right_flat h hs
 have hfc := flat_cons T
 by_cases hk : T.c0.kind = 3
 ·rw [hfc] at hr
  have hsp := parts_splits hr hk
  rw [hfc]
  refine same_rows _ _ ?_ ?_ ?_ ?_
  ·rw [hsp.flat.2.1, c0_ar, List.length_map]
  ·intro p hp
   exact ((right_iff p).1 (parts_right hr hp).1).1
  ·intro p hp
   obtain ⟨U, hU, rfl⟩ := List.mem_map.1 hp
   have := skip_flats (sizes [U]) [U] (Nat.le_refl _) (by simp [oks, ok_mem (args_ok h) hU]) [] 0
   simpa [flats, skip_zero] using this
  ·rw [← flats_flatten]; exact hsp.flat.1
 ·have ha : T.args = [] := by cases T <;> first | rfl | exact absurd rfl hk
  rw [hfc, parts_other hk, ha]; rfl
end Go.Proofs.YtgipiplklaeplaaDoor
namespace Go.Proofs.YtgipiplklaeplaaDoor
open Go.RowKit
structure In where
 op : Int
 x : Int := 0
 a : Int := 0
 name : ByteArray := ⟨#[]⟩
 n : Int := 0
 neg : Bool := false
deriving DecidableEq
structure Ltl where
 neg : Bool
 t : Tm
structure Cls where
 head : Tm
 body : List Ltl
structure St where
 code : List In
 next : Nat
 vars : List Int
 regs : List Int
def St.emit (s : St) (i : In) : St := { s with code := s.code ++ [i] }
def St.bump (s : St) : St := { s with next := s.next + 1 }
def St.addv (s : St) (v r : Int) : St := { s with vars := s.vars ++ [v], regs := s.regs ++ [r] }
def regF (s : St) (v : Int) : St × Int × Bool :=
 match s.regs[(placeI s.vars v).toNat]?, decide (0 ≤ placeI s.vars v) with
 | some r, true => (s, r, false)
 | _, _ => (s.bump.addv v s.next, s.next, true)
def oneF (first again number : Int) (s : St) : Tm → St
 | .v n => (regF s n).1.emit { op := if (regF s n).2.2 then first else again, x := (regF s n).2.1 }
 | .i n => s.emit { op := number, n := n }
 | .f _ _ => s
def unisF (s : St) : List Tm → St × List (Tm × Int)
 | [] => (s, [])
 | .f nm asx :: ts => ((unisF (s.emit { op := 5, x := s.next }).bump ts).1, (.f nm asx, (s.next : Int)) :: (unisF (s.emit { op := 5, x := s.next }).bump ts).2)
 | t :: ts => unisF (oneF 5 6 7 s t) ts
def headF (s : St) : Tm × Int → St × List (Tm × Int)
 | (.v n, reg) => ((regF s n).1.emit { op := if (regF s n).2.2 then 1 else 2, x := (regF s n).2.1, a := reg }, [])
 | (.i n, reg) => (s.emit { op := 3, a := reg, n := n }, [])
 | (.f nm asx, reg) => unisF (s.emit { op := 4, a := reg, name := nm, n := asx.length }) asx
def headsF : Nat → St → List (Tm × Int) → St
 | 0, s, _ => s
 | _ + 1, s, [] => s
 | k + 1, s, a :: row => headsF k (headF s a).1 (row ++ (headF s a).2)
def numbered : Nat → List Tm → List (Tm × Int)
 | _, [] => []
 | k, t :: ts => (t, (k : Int)) :: numbered (k + 1) ts
def setsF (s : St) : List Tm → List Int → St
 | .f _ _ :: ts, x :: xs => setsF (s.emit { op := 10, x := x }) ts xs
 | t :: ts, _ :: xs => setsF (oneF 9 10 11 s t) ts xs
 | _, _ => s
mutual
def buildF (s : St) : Tm → St × Int
 | .f nm asx => (setsF ((argsF s asx).1.bump.emit { op := 8, a := (argsF s asx).1.next, name := nm, n := asx.length }) asx (argsF s asx).2, (argsF s asx).1.next)
 | _ => (s, -1)
def argsF (s : St) : List Tm → St × List Int
 | [] => (s, [])
 | t :: ts => ((argsF (buildF s t).1 ts).1, (buildF s t).2 :: (argsF (buildF s t).1 ts).2)
end
def bodyF (s : St) : List Ltl → St
 | [] => s
 | l :: ls => bodyF ((buildF s l.t).1.emit { op := 12, a := (buildF s l.t).2, neg := l.neg }) ls
def lastI (t : Tm) : In := { op := 13, name := t.c0.name, n := t.c0.n }
def startF (t : Tm) : St := ⟨[], t.args.length, [], []⟩
def compF (c : Cls) : List In := (bodyF (headsF (sizes c.head.args) (startF c.head) (numbered 0 c.head.args)) c.body).code ++ [lastI c.head]
end Go.Proofs.YtgipiplklaeplaaDoor
