/- Texts of this proof that belong together: words of memory, plain laws, walks. -/
import Derived.Test.YtgipiplklaeplaaDoorB02
import Derived.Test.YtgipiplklaeplaaDoorB03
import Derived.Test.YtgipiplklaeplaaDoorB29
import Derived.Test.YtgipiplklaeplaaDoorB31
import Derived.Test.YtgipiplklaeplaaDoorB33
set_option linter.unusedVariables false
set_option linter.unusedSimpArgs false
namespace Go.Proofs.YtgipiplklaeplaaDoor
open Go.RowKit
theorem varsA_nil (acc : List Int) : varsA acc [] = acc := rfl
theorem varsA_step (acc : List Int) (c : C) (cs : List C) : varsA acc (c :: cs) = if c.kind = 1 ∧ inI acc c.n = false then varsA (acc ++ [c.n]) cs else varsA acc cs := rfl
def mergeV : List Int → List Int → List Int
 | acc, [] => acc
 | acc, x :: l => if inI acc x then mergeV acc l else mergeV (acc ++ [x]) l
theorem mergeV_nil (acc : List Int) : mergeV acc [] = acc := rfl
theorem mergeV_step (acc : List Int) (x : Int) (l : List Int) : mergeV acc (x :: l) = if inI acc x then mergeV acc l else mergeV (acc ++ [x]) l := rfl
theorem inI_append (l : List Int) (x y : Int) : inI (l ++ [x]) y = (inI l y || x == y) := by simp [inI]
theorem mergeV_in (acc l : List Int) (y : Int) : inI (mergeV acc l) y = (inI acc y || inI l y) := by
 induction l generalizing acc with
 | nil => simp [mergeV, inI]
 | cons x l ih =>
  rw [mergeV_step]
  split
  ·rename_i h
   rw [ih]
   unfold inI
   rw [List.any_cons]
   by_cases hxy : x = y
   ·subst hxy
    have : (acc.any fun y => y == x) = true := h
    rw [this]; rfl
   ·have : (x == y) = false := by simpa using hxy
    rw [this]; rfl
  ·rw [ih, inI_append]
   unfold inI
   rw [List.any_cons, Bool.or_assoc]
theorem mergeV_snoc (acc l : List Int) (x : Int) : mergeV acc (l ++ [x]) = if inI (mergeV acc l) x then mergeV acc l else mergeV acc l ++ [x] := by
 induction l generalizing acc with
 | nil => rw [List.nil_append, mergeV_step, mergeV_nil, mergeV_nil]
 | cons y l ih =>
  rw [List.cons_append, mergeV_step, mergeV_step]
  split
  ·exact ih _
  ·exact ih _
theorem varsA_merge (cs : List C) : ∀ acc b, mergeV acc (varsA b cs) = varsA (mergeV acc b) cs := by
 induction cs with
 | nil => intro acc b; rfl
 | cons c cs ih =>
  intro acc b
  rw [varsA_step, varsA_step]
  by_cases hk : c.kind = 1
  ·cases hb : inI b c.n
   ·rw [if_pos ⟨hk, rfl⟩, ih, mergeV_snoc]
    cases hm : inI (mergeV acc b) c.n
    ·rw [if_neg (by simp), if_pos ⟨hk, rfl⟩]
    ·rw [if_pos rfl, if_neg (fun h => by cases h.2)]
   ·have hm : inI (mergeV acc b) c.n = true := by rw [mergeV_in, hb]; simp
    rw [if_neg (fun h => by cases h.2), if_neg (fun h => by rw [hm] at h; cases h.2), ih]
  ·rw [if_neg (fun h => hk h.1), if_neg (fun h => hk h.1), ih]
theorem varsA_part (acc : List Int) (p : List C) : varsA acc p = mergeV acc (varsF p) := by
 rw [varsF, varsA_merge]; rfl
theorem vars_in (cs : List C) : ∀ acc x, inI (varsA acc cs) x = (inI acc x || cs.any fun c => c.kind == 1 && c.n == x) := by
 induction cs with
 | nil => intro acc x; simp [varsA_nil]
 | cons c cs ih =>
  intro acc x
  rw [varsA_step]
  split
  ·rename_i h
   rw [ih, inI_append, List.any_cons, h.1]
   simp [Bool.or_assoc]
  ·rename_i h
   rw [ih, List.any_cons]
   by_cases hk : c.kind = 1
   ·have hin : inI acc c.n = true := by
     cases hi : inI acc c.n
     ·exact absurd ⟨hk, hi⟩ h
     ·rfl
    by_cases hx : c.n = x
    ·subst hx; rw [hin]; rfl
    ·have : (c.n == x) = false := by simpa using hx
     rw [this, Bool.and_false, Bool.false_or]
   ·have : (c.kind == 1) = false := by simpa using hk
    rw [this]; rfl
end Go.Proofs.YtgipiplklaeplaaDoor
namespace Go.Proofs.YtgipiplklaeplaaDoor
open Go.RowKit
def turnC (f : Int → Int) (c : C) : C := if c.kind = 1 then { c with n := f c.n } else c
theorem turnF_map (f : Int → Int) (t : List C) : turnF f t = t.map (turnC f) := rfl
theorem turnC_kind (f : Int → Int) (c : C) : (turnC f c).kind = c.kind := by unfold turnC; split <;> rfl
theorem turnC_ar (f : Int → Int) (c : C) : (turnC f c).ar = c.ar := by
 unfold turnC
 split
 ·rename_i h; simp [C.ar, h]
 ·rfl
theorem turnC_var {f : Int → Int} {c : C} (h : c.kind = 1) : turnC f c = { c with n := f c.n } := by simp [turnC, h]
theorem turnC_other {f : Int → Int} {c : C} (h : c.kind ≠ 1) : turnC f c = c := by simp [turnC, h]
theorem ok_var {c : C} (h : c.ok = true) (hk : c.kind = 1) : c.name.toList = [] ∧ 0 ≤ c.n ∧ c.n ≤ 999 := by
 unfold C.ok at h
 simpa [hk] using h
theorem turnC_ok {f : Int → Int} {c : C} (h : c.ok = true) (hf : c.kind = 1 → 0 ≤ f c.n ∧ f c.n ≤ 999) : (turnC f c).ok = true := by
 by_cases hk : c.kind = 1
 ·rw [turnC_var hk]
  obtain ⟨h1, h2, h3⟩ := ok_var h hk
  obtain ⟨h4, h5⟩ := hf hk
  unfold C.ok
  simp [hk, h1, h4, h5]
 ·rw [turnC_other hk]; exact h
theorem skip_turn {f : Int → Int} (cs : List C) : (∀ c ∈ cs, (turnC f c).ok = c.ok) → ∀ k, skip (cs.map (turnC f)) k = (skip cs k).map (List.map (turnC f)) := by
 induction cs with
 | nil => intro _ k; cases k <;> rfl
 | cons c cs ih =>
  intro h k
  cases k with
  | zero => rfl
  | succ k =>
   rw [List.map_cons, skip_cons, skip_cons, h c (by simp), turnC_ar]
   split
   ·exact ih (fun d hd => h d (by simp [hd])) _
   ·rfl
theorem skip_ok {cs : List C} : ∀ {k : Nat}, skip cs k = some [] → ∀ c ∈ cs, c.ok = true := by
 induction cs with
 | nil => simp
 | cons c cs ih =>
  intro k h d hd
  cases k with
  | zero => rw [skip_zero] at h; cases h
  | succ k =>
   rw [skip_cons] at h
   split at h
   ·rename_i ho
    rcases List.mem_cons.1 hd with rfl | hd
    ·exact ho
    ·exact ih h d hd
   ·cases h
theorem turn_len (f : Int → Int) (t : List C) : (turnF f t).length = t.length := by simp [turnF]
theorem turn_right {f : Int → Int} {t : List C} (h : rightB t = true) (hf : ∀ c ∈ t, c.kind = 1 → 0 ≤ f c.n ∧ f c.n ≤ 999) : rightB (turnF f t) = true := by
 obtain ⟨h1, h2⟩ := (right_iff _).1 h
 have hok := skip_ok h1
 rw [right_iff, turn_len]
 refine ⟨?_, h2⟩
 rw [turnF_map, skip_turn t (fun c hc => by rw [hok c hc]; exact turnC_ok (hok c hc) (hf c hc)), h1]
 rfl
theorem inI_map {f : Int → Int} {P : Int → Prop} (hinj : ∀ x y, P x → P y → f x = f y → x = y) (l : List Int) (x : Int) (hl : ∀ y ∈ l, P y) (hx : P x) : inI (l.map f) (f x) = inI l x := by
 rw [Bool.eq_iff_iff, inI_iff, inI_iff, List.mem_map]
 constructor
 ·rintro ⟨y, hy, he⟩
  rw [← hinj y x (hl y hy) hx he]
  exact hy
 ·intro h; exact ⟨x, h, rfl⟩
theorem vars_turn {f : Int → Int} {P : Int → Prop} (hinj : ∀ x y, P x → P y → f x = f y → x = y) (cs : List C) : ∀ acc, (∀ y ∈ acc, P y) → (∀ c ∈ cs, c.kind = 1 → P c.n) → varsA (acc.map f) (turnF f cs) = (varsA acc cs).map f := by
 induction cs with
 | nil => intro acc _ _; rfl
 | cons c cs ih =>
  intro acc ha hc
  have e : turnF f (c :: cs) = turnC f c :: turnF f cs := rfl
  rw [e, varsA_step, varsA_step, turnC_kind]
  by_cases hk : c.kind = 1
  ·have hP := hc c (by simp) hk
   have en : (turnC f c).n = f c.n := by rw [turnC_var hk]
   rw [en, inI_map hinj acc c.n ha hP]
   cases hi : inI acc c.n
   ·rw [if_pos ⟨hk, rfl⟩, if_pos ⟨hk, rfl⟩]
    have := ih (acc ++ [c.n]) (fun y hy => by
     rcases List.mem_append.1 hy with hy | hy
     ·exact ha y hy
     ·simp at hy; subst hy; exact hP) fun d hd => hc d (by simp [hd])
    rw [List.map_append] at this
    exact this
   ·rw [if_neg (fun h => by cases h.2), if_neg (fun h => by cases h.2)]
    exact ih acc ha fun d hd => hc d (by simp [hd])
  ·rw [if_neg (fun h => hk h.1), if_neg (fun h => hk h.1)]
   exact ih acc ha fun d hd => hc d (by simp [hd])
theorem varsF_turn {f : Int → Int} {P : Int → Prop} (hinj : ∀ x y, P x → P y → f x = f y → x = y) (t : List C) (hc : ∀ c ∈ t, c.kind = 1 → P c.n) : varsF (turnF f t) = (varsF t).map f :=
 vars_turn hinj t [] (by simp) hc
theorem turn_congr {f g : Int → Int} {t : List C} (h : ∀ c ∈ t, c.kind = 1 → f c.n = g c.n) : turnF f t = turnF g t := by
 rw [turnF_map, turnF_map]
 apply List.map_congr_left
 intro c hc
 by_cases hk : c.kind = 1
 ·rw [turnC_var hk, turnC_var hk, h c hc hk]
 ·rw [turnC_other hk, turnC_other hk]
theorem turn_turn (f g : Int → Int) (t : List C) : turnF f (turnF g t) = turnF (fun x => f (g x)) t := by
 rw [turnF_map, turnF_map, turnF_map, List.map_map]
 apply List.map_congr_left
 intro c _
 by_cases hk : c.kind = 1
 ·simp [turnC, hk]
 ·simp [turnC, hk]
theorem mem_vars {t : List C} {x : Int} : x ∈ varsF t ↔ ∃ c ∈ t, c.kind = 1 ∧ c.n = x := by
 rw [← inI_iff, varsF, vars_in]
 simp [inI]
theorem idx_get {l : List Int} : ∀ (k i : Nat) (x : Int), l.Nodup → l[i]? = some x → idxF (fun y => y == x) k l = ((k + i : Nat) : Int) := by
 induction l with
 | nil => intro k i x _ h; simp at h
 | cons y l ih =>
  intro k i x hn h
  rw [List.nodup_cons] at hn
  cases i with
  | zero => simp at h; subst h; simp [idxF]
  | succ i =>
   have h' : l[i]? = some x := by simpa using h
   have hne : (y == x) = false := by
    rw [beq_eq_false_iff_ne]
    rintro rfl
    exact hn.1 (List.mem_of_getElem? h')
   rw [idxF, if_neg (by rw [hne]; simp), ih (k + 1) i x hn.2 h']
   congr 1
   omega
theorem place_get {l : List Int} {i : Nat} {x : Int} (hn : l.Nodup) (h : l[i]? = some x) : placeI l x = i := by
 have := idx_get 0 i x hn h
 simpa [placeI] using this
theorem varsA_nodup (cs : List C) : ∀ acc : List Int, acc.Nodup → (varsA acc cs).Nodup := by
 induction cs with
 | nil => intro acc h; exact h
 | cons c cs ih =>
  intro acc h
  rw [varsA_step]
  split
  ·rename_i hc
   refine ih _ ?_
   rw [List.nodup_append]
   refine ⟨h, by simp, ?_⟩
   intro a ha b hb hab
   simp at hb
   subst hb
   subst hab
   have := hc.2
   rw [← Bool.not_eq_true, inI_iff] at this
   exact this ha
  ·exact ih acc h
theorem varsF_nodup (t : List C) : (varsF t).Nodup := varsA_nodup t [] (by simp)
theorem place_inj {l : List Int} (hn : l.Nodup) : ∀ x y, x ∈ l → y ∈ l → placeI l x = placeI l y → x = y := by
 intro x y hx hy h
 obtain ⟨i, hi⟩ := List.getElem?_of_mem hx
 obtain ⟨j, hj⟩ := List.getElem?_of_mem hy
 rw [place_get hn hi, place_get hn hj] at h
 obtain rfl : i = j := by omega
 rw [hi] at hj
 injection hj
theorem place_range {l : List Int} (hn : l.Nodup) {x : Int} (hx : x ∈ l) : 0 ≤ placeI l x ∧ placeI l x < l.length := by
 obtain ⟨i, hi⟩ := List.getElem?_of_mem hx
 have := (List.getElem?_eq_some_iff.1 hi).1
 rw [place_get hn hi]
 omega
end Go.Proofs.YtgipiplklaeplaaDoor
namespace Go.Proofs.YtgipiplklaeplaaDoor
open Go.RowKit
theorem wrap_small {x v : Int} (hx : 0 ≤ x ∧ x ≤ 999) (hv : -100000 ≤ v ∧ v ≤ 100000) : wrap64 (x + v) = x + v := by unfold wrap64; omega
end Go.Proofs.YtgipiplklaeplaaDoor
namespace Go.Proofs.YtgipiplklaeplaaDoor
open Go.RowKit
mutual
theorem flat_inj : ∀ (a b : Tm) (r r' : List C), a.flat ++ r = b.flat ++ r' → a = b ∧ r = r'
 | .v n, .v m, r, r', h => by simp [Tm.flat] at h; exact ⟨by rw [h.1], h.2⟩
 | .v n, .i m, r, r', h => by simp [Tm.flat] at h
 | .v n, .f s us, r, r', h => by simp [Tm.flat] at h
 | .i n, .v m, r, r', h => by simp [Tm.flat] at h
 | .i n, .i m, r, r', h => by simp [Tm.flat] at h; exact ⟨by rw [h.1], h.2⟩
 | .i n, .f s us, r, r', h => by simp [Tm.flat] at h
 | .f s us, .v m, r, r', h => by simp [Tm.flat] at h
 | .f s us, .i m, r, r', h => by simp [Tm.flat] at h
 | .f s us, .f s' us', r, r', h => by
  simp only [Tm.flat, List.cons_append, List.cons.injEq, C.mk.injEq, true_and] at h
  obtain ⟨⟨h1, h2⟩, h3⟩ := h
  obtain ⟨h4, h5⟩ := flats_inj us us' r r' (by omega) h3
  exact ⟨by rw [h1, h4], h5⟩
theorem flats_inj : ∀ (as_ bs : List Tm) (r r' : List C), as_.length = bs.length → flats as_ ++ r = flats bs ++ r' → as_ = bs ∧ r = r'
 | [], [], r, r', _, h => ⟨rfl, by simpa [flats] using h⟩
 | a :: as_, b :: bs, r, r', hl, h => by
  rw [flats_cons, flats_cons, List.append_assoc, List.append_assoc] at h
  obtain ⟨h1, h2⟩ := flat_inj a b _ _ h
  obtain ⟨h3, h4⟩ := flats_inj as_ bs r r' (by simpa using hl) h2
  exact ⟨by rw [h1, h3], h4⟩
 | [], b :: bs, r, r', hl, _ => by simp at hl
 | a :: as_, [], r, r', hl, _ => by simp at hl
end
theorem tm_inj {a b : Tm} (h : a.flat = b.flat) : a = b := (flat_inj a b [] [] (by simpa using h)).1
end Go.Proofs.YtgipiplklaeplaaDoor
namespace Go.Proofs.YtgipiplklaeplaaDoor
open Go.RowKit
theorem varsA_ext (cs : List C) : ∀ acc : List Int, ∃ zs, varsA acc cs = acc ++ zs := by
 induction cs with
 | nil => intro acc; exact ⟨[], by simp [varsA_nil]⟩
 | cons c cs ih =>
  intro acc
  rw [varsA_step]
  split
  ·obtain ⟨zs, h⟩ := ih (acc ++ [c.n])
   exact ⟨[c.n] ++ zs, by rw [h]; simp⟩
  ·exact ih acc
theorem place_ext {l zs : List Int} {x : Int} (hn : (l ++ zs).Nodup) (hx : x ∈ l) : placeI (l ++ zs) x = placeI l x := by
 obtain ⟨i, hi⟩ := List.getElem?_of_mem hx
 have hl := (List.getElem?_eq_some_iff.1 hi).1
 have hn' : l.Nodup := (List.nodup_append.1 hn).1
 rw [place_get hn' hi, place_get hn (by rw [List.getElem?_append_left hl]; exact hi)]
theorem mem_varsA {t : List C} {acc : List Int} {x : Int} : x ∈ varsA acc t ↔ x ∈ acc ∨ ∃ c ∈ t, c.kind = 1 ∧ c.n = x := by
 rw [← inI_iff, vars_in]
 simp [inI]
theorem turn_append (f : Int → Int) (a b : List C) : turnF f (a ++ b) = turnF f a ++ turnF f b := by simp [turnF]
def varsL : List Int → List Ltl → List Int
 | xs, [] => xs
 | xs, l :: ls => varsL (varsA xs l.t.flat) ls
theorem varsL_ext : ∀ (ls : List Ltl) (acc : List Int), acc.Nodup → ∃ zs, varsL acc ls = acc ++ zs ∧ (varsL acc ls).Nodup
 | [], acc, h => ⟨[], by simp [varsL], h⟩
 | l :: ls, acc, h => by
  obtain ⟨z1, h1⟩ := varsA_ext l.t.flat acc
  obtain ⟨z2, h2, h3⟩ := varsL_ext ls (varsA acc l.t.flat) (varsA_nodup _ _ h)
  exact ⟨z1 ++ z2, by rw [varsL, h2, h1, List.append_assoc], h3⟩
def numV (c : Cls) : List Int := varsL (varsF c.head.flat) c.body
def numC (c : Cls) : Raw := (turnF (placeI (numV c)) c.head.flat, c.body.map fun l => (l.neg, turnF (placeI (numV c)) l.t.flat))
end Go.Proofs.YtgipiplklaeplaaDoor
namespace Go.Proofs.YtgipiplklaeplaaDoor
open Go.RowKit
mutual
def Tm.ren (f : Int → Int) : Tm → Tm
 | .v n => .v (f n)
 | .i n => .i n
 | .f s ts => .f s (rens f ts)
def rens (f : Int → Int) : List Tm → List Tm
 | [] => []
 | t :: ts => t.ren f :: rens f ts
end
mutual
def Tm.all (P : Int → Prop) : Tm → Prop
 | .v n => P n
 | .i _ => True
 | .f _ ts => alls P ts
def alls (P : Int → Prop) : List Tm → Prop
 | [] => True
 | t :: ts => t.all P ∧ alls P ts
end
theorem rens_cons (f : Int → Int) (t : Tm) (ts : List Tm) : rens f (t :: ts) = t.ren f :: rens f ts := rfl
theorem rens_len (f : Int → Int) : ∀ ts : List Tm, (rens f ts).length = ts.length
 | [] => rfl
 | t :: ts => by rw [rens_cons, List.length_cons, List.length_cons, rens_len f ts]
theorem ren_kind (f : Int → Int) (t : Tm) : (t.ren f).c0.kind = t.c0.kind := by cases t <;> rfl
mutual
theorem ren_flat (f : Int → Int) : ∀ t : Tm, (t.ren f).flat = turnF f t.flat
 | .v n => rfl
 | .i n => rfl
 | .f s ts => by
  have := rens_flat f ts
  simp only [Tm.ren, Tm.flat, rens_len]
  rw [this]
  simp [turnF]
theorem rens_flat (f : Int → Int) : ∀ ts : List Tm, flats (rens f ts) = turnF f (flats ts)
 | [] => rfl
 | t :: ts => by rw [rens_cons, flats_cons, flats_cons, turn_append, ren_flat f t, rens_flat f ts]
end
mutual
theorem ren_size (f : Int → Int) : ∀ t : Tm, (t.ren f).size = t.size
 | .v n => rfl
 | .i n => rfl
 | .f s ts => by simp only [Tm.ren, Tm.size, rens_size f ts]
theorem rens_size (f : Int → Int) : ∀ ts : List Tm, sizes (rens f ts) = sizes ts
 | [] => rfl
 | t :: ts => by rw [rens_cons, sizes_cons, sizes_cons, ren_size f t, rens_size f ts]
end
mutual
theorem ren_ok {f : Int → Int} {P : Int → Prop} (hf : ∀ x, P x → 0 ≤ f x ∧ f x ≤ 999) : ∀ t : Tm, t.ok = true → t.all P → (t.ren f).ok = true
 | .v n, h, hp => by
  have := hf n hp
  simp [Tm.ren, Tm.ok, this.1, this.2]
 | .i n, h, hp => h
 | .f s ts, h, hp => by
  simp only [Tm.ren, Tm.ok, Bool.and_eq_true, rens_len] at h ⊢
  exact ⟨h.1, h.2.1, rens_ok hf ts h.2.2 hp⟩
theorem rens_ok {f : Int → Int} {P : Int → Prop} (hf : ∀ x, P x → 0 ≤ f x ∧ f x ≤ 999) : ∀ ts : List Tm, oks ts = true → alls P ts → oks (rens f ts) = true
 | [], _, _ => rfl
 | t :: ts, h, hp => by
  rw [rens_cons]
  rw [oks_cons, Bool.and_eq_true] at h ⊢
  exact ⟨ren_ok hf t h.1 hp.1, rens_ok hf ts h.2 hp.2⟩
end
mutual
theorem all_of {P : Int → Prop} : ∀ t : Tm, (∀ c ∈ t.flat, c.kind = 1 → P c.n) → t.all P
 | .v n, h => h ⟨1, ⟨#[]⟩, n⟩ (by simp [Tm.flat]) rfl
 | .i n, h => trivial
 | .f s ts, h => alls_of ts fun c hc hk => h c (by simp [Tm.flat, hc]) hk
theorem alls_of {P : Int → Prop} : ∀ ts : List Tm, (∀ c ∈ flats ts, c.kind = 1 → P c.n) → alls P ts
 | [], _ => trivial
 | t :: ts, h => ⟨all_of t fun c hc hk => h c (by rw [flats_cons]; simp [hc]) hk, alls_of ts fun c hc hk => h c (by rw [flats_cons]; simp [hc]) hk⟩
end
theorem idx_ren {f : Int → Int} {P : Int → Prop} (hinj : ∀ x y, P x → P y → f x = f y → x = y) {v : Int} (hv : P v) : ∀ (l : List Int) (k : Nat), (∀ x ∈ l, P x) → idxF (fun y => y == f v) k (l.map f) = idxF (fun y => y == v) k l
 | [], _, _ => rfl
 | x :: l, k, h => by
  rw [List.map_cons, idxF, idxF, idx_ren hinj hv l (k + 1) fun y hy => h y (by simp [hy])]
  have : (f x == f v) = (x == v) := by
   rw [Bool.eq_iff_iff]
   simp only [beq_iff_eq]
   exact ⟨fun he => hinj x v (h x (by simp)) hv he, fun he => by rw [he]⟩
  rw [this]
section
variable {f : Int → Int} {P : Int → Prop} (hinj : ∀ x y, P x → P y → f x = f y → x = y)
include hinj
end
section
variable {f : Int → Int} {P : Int → Prop} (hinj : ∀ x y, P x → P y → f x = f y → x = y)
include hinj
end
def Cls.ren (f : Int → Int) (c : Cls) : Cls := ⟨c.head.ren f, c.body.map fun l => ⟨l.neg, l.t.ren f⟩⟩
theorem varsL_mem : ∀ (ls : List Ltl) (acc : List Int) (x : Int), x ∈ varsL acc ls ↔ x ∈ acc ∨ ∃ l ∈ ls, ∃ c ∈ l.t.flat, c.kind = 1 ∧ c.n = x
 | [], acc, x => by simp [varsL]
 | l :: ls, acc, x => by
  rw [varsL, varsL_mem ls, mem_varsA]
  constructor
  ·rintro ((h | h) | ⟨l', h1, h2⟩)
   ·exact .inl h
   ·exact .inr ⟨l, by simp, h⟩
   ·exact .inr ⟨l', by simp [h1], h2⟩
  ·rintro (h | ⟨l', h1, h2⟩)
   ·exact .inl (.inl h)
   ·rcases List.mem_cons.1 h1 with rfl | h1
    ·exact .inl (.inr h2)
    ·exact .inr ⟨l', h1, h2⟩
theorem numV_mem (c : Cls) (x : Int) : x ∈ numV c ↔ (∃ d ∈ c.head.flat, d.kind = 1 ∧ d.n = x) ∨ ∃ l ∈ c.body, ∃ d ∈ l.t.flat, d.kind = 1 ∧ d.n = x := by
 rw [numV, varsL_mem, mem_vars]
theorem numV_nodup (c : Cls) : (numV c).Nodup := (varsL_ext c.body _ (varsF_nodup _)).choose_spec.2
theorem nodup_len : ∀ (k : Nat) (l : List Int), l.Nodup → (∀ x ∈ l, 0 ≤ x ∧ x < k) → l.length ≤ k
 | 0, l, _, h => by
  cases l with
  | nil => simp
  | cons x l => have := h x (by simp); omega
 | k + 1, l, hn, h => by
  have h1 := nodup_len k (l.erase (k : Int)) (hn.erase _) fun x hx => by
   have h2 := (List.Nodup.mem_erase_iff hn).1 hx
   have := h x h2.2
   have := h2.1
   omega
  have := List.length_erase (a := (k : Int)) (l := l)
  split at this <;> omega
theorem var_range {t : Tm} (h : t.ok = true) : t.all fun x => 0 ≤ x ∧ x ≤ 999 := by
 have key : ∀ N : Nat, (∀ t : Tm, t.size ≤ N → t.ok = true → t.all fun x => 0 ≤ x ∧ x ≤ 999) := by
  intro N
  induction N with
  | zero => intro t ht; have := t.size_pos; omega
  | succ N ih =>
   intro t ht ho
   cases t with
   | v n => simp [Tm.ok] at ho; exact ho
   | i n => trivial
   | f nm us =>
    have hall : ∀ ts : List Tm, sizes ts ≤ N → oks ts = true → alls (fun x => 0 ≤ x ∧ x ≤ 999) ts := by
     intro ts
     induction ts with
     | nil => intro _ _; trivial
     | cons u us ih2 =>
      intro h1 h2
      rw [sizes_cons] at h1
      rw [oks_cons, Bool.and_eq_true] at h2
      exact ⟨ih u (by omega) h2.1, ih2 (by omega) h2.2⟩
    exact hall us (by simp only [Tm.size] at ht; omega) (args_ok ho)
 exact key t.size t (Nat.le_refl _) h
mutual
theorem all_flat {P : Int → Prop} : ∀ t : Tm, t.all P → ∀ c ∈ t.flat, c.kind = 1 → P c.n
 | .v n, h, c, hc, hk => by simp [Tm.flat] at hc; subst hc; exact h
 | .i n, h, c, hc, hk => by simp [Tm.flat] at hc; subst hc; simp at hk
 | .f s ts, h, c, hc, hk => by
  simp only [Tm.flat, List.mem_cons] at hc
  rcases hc with rfl | hc
  ·simp at hk
  ·exact alls_flat ts h c hc hk
theorem alls_flat {P : Int → Prop} : ∀ ts : List Tm, alls P ts → ∀ c ∈ flats ts, c.kind = 1 → P c.n
 | [], _, c, hc, _ => by simp [flats] at hc
 | t :: ts, h, c, hc, hk => by
  rw [flats_cons, List.mem_append] at hc
  rcases hc with hc | hc
  ·exact all_flat t h.1 c hc hk
  ·exact alls_flat ts h.2 c hc hk
end
theorem numV_range {c : Cls} {r : Raw} (h : IsCls c r) : ∀ x ∈ numV c, 0 ≤ x ∧ x ≤ 999 := by
 intro x hx
 rcases (numV_mem c x).1 hx with ⟨d, h1, h2, rfl⟩ | ⟨l, hl, d, h1, h2, rfl⟩
 ·exact all_flat _ (var_range h.hok.1) d h1 h2
 ·exact all_flat _ (var_range (h.bok l hl).1) d h1 h2
theorem numV_place {c : Cls} {r : Raw} (h : IsCls c r) : ∀ x, x ∈ numV c → 0 ≤ placeI (numV c) x ∧ placeI (numV c) x ≤ 999 := by
 intro x hx
 have h1 := place_range (numV_nodup c) hx
 have h2 := nodup_len 1000 (numV c) (numV_nodup c) fun y hy => by have := numV_range h y hy; omega
 omega
def numCls (c : Cls) : Cls := c.ren (placeI (numV c))
theorem numCls_is {c : Cls} {r : Raw} (h : IsCls c r) : IsCls (numCls c) (numC c) := by
 have hp := numV_place h
 have hhead : c.head.all (· ∈ numV c) := all_of _ fun d hd hk => (numV_mem c _).2 (.inl ⟨d, hd, hk, rfl⟩)
 have hbody : ∀ l ∈ c.body, l.t.all (· ∈ numV c) := fun l hl => all_of _ fun d hd hk => (numV_mem c _).2 (.inr ⟨l, hl, d, hd, hk, rfl⟩)
 refine ⟨ren_flat _ _, ⟨ren_ok hp _ h.hok.1 hhead, by rw [numCls, Cls.ren]; simp only; rw [ren_size]; exact h.hok.2.1, (ren_kind _ _).trans h.hok.2.2⟩, ?_, ?_, ?_⟩
 ·simp only [numCls, Cls.ren, numC, List.map_map]
  apply List.map_congr_left
  intro l _
  simp [ren_flat]
 ·intro l hl
  simp only [numCls, Cls.ren] at hl
  obtain ⟨l', hl', rfl⟩ := List.mem_map.1 hl
  obtain ⟨h1, h2, h3⟩ := h.bok l' hl'
  exact ⟨ren_ok hp _ h1 (hbody l' hl'), by rw [ren_size]; exact h2, (ren_kind _ _).trans h3⟩
 ·simp [numCls, Cls.ren]; exact h.len
end Go.Proofs.YtgipiplklaeplaaDoor
namespace Go.Proofs.YtgipiplklaeplaaDoor
open Go.RowKit
def varsLr : List Int → List (Bool × List C) → List Int
 | xs, [] => xs
 | xs, p :: b => varsLr (varsA xs p.2) b
theorem varsLr_ext : ∀ (b : List (Bool × List C)) (acc : List Int), ∃ zs, varsLr acc b = acc ++ zs
 | [], acc => ⟨[], by simp [varsLr]⟩
 | p :: b, acc => by
  obtain ⟨z1, h1⟩ := varsA_ext p.2 acc
  obtain ⟨z2, h2⟩ := varsLr_ext b (varsA acc p.2)
  exact ⟨z1 ++ z2, by rw [varsLr, h2, h1, List.append_assoc]⟩
theorem varsLr_append : ∀ (a b : List (Bool × List C)) (acc : List Int), varsLr acc (a ++ b) = varsLr (varsLr acc a) b
 | [], b, acc => rfl
 | p :: a, b, acc => varsLr_append a b _
theorem varsLr_take {b : List (Bool × List C)} {k : Nat} {p : Bool × List C} (acc : List Int) (h : b[k]? = some p) : varsLr acc (b.take (k + 1)) = varsA (varsLr acc (b.take k)) p.2 := by
 obtain ⟨hl, he⟩ := List.getElem?_eq_some_iff.1 h
 rw [List.take_succ_eq_append_getElem hl, he, varsLr_append]
 rfl
theorem varsLr_le (b : List (Bool × List C)) (k : Nat) (acc : List Int) : (varsLr acc (b.take k)).length ≤ (varsLr acc b).length := by
 conv => rhs; rw [← List.take_append_drop k b, varsLr_append]
 obtain ⟨zs, hz⟩ := varsLr_ext (b.drop k) (varsLr acc (b.take k))
 rw [hz]; simp
theorem mergeV_ext (l : List Int) : ∀ acc, ∃ zs, mergeV acc l = acc ++ zs := by
 induction l with
 | nil => intro acc; exact ⟨[], by simp [mergeV]⟩
 | cons x l ih =>
  intro acc
  rw [mergeV_step]
  split
  ·exact ih acc
  ·obtain ⟨zs, h⟩ := ih (acc ++ [x])
   exact ⟨[x] ++ zs, by rw [h]; simp⟩
theorem mergeV_le (acc l : List Int) : acc.length ≤ (mergeV acc l).length := by
 obtain ⟨zs, h⟩ := mergeV_ext l acc
 rw [h]; simp
def numR (r : Raw) : Raw := (turnF (placeI (varsLr (varsF r.1) r.2)) r.1, r.2.map fun p => (p.1, turnF (placeI (varsLr (varsF r.1) r.2)) p.2))
theorem varsLr_cls : ∀ (ls : List Ltl) (acc : List Int), varsLr acc (ls.map fun l => (l.neg, l.t.flat)) = varsL acc ls
 | [], _ => rfl
 | l :: ls, acc => varsLr_cls ls _
theorem numR_cls {c : Cls} {r : Raw} (h : IsCls c r) : numR r = numC c := by
 unfold numR numC numV
 rw [← h.head, ← h.body, varsLr_cls, List.map_map]
 rfl
def sameBody : List (Bool × List C) → List (Bool × List C) → Bool
 | [], [] => true
 | p :: a, q :: b => p.1 == q.1 && (sameC p.2 q.2 && sameBody a b)
 | _, _ => false
theorem sameBody_iff : ∀ a b : List (Bool × List C), sameBody a b = true ↔ a = b
 | [], [] => by simp [sameBody]
 | [], _ :: _ => by simp [sameBody]
 | _ :: _, [] => by simp [sameBody]
 | (p1, p2) :: a, (q1, q2) :: b => by simp [sameBody, sameC_iff, sameBody_iff a b, and_assoc]
theorem sameBody_len {a b : List (Bool × List C)} (h : a.length ≠ b.length) : sameBody a b = false := by
 rw [← Bool.not_eq_true, sameBody_iff]
 rintro rfl
 exact h rfl
end Go.Proofs.YtgipiplklaeplaaDoor
namespace Go.Proofs.YtgipiplklaeplaaDoor
open Go.RowKit
theorem may_raw (t : List C) (b : List (Bool × List C)) : mayB (t, b) = (atomB t && (decide (b.length ≤ 8) && b.all fun l => atomB l.2)) := rfl
theorem rMay_any (A : Option Addr) (n cap : Nat) (t : List C) (B : Option Addr) (m d : Nat) (b : List (Bool × List C)) (w : World) (h : IsC w A n cap t) (hB : IsLs w B m d b) (hn : n ≤ 1000) (hm : m ≤ 100) (hs : ∀ x ∈ b, x.2.length ≤ 1000) :
  Calls Tryd.prog 39 #[.agg #[.slice A n cap, .slice B m d]] w (RetV w (.bool (mayB (t, b)))) := by
 have hal : Below w.heap.size w (w.alloc (.cells #[.slice A n cap, .slice B m d] 25)) := (Below.refl _ _).alloc (Nat.le_refl _) _
 have hml := hB.len
 have Hml := Lib.hid hml
 clear hml
 go_enter Tryd.func39, Tryd.ntmps39
 go_upto_region 1 with fail
 refine wp_world (Φ := fun X => Below w.heap.size w X ∧ X.heap[w.heap.size]? = some (.cells #[.slice A n cap, .slice B m d] 25 (0, 0))) ⟨hal, alloc_at rfl⟩ ?_
 rintro X ⟨hbX, x0⟩
 have hl0 := block_lt x0
 obtain ⟨g, hg⟩ : ∃ g, g = w.heap.size := ⟨_, rfl⟩
 rw [← hg] at x0 hl0 ⊢
 have hgw : w.heap.size ≤ g := by omega
 clear hg
 go_wp2
 go_loopw [3] (fun i wr => ∃ k : Nat, k ≤ m ∧ i = .int .i64 k ∧ Hid ((b.drop k).all (fun l => atomB l.2) = b.all (fun l => atomB l.2)) ∧ Below X.heap.size X wr) (fun i _ => m - (intOf i).toNat)
 case atStart => exact ⟨0, Nat.zero_le _, rfl, rfl, Below.refl _ _⟩
 case round =>
  obtain ⟨k, hk, rfl, hres, hb⟩ := hrel
  have y0 := (hb.cell (p := ⟨g, 0, none⟩) hl0).trans (cells_of x0 0)
  have y1 := (hb.cell (p := ⟨g, 1, none⟩) hl0).trans (cells_of x0 1)
  simp at y0 y1
  have hbw := hbX.trans (hb.mono hbX.size)
  have hlg : g < wr.heap.size := Nat.lt_of_lt_of_le hl0 hb.size
  by_cases hlt : k < m
  ·obtain ⟨x, hxk⟩ := hB.get hlt
   obtain ⟨bb, off, v, rfl, hbb, _, ⟨A', n', c', rfl, hx⟩, hcells⟩ := hB.at_ hxk
   have h0 := hcells 0 _ rfl
   have h1 := hcells 1 _ rfl
   have hd := drop_get hxk
   have hxs := hs x (List.mem_of_getElem? hxk)
   have hx' := hx.below hbw
   have hxl := hx.len
   have Hd := Lib.hid hd
   obtain ⟨hc, hf⟩ := bcell hbw
   have g1 := (hc bb _ hbb).trans h1
   have hcap := hB.cap_le
   have hbb2 : bb < wr.heap.size := Nat.lt_of_lt_of_le hbb hbw.size
   clear hxk hd hcells h0 h1 hc hf
   cases ho : atomB x.2
   all_goals
    have hg := rAtom_any A' n' c' x.2 wr hx' (by omega)
    rw [ho] at hg
    have Ho := Lib.hid ho
    have Hg := Lib.hid hg
    clear ho hg
    go_wp2_with (first | (go_at_call 38; go_must (refine Hg.out.mono ?_); rintro e w1 ⟨rfl, hb1⟩))
   ·go_ret
    have hall : b.all (fun l => atomB l.2) = false := by have := hres.out; rw [Hd.out, List.all_cons, Ho.out, Bool.false_and] at this; exact this.symm
    exact ⟨ret_bool (by rw [may_raw, hall]; simp), hbw.trans (hb1.mono hbw.size)⟩
   ·go_roundw
    case rel => exact ⟨k + 1, by omega, by go_num, by have := hres.out; rw [Hd.out, List.all_cons, Ho.out, Bool.true_and] at this; exact this, hb.trans (hb1.mono hb.size)⟩
    case measure => simp [intOf]; omega
  ·have hall : b.all (fun l => atomB l.2) = true := by have := hres.out; rw [drop_end Hml.out hlt] at this; simpa using this.symm
   have hg := rAtom_any A n cap t wr (h.below hbw) (by omega)
   have Hall := Lib.hid hall
   clear hall
   cases ho : atomB t
   all_goals
    rw [ho] at hg
    have Ho := Lib.hid ho
    have Hg := Lib.hid hg
    clear ho hg
   ·go_wp2_with (first | (go_at_call 38; go_must (refine Hg.out.mono ?_); rintro e w1 ⟨rfl, hb1⟩))
    go_ret
    exact ⟨ret_bool (by rw [may_raw, Ho.out]; simp), hbw.trans (hb1.mono hbw.size)⟩
   ·have hq : decide ((m : Int) ≤ 8) = decide (m ≤ 8) := decide_eq_decide.2 (by omega)
    go_wp2_with (first | (go_at_call 38; go_must (refine Hg.out.mono ?_); rintro e w1 ⟨rfl, hb1⟩; have q0 := (hb1.cell (p := ⟨g, 0, none⟩) hlg).trans y0; have q1 := (hb1.cell (p := ⟨g, 1, none⟩) hlg).trans y1; have hlg1 := Nat.lt_of_lt_of_le hlg hb1.size))
    go_ret
    exact ⟨ret_bool (by rw [may_raw, Ho.out, Hall.out, Hml.out]; simp [hq]), hbw.trans (hb1.mono hbw.size)⟩
end Go.Proofs.YtgipiplklaeplaaDoor
