/- Texts of this proof that belong together: words of memory, plain laws, walks. -/
import Derived.Test.YtgipiplklaeplaaDoorB05
set_option linter.unusedVariables false
set_option linter.unusedSimpArgs false
namespace Go.Proofs.YtgipiplklaeplaaDoor
open Go.RowKit
structure US where
 l : List C
 tr : List Int
 row : List (Nat × Nat)
 seen : List (Nat × Nat)
def US.bound (s : US) (row : List (Nat × Nat)) (p q : Nat) : US := ⟨bnd s.l p q, s.tr ++ [(p : Int)], row, s.seen⟩
def argPairs (x y : Nat) (c : C) : List (Nat × Nat) := if c.kind = 4 then (List.range c.n.toNat).map (fun i => (x + 1 + i, y + 1 + i)) else []
def uOne (s : US) (row : List (Nat × Nat)) (x y : Nat) : Option US :=
 if x = y ∨ (x, y) ∈ s.seen then some { s with row := row }
 else if (sAt s.l x).kind = 1 ∧ (sAt s.l y).kind = 1 then some (s.bound row (max x y) (min x y))
 else if (sAt s.l x).kind = 1 then if rch s.l y x then none else some (s.bound row x y)
 else if (sAt s.l y).kind = 1 then if rch s.l x y then none else some (s.bound row y x)
 else if (sAt s.l x).beq (sAt s.l y) then some { s with row := argPairs x y (sAt s.l x) ++ row, seen := (x, y) :: s.seen }
 else none
def uRun : Nat → US → Option US
 | 0, _ => none
 | k + 1, s => match s.row with
  | [] => some s
  | (a, b) :: row => match uOne s row (fol s.l a) (fol s.l b) with
   | none => none
   | some s' => uRun k s'
def fuelU (n : Nat) : Nat := 7 * (n * n) + 2
def uniF (l : List C) (tr : List Int) (a b : Nat) : Option (List C × List Int) := (uRun (fuelU l.length) ⟨l, tr, [(a, b)], []⟩).map fun s => (s.l, s.tr)
structure TrOk (l : List C) (tr : List Int) : Prop where
 at_ : ∀ t ∈ tr, ∃ p : Nat, t = (p : Int) ∧ p < l.length ∧ (sAt l p).kind = 1 ∧ (sAt l p).n ≠ (p : Int)
 nd : tr.Nodup
structure UOk (s : US) : Prop where
 good : Good s.l
 tr : TrOk s.l s.tr
 row : ∀ p ∈ s.row, p.1 < s.l.length ∧ p.2 < s.l.length
 seen : ∀ p ∈ s.seen, p.1 < s.l.length ∧ p.2 < s.l.length
 nd : s.seen.Nodup
def US.mu (s : US) : Nat := 7 * (s.l.length * s.l.length - s.seen.length) + s.row.length
theorem nodup_le : ∀ (N : Nat) (l : List Nat), l.Nodup → (∀ x ∈ l, x < N) → l.length ≤ N
 | 0, l, _, h => by
  cases l with
  | nil => simp
  | cons a l => have := h a (by simp); omega
 | N + 1, l, hn, h => by
  have h1 : (l.filter (fun x => x != N)).length ≤ N := nodup_le N _ (hn.filter _) (fun x hx => by
   rw [List.mem_filter] at hx
   have := h x hx.1
   have h2 := hx.2
   simp at h2
   omega)
  have h2 : l.length ≤ (l.filter (fun x => x != N)).length + 1 := by
   clear h1 h
   induction l with
   | nil => simp
   | cons a l ih =>
    rw [List.nodup_cons] at hn
    have ih := ih hn.2
    by_cases e : a = N
    ·subst e
     have : l.filter (fun x => x != a) = l := by
      rw [List.filter_eq_self]
      intro x hx
      have : x ≠ a := by rintro rfl; exact hn.1 hx
      simpa using this
     simp [this]
    ·have : (a != N) = true := by simpa using e
     simp [List.filter_cons, this]; omega
  omega
theorem pairs_le {N : Nat} {l : List (Nat × Nat)} (hn : l.Nodup) (h : ∀ p ∈ l, p.1 < N ∧ p.2 < N) : l.length ≤ N * N := by
 have h1 : (l.map fun p => p.1 * N + p.2).length ≤ N * N := by
  refine nodup_le _ _ ?_ ?_
  ·have inj : ∀ a ∈ l, ∀ b ∈ l, a.1 * N + a.2 = b.1 * N + b.2 → a = b := by
    intro a ha b hb he
    have h1 := (h a ha).2
    have h2 := (h b hb).2
    have e2 : a.2 = b.2 := by
     have := congrArg (· % N) he
     simpa [Nat.add_mod, Nat.mul_mod_left, Nat.mod_eq_of_lt h1, Nat.mod_eq_of_lt h2, Nat.mul_mod] using this
    have e1 : a.1 * N = b.1 * N := by omega
    have : a.1 = b.1 := Nat.eq_of_mul_eq_mul_right (by omega) e1
    exact Prod.ext this e2
   clear h
   induction l with
   | nil => simp
   | cons a l ih =>
    rw [List.nodup_cons] at hn
    rw [List.map_cons, List.nodup_cons]
    refine ⟨fun hm => ?_, ih hn.2 (fun x hx y hy => inj x (by simp [hx]) y (by simp [hy]))⟩
    obtain ⟨b, hb, he⟩ := List.mem_map.1 hm
    have := inj b (by simp [hb]) a (by simp) he
    subst this
    exact hn.1 hb
  ·intro x hx
   obtain ⟨p, hp, rfl⟩ := List.mem_map.1 hx
   obtain ⟨h1, h2⟩ := h p hp
   have : p.1 * N + N ≤ N * N := by rw [← Nat.succ_mul]; exact Nat.mul_le_mul_right _ h1
   omega
 simpa using h1
theorem argPairs_len (x y : Nat) {l : List C} {p : Nat} {c : C} (h : okSl l p c = true) : (argPairs x y c).length ≤ 6 := by
 unfold argPairs
 split
 ·rename_i k
  have := ok_top h k
  simp; omega
 ·simp
theorem beq_true {a b : C} (h : a.beq b = true) : a = b := (beq_iff a b).1 h
theorem trOk_bnd {l : List C} {tr : List Int} (h : TrOk l tr) {p q : Nat} (hf : Free1 l p) (hne : q ≠ p) : TrOk (bnd l p q) (tr ++ [(p : Int)]) := by
 refine ⟨fun t ht => ?_, ?_⟩
 ·rcases List.mem_append.1 ht with ht | ht
  ·obtain ⟨r, rfl, h1, h2, h3⟩ := h.at_ t ht
   have e : r ≠ p := by rintro rfl; exact h3 hf.own
   exact ⟨r, rfl, by rw [bnd_len]; exact h1, by rw [bnd_other e]; exact h2, by rw [bnd_other e]; exact h3⟩
  ·simp at ht
   subst ht
   exact ⟨p, rfl, by rw [bnd_len]; exact hf.lt, by rw [bnd_kind hf.lt]; exact hf.kind, by rw [bnd_self hf.lt]; simp; omega⟩
 ·rw [List.nodup_append]
  refine ⟨h.nd, by simp, fun a ha b hb => ?_⟩
  simp at hb
  subst hb
  rintro rfl
  obtain ⟨r, hr, h1, h2, h3⟩ := h.at_ _ ha
  have : p = r := by omega
  subst this
  exact h3 hf.own
theorem UOk.bound {s : US} (h : UOk s) {row : List (Nat × Nat)} (hr : ∀ p ∈ row, p.1 < s.l.length ∧ p.2 < s.l.length) {p q : Nat} (hf : Free1 s.l p) (hq : q < s.l.length) (hn : ¬ Path s.l q p) : UOk (s.bound row p q) := by
 have hne : q ≠ p := by rintro rfl; exact hn (.refl _)
 exact ⟨h.good.bind hf hq hn, trOk_bnd h.tr hf hne, fun r hr' => by simp only [US.bound, bnd_len]; exact hr r hr', fun r hr' => by simp only [US.bound, bnd_len]; exact h.seen r hr', h.nd⟩
theorem free_path {l : List C} {p q : Nat} (hf : Free1 l q) (h : Path l q p) : p = q := by
 cases h with
 | refl => rfl
 | step hq _ => rw [hf.leads] at hq; cases hq
theorem uOne_ok {s : US} (h : UOk s) {row : List (Nat × Nat)} {a b : Nat} (hrow : s.row = (a, b) :: row) {s' : US} (hs : uOne s row (fol s.l a) (fol s.l b) = some s') : UOk s' ∧ s'.mu < s.mu ∧ s'.l.length = s.l.length := by
 obtain ⟨ha, hb⟩ := h.row (a, b) (by rw [hrow]; simp)
 have hr : ∀ p ∈ row, p.1 < s.l.length ∧ p.2 < s.l.length := fun p hp => h.row p (by rw [hrow]; simp [hp])
 have hlen : s.row.length = row.length + 1 := by rw [hrow]; rfl
 obtain ⟨ex, hx⟩ := h.good.fol_end ha
 obtain ⟨ey, hy⟩ := h.good.fol_end hb
 have kx := h.good.fol_kind ha
 have ky := h.good.fol_kind hb
 simp only at ha hb
 generalize fol s.l a = x at *
 generalize fol s.l b = y at *
 unfold uOne at hs
 by_cases c1 : x = y ∨ (x, y) ∈ s.seen
 ·rw [if_pos c1] at hs
  injection hs with hs
  subst hs
  exact ⟨⟨h.good, h.tr, hr, h.seen, h.nd⟩, by simp only [US.mu]; omega, rfl⟩
 rw [if_neg c1] at hs
 have free : ∀ z, z < s.l.length → onB s.l z = false → (sAt s.l z).kind = 1 → Free1 s.l z := fun z hz ho k => ⟨hz, k, by rw [on_ref k] at ho; simpa using ho⟩
 have hmu : ∀ p q, (s.bound row p q).mu < s.mu := fun p q => by simp only [US.mu, US.bound, bnd_len]; omega
 by_cases c2 : (sAt s.l x).kind = 1 ∧ (sAt s.l y).kind = 1
 ·rw [if_pos c2] at hs
  injection hs with hs
  subst hs
  refine ⟨?_, hmu _ _, by simp [US.bound, bnd_len]⟩
  have fx := free x hx ex c2.1
  have fy := free y hy ey c2.2
  have hxy : x ≠ y := fun e => c1 (.inl e)
  rcases Nat.le_total x y with e | e
  ·rw [Nat.max_eq_right e, Nat.min_eq_left e]
   exact h.bound hr fy hx (fun hp => hxy ((free_path fx hp).symm))
  ·rw [Nat.max_eq_left e, Nat.min_eq_right e]
   exact h.bound hr fx hy (fun hp => hxy (free_path fy hp))
 rw [if_neg c2] at hs
 by_cases c3 : (sAt s.l x).kind = 1
 ·rw [if_pos c3] at hs
  cases hc : rch s.l y x
  ·rw [hc] at hs
   simp at hs
   subst hs
   exact ⟨h.bound hr (free x hx ex c3) hy ((h.good.rch_no hy).1 hc), hmu _ _, by simp [US.bound, bnd_len]⟩
  ·rw [hc] at hs; simp at hs
 rw [if_neg c3] at hs
 by_cases c4 : (sAt s.l y).kind = 1
 ·rw [if_pos c4] at hs
  cases hc : rch s.l x y
  ·rw [hc] at hs
   simp at hs
   subst hs
   exact ⟨h.bound hr (free y hy ey c4) hx ((h.good.rch_no hx).1 hc), hmu _ _, by simp [US.bound, bnd_len]⟩
  ·rw [hc] at hs; simp at hs
 rw [if_neg c4] at hs
 by_cases c5 : (sAt s.l x).beq (sAt s.l y) = true
 ·rw [if_pos c5] at hs
  injection hs with hs
  subst hs
  have he := beq_true c5
  have ho := shp_at h.good.shp hx
  have hoy := shp_at h.good.shp hy
  have hal := argPairs_len x y ho
  have hnd : ((x, y) :: s.seen).Nodup := List.nodup_cons.2 ⟨fun hm => c1 (.inr hm), h.nd⟩
  have hsn : ∀ p ∈ (x, y) :: s.seen, p.1 < s.l.length ∧ p.2 < s.l.length := by
   intro p hp
   rcases List.mem_cons.1 hp with rfl | hp
   ·exact ⟨hx, hy⟩
   ·exact h.seen p hp
  refine ⟨⟨h.good, h.tr, ?_, hsn, hnd⟩, ?_, rfl⟩
  ·intro p hp
   rcases List.mem_append.1 hp with hp | hp
   ·unfold argPairs at hp
    split at hp
    ·rename_i k4
     obtain ⟨i, hi, rfl⟩ := List.mem_map.1 hp
     have h1 := ok_top ho k4
     have h2 := ok_top hoy (by rw [← he]; exact k4)
     rw [← he] at h2
     simp at hi
     simp only
     omega
    ·cases hp
   ·exact hr p hp
  ·have := pairs_le hnd hsn
   simp only [List.length_cons] at this
   simp only [US.mu, List.length_append, List.length_cons]
   omega
 ·rw [if_neg c5] at hs; cases hs
theorem uRun_zero {s : US} {k : Nat} (h : s.row = []) (hk : 0 < k) : uRun k s = some s := by
 obtain ⟨k, rfl⟩ : ∃ j, k = j + 1 := ⟨k - 1, by omega⟩
 simp [uRun, h]
theorem uRun_step {s : US} {k a b : Nat} {row : List (Nat × Nat)} (h : s.row = (a, b) :: row) : uRun (k + 1) s = match uOne s row (fol s.l a) (fol s.l b) with
  | none => none
  | some s' => uRun k s' := by
 conv => lhs; unfold uRun
 rw [h]
theorem uRun_ok : ∀ (k : Nat) (s s' : US), UOk s → uRun k s = some s' → UOk s' ∧ s'.row = [] ∧ s'.l.length = s.l.length
 | 0, s, s', _, hr => by cases hr
 | k + 1, s, s', h, hr => by
  cases hrow : s.row with
  | nil =>
   rw [uRun_zero hrow (by omega)] at hr
   injection hr with hr
   subst hr
   exact ⟨h, hrow, rfl⟩
  | cons p row =>
   obtain ⟨a, b⟩ := p
   rw [uRun_step hrow] at hr
   cases ho : uOne s row (fol s.l a) (fol s.l b) with
   | none => rw [ho] at hr; cases hr
   | some s1 =>
    rw [ho] at hr
    obtain ⟨h1, _, h2⟩ := uOne_ok h hrow ho
    obtain ⟨h3, h4, h5⟩ := uRun_ok k s1 s' h1 hr
    exact ⟨h3, h4, by omega⟩
theorem start_ok {l : List C} {tr : List Int} (h : Good l) (ht : TrOk l tr) {a b : Nat} (ha : a < l.length) (hb : b < l.length) : UOk ⟨l, tr, [(a, b)], []⟩ :=
 ⟨h, ht, fun p hp => by simp at hp; subst hp; exact ⟨ha, hb⟩, by simp, by simp⟩
theorem start_mu (l : List C) (tr : List Int) (a b : Nat) : (⟨l, tr, [(a, b)], []⟩ : US).mu < fuelU l.length := by
 simp only [US.mu, fuelU, List.length_nil, List.length_cons]; omega
def US.flip (s : US) : US := ⟨s.l, s.tr, s.row.map Prod.swap, s.seen.map Prod.swap⟩
theorem swap_mem {x y : Nat} {l : List (Nat × Nat)} : (y, x) ∈ l.map Prod.swap ↔ (x, y) ∈ l := by
 constructor
 ·intro h
  obtain ⟨⟨a, b⟩, hp, he⟩ := List.mem_map.1 h
  simp [Prod.swap] at he
  obtain ⟨rfl, rfl⟩ := he
  exact hp
 ·intro h
  exact List.mem_map.2 ⟨(x, y), h, rfl⟩
theorem uOne_flip (s : US) (row : List (Nat × Nat)) (x y : Nat) : uOne s.flip (row.map Prod.swap) y x = (uOne s row x y).map US.flip := by
 unfold uOne
 by_cases c1 : x = y ∨ (x, y) ∈ s.seen
 ·have c1' : y = x ∨ (y, x) ∈ s.flip.seen := by
   rcases c1 with rfl | c1
   ·exact .inl rfl
   ·exact .inr (swap_mem.2 c1)
  rw [if_pos c1, if_pos c1']; rfl
 have c1' : ¬ (y = x ∨ (y, x) ∈ s.flip.seen) := by
  rintro (rfl | h)
  ·exact c1 (.inl rfl)
  ·exact c1 (.inr (swap_mem.1 h))
 rw [if_neg c1, if_neg c1']
 have hl : s.flip.l = s.l := rfl
 rw [hl]
 by_cases c2 : (sAt s.l x).kind = 1 ∧ (sAt s.l y).kind = 1
 ·rw [if_pos c2, if_pos ⟨c2.2, c2.1⟩, Nat.max_comm, Nat.min_comm]; rfl
 rw [if_neg c2, if_neg (fun h => c2 ⟨h.2, h.1⟩)]
 by_cases c3 : (sAt s.l x).kind = 1
 ·have c4 : ¬ (sAt s.l y).kind = 1 := fun h => c2 ⟨c3, h⟩
  rw [if_pos c3, if_neg c4, if_pos c3]
  split <;> rfl
 rw [if_neg c3]
 by_cases c4 : (sAt s.l y).kind = 1
 ·rw [if_pos c4, if_pos c4]
  split <;> rfl
 rw [if_neg c4, if_neg c4, if_neg c3]
 by_cases c5 : (sAt s.l x).beq (sAt s.l y) = true
 ·have he := beq_true c5
  rw [if_pos c5, if_pos (by rw [beq_iff]; exact he.symm)]
  simp only [Option.map, US.flip, Option.some.injEq, US.mk.injEq, true_and, List.map_append, List.map_cons, Prod.swap, and_true]
  congr 1
  unfold argPairs
  rw [← he]
  split
  ·rw [List.map_map]; rfl
  ·rfl
 ·rw [if_neg c5, if_neg (fun h => c5 (by rw [beq_iff] at h ⊢; exact h.symm))]; rfl
theorem uRun_flip : ∀ (k : Nat) (s : US), uRun k s.flip = (uRun k s).map US.flip
 | 0, s => rfl
 | k + 1, s => by
  cases hrow : s.row with
  | nil =>
   rw [uRun_zero hrow (by omega), uRun_zero (by simp [US.flip, hrow]) (by omega)]; rfl
  | cons p row =>
   obtain ⟨a, b⟩ := p
   have hrow' : s.flip.row = (b, a) :: row.map Prod.swap := by simp [US.flip, hrow, Prod.swap]
   rw [uRun_step hrow, uRun_step hrow']
   have hl : s.flip.l = s.l := rfl
   rw [hl, uOne_flip]
   cases uOne s row (fol s.l a) (fol s.l b) with
   | none => rfl
   | some s1 => exact uRun_flip k s1
theorem uniF_comm (l : List C) (tr : List Int) (a b : Nat) : uniF l tr b a = uniF l tr a b := by
 have := uRun_flip (fuelU l.length) ⟨l, tr, [(a, b)], []⟩
 unfold uniF
 rw [show (⟨l, tr, [(b, a)], []⟩ : US) = US.flip ⟨l, tr, [(a, b)], []⟩ from rfl, this]
 cases uRun (fuelU l.length) ⟨l, tr, [(a, b)], []⟩ <;> rfl
end Go.Proofs.YtgipiplklaeplaaDoor
namespace Go.Proofs.YtgipiplklaeplaaDoor
open Go.RowKit
def extA (a : List Int) (v : Nat) : List Int := a ++ List.replicate (v + 1 - a.length) (-1)
def atA (a : List Int) (v : Nat) : Int := (a[v]?).getD (-1)
theorem atA_ext (a : List Int) (v u : Nat) : atA (extA a v) u = atA a u := by
 unfold atA extA
 by_cases h : u < a.length
 ·rw [List.getElem?_append_left h]
 ·rw [List.getElem?_append_right (by omega), List.getElem?_eq_none (l := a) (by omega), List.getElem?_replicate]
  split <;> rfl
theorem extA_len (a : List Int) (v : Nat) : v < (extA a v).length := by simp [extA]; omega
theorem extA_get (a : List Int) (v : Nat) : (extA a v)[v]? = some (atA a v) := by
 have h := extA_len a v
 have := atA_ext a v v
 unfold atA at this ⊢
 rw [← this, List.getElem?_eq_getElem h]; rfl
theorem extA_has {a : List Int} {v : Nat} (h : v < a.length) : extA a v = a := by simp [extA, show v + 1 - a.length = 0 by omega]
theorem extA_step {a : List Int} {v : Nat} (h : a.length ≤ v) : extA (a ++ [-1]) v = extA a v := by
 have h2 : v + 1 - a.length = (v + 1 - (a ++ [(-1 : Int)]).length) + 1 := by simp; omega
 unfold extA
 rw [h2, List.replicate_succ, List.append_assoc]; rfl
theorem extA_len_le (a : List Int) (v : Nat) : (extA a v).length = max a.length (v + 1) := by simp [extA]; omega
def emp : ByteArray := ⟨#[]⟩
def slotA : Tm → Nat → Nat → List Int → C × List Int
 | .i n, _, _, a => (⟨2, emp, n⟩, a)
 | .f _ _, _, q, a => (⟨3, emp, q⟩, a)
 | .v n, P, _, a => if atA a n.toNat < 0 then (⟨1, emp, P⟩, (extA a n.toNat).set n.toNat P) else (⟨1, emp, atA a n.toNat⟩, extA a n.toNat)
mutual
def Tm.hs : Tm → Nat
 | .f _ us => 1 + us.length + hss us
 | _ => 0
def hss : List Tm → Nat
 | [] => 0
 | u :: us => u.hs + hss us
end
def slotsA : List Tm → Nat → Nat → List Int → List C × List Int
 | [], _, _, a => ([], a)
 | u :: us, P, q, a => ((slotA u P q a).1 :: (slotsA us (P + 1) (q + u.hs) (slotA u P q a).2).1, (slotsA us (P + 1) (q + u.hs) (slotA u P q a).2).2)
mutual
def layA : Tm → Nat → List Int → List C × List Int
 | .f s us, P, a => (⟨4, s, us.length⟩ :: ((slotsA us (P + 1) (P + 1 + us.length) a).1 ++ (laysA us (P + 1 + us.length) (slotsA us (P + 1) (P + 1 + us.length) a).2).1), (laysA us (P + 1 + us.length) (slotsA us (P + 1) (P + 1 + us.length) a).2).2)
 | .i _, _, a => ([], a)
 | .v _, _, a => ([], a)
def laysA : List Tm → Nat → List Int → List C × List Int
 | [], _, a => ([], a)
 | u :: us, P, a => ((layA u P a).1 ++ (laysA us (P + u.hs) (layA u P a).2).1, (laysA us (P + u.hs) (layA u P a).2).2)
end
theorem slotsA_len : ∀ (us : List Tm) (P q : Nat) (a : List Int), (slotsA us P q a).1.length = us.length
 | [], _, _, _ => rfl
 | u :: us, P, q, a => by simp [slotsA, slotsA_len us]
mutual
theorem layA_len : ∀ (T : Tm) (P : Nat) (a : List Int), (layA T P a).1.length = T.hs
 | .f s us, P, a => by simp [layA, Tm.hs, slotsA_len, laysA_len us]; omega
 | .i _, _, _ => rfl
 | .v _, _, _ => rfl
theorem laysA_len : ∀ (us : List Tm) (P : Nat) (a : List Int), (laysA us P a).1.length = hss us
 | [], _, _ => rfl
 | u :: us, P, a => by simp [laysA, hss, layA_len u, laysA_len us]
end
def putA (l : List C) (T : Tm) (a : List Int) : List C × Nat × List Int := match T with
 | .f s us => (l ++ (layA (.f s us) l.length a).1, l.length, (layA (.f s us) l.length a).2)
 | .i n => (l ++ [⟨2, emp, n⟩], l.length, a)
 | .v n => if atA a n.toNat < 0 then (l ++ [⟨1, emp, l.length⟩], l.length, (extA a n.toNat).set n.toNat l.length) else (l, (atA a n.toNat).toNat, extA a n.toNat)
def AtOk (L : List C) (n0 : Nat) (a : List Int) : Prop := ∀ v, atA a v = -1 ∨ ∃ p : Nat, atA a v = (p : Int) ∧ p < L.length ∧ (p < n0 ∨ Free1 L p)
def Seg (L : List C) (P : Nat) (xs : List C) : Prop := ∀ (i : Nat) (c : C), xs[i]? = some c → L[P + i]? = some c
theorem Seg.cons {L : List C} {P : Nat} {c : C} {xs : List C} (h : Seg L P (c :: xs)) : L[P]? = some c ∧ Seg L (P + 1) xs :=
 ⟨by have := h 0 c rfl; simpa using this, fun i d hd => by have := h (i + 1) d (by simpa using hd); rwa [show P + (i + 1) = P + 1 + i by omega] at this⟩
theorem Seg.app {L : List C} {P : Nat} {xs ys : List C} (h : Seg L P (xs ++ ys)) : Seg L P xs ∧ Seg L (P + xs.length) ys :=
 ⟨fun i c hc => h i c (by rw [List.getElem?_append_left (List.getElem?_eq_some_iff.1 hc).1]; exact hc),
  fun i c hc => by have := h (xs.length + i) c (by rw [List.getElem?_append_right (by omega)]; simpa using hc); rwa [← Nat.add_assoc] at this⟩
theorem Seg.lt {L : List C} {P : Nat} {xs : List C} (h : Seg L P xs) (hn : 0 < xs.length) : P + xs.length ≤ L.length := by
 have := h (xs.length - 1) _ (List.getElem?_eq_getElem (by omega))
 have := (List.getElem?_eq_some_iff.1 this).1
 omega
structure EdgeOk (L : List C) (n0 p : Nat) : Prop where
 ok : okSl L p (sAt L p) = true
 ref : (sAt L p).kind = 1 → ∃ q : Nat, (sAt L p).n = (q : Int) ∧ (q = p ∨ q < n0 ∨ Free1 L q)
 ptr : (sAt L p).kind = 3 → ∃ q : Nat, (sAt L p).n = (q : Int) ∧ p < q ∧ q < L.length
theorem edges_good {l L : List C} (hp : Pre l L) (hg : Good l) (he : ∀ p, l.length ≤ p → p < L.length → EdgeOk L l.length p) : Good L := by
 refine ⟨shp_mk fun p hpl => ?_, ?_⟩
 ·rcases Nat.lt_or_ge p l.length with h | h
  ·rw [hp.sAt h]
   have ho := shp_at hg.shp h
   have hle := hp.le
   rcases ok_kind ho with k | k | k | k
   ·obtain ⟨h1, h2, h3⟩ := ok_ref ho k
    simp only [okSl, k, if_true, h1, empty_toList]
    simp; omega
   ·obtain ⟨h1, h2, h3⟩ := ok_num ho k
    simp only [okSl, k, h1, empty_toList]
    simp; omega
   ·obtain ⟨h1, h2, h3, h4⟩ := ok_ptr ho k
    simp only [okSl, k, h1, empty_toList]
    rw [hp.sAt (by omega)]
    simp [h4]; omega
   ·obtain ⟨h1, h2, h3, h4, h5⟩ := ok_top ho k
    have h6 : ((List.range (sAt l p).n.toNat).any fun i => (sAt L (p + 1 + i)).kind == 4) = false := by
     rw [List.any_eq_false]
     intro i hi
     have hi' : i < (sAt l p).n.toNat := by simpa using hi
     rw [hp.sAt (by omega)]
     simpa using h5 i hi'
    simp only [okSl, k, h6, h4]
    simp; omega
  ·exact (he p h hpl).ok
 ·obtain ⟨rk, hr⟩ := hg.ac
  classical
  obtain ⟨M, hM⟩ : ∃ M, ∀ p, p < l.length → rk p < M := by
   have : ∀ n, ∃ M, ∀ p, p < n → rk p < M := by
    intro n
    induction n with
    | zero => exact ⟨0, fun p hp => by omega⟩
    | succ n ih =>
     obtain ⟨M, hM⟩ := ih
     refine ⟨max M (rk n + 1), fun p hp => ?_⟩
     by_cases e : p = n
     ·subst e; omega
     ·have := hM p (by omega); omega
   exact this _
  refine ⟨fun p => if p < l.length then rk p else if (sAt L p).kind = 1 ∧ (sAt L p).n = p then 0 else if (sAt L p).kind = 1 then M + 1 else M + 2 + (L.length - p), fun p q hq => ?_⟩
  rcases Nat.lt_or_ge p l.length with h | h
  ·rw [hp.leads h] at hq
   have hql := leads_lt hg.shp hq
   simp only [if_pos h, if_pos hql]
   exact hr p q hq
  ·have hpL : p < L.length := by
    by_cases h' : p < L.length
    ·exact h'
    ·rw [leads_past (by omega)] at hq; cases hq
   have hE := he p h hpL
   have hnl : ¬ p < l.length := by omega
   rcases ok_kind hE.ok with k | k | k | k
   ·obtain ⟨t, ht, hc⟩ := hE.ref k
    cases ho : onB L p
    ·rw [leads_no ho (by rw [k]; decide)] at hq; cases hq
    ·rw [leads_on ho] at hq
     have hqt : q = t := by simp [nx, ht] at hq; exact hq
     subst hqt
     have hne : q ≠ p := by
      rintro rfl
      rw [on_ref k, ht] at ho
      simp at ho
     have hne2 : ¬ ((sAt L p).kind = 1 ∧ (sAt L p).n = p) := by rw [ht]; omega
     simp only [if_neg hnl, if_neg hne2, if_pos k]
     rcases hc with hc | hc | hc
     ·exact absurd hc hne
     ·simp only [if_pos hc]; have := hM q hc; omega
     ·split
      ·rename_i h1; have := hM q h1; omega
      ·rw [if_pos ⟨hc.kind, hc.own⟩]; omega
   ·rw [leads_no (on_num k) (by rw [k]; decide)] at hq; cases hq
   ·obtain ⟨t, ht, h1, h2⟩ := hE.ptr k
    rw [leads_on (on_ptr k)] at hq
    have hqt : q = t := by simp [nx, ht] at hq; exact hq
    subst hqt
    have h3 : ¬ q < l.length := by omega
    have hk1 : ¬ (sAt L p).kind = 1 := by omega
    simp only [if_neg hnl, if_neg h3, hk1, false_and, if_false]
    split
    ·omega
    ·split <;> omega
   ·rw [leads_top k] at hq
    obtain ⟨i, hi, rfl⟩ := List.mem_map.1 hq
    have h3 : ¬ p + 1 + i < l.length := by omega
    have hk1 : ¬ (sAt L p).kind = 1 := by omega
    simp only [if_neg hnl, if_neg h3, hk1, false_and, if_false]
    split
    ·omega
    ·split <;> omega
end Go.Proofs.YtgipiplklaeplaaDoor
