/- Texts of this proof that belong together: words of memory, plain laws, walks. -/
import Derived.Test.YtgipiplklaeplaaDoorB34
import Derived.Test.YtgipiplklaeplaaDoorB45
set_option linter.unusedVariables false
set_option linter.unusedSimpArgs false
namespace Go.Proofs.YtgipiplklaeplaaDoor
open Go.RowKit
theorem lkB_app : ∀ (s : List (Int × List C)) (t : List (Int × List C)) (n : Int), lkB (s ++ t) n = match lkB s n with | some x => some x | none => lkB t n
 | [], t, n => by simp [lkB]
 | p :: s, t, n => by
  show (if p.1 = n then some p.2 else lkB (s ++ t) n) = match (if p.1 = n then some p.2 else lkB s n) with | some x => some x | none => lkB t n
  by_cases h : p.1 = n
  ·rw [if_pos h, if_pos h]
  ·rw [if_neg h, if_neg h]; exact lkB_app s t n
structure MtI (P T : Tm) (i z : Nat) (Ps Us : List Tm) (s : List (Int × List C)) : Prop where
 pd : P.flat.drop i = flats Ps
 td : T.flat.drop z = flats Us
 len : Ps.length = Us.length
 sf : ∀ q ∈ s, ∃ u : Tm, q.2 = u.flat
 vs : ∀ (j : Nat) (c : C), j < i → P.flat[j]? = some c → c.kind = 1 → c.n ∈ s.map Prod.fst
 own : ∀ q ∈ s, lkB s q.1 = some q.2
 short : ∀ q ∈ s, q.2.length ≤ T.flat.length
 iff : (∃ σ, P.sub σ = T) ↔ ∃ σ : Int → Tm, (∀ q ∈ s, (σ q.1).flat = q.2) ∧ subs σ Ps = Us
section
variable {P T : Tm} {i z : Nat} {Ps Us : List Tm} {s : List (Int × List C)}
theorem MtI.start (P T : Tm) : MtI P T 0 0 [P] [T] [] :=
 ⟨by simp [flats], by simp [flats], rfl, by simp, fun j c h => by omega, by simp, by simp, ⟨fun ⟨σ, h⟩ => ⟨σ, by simp, by simp [subs, h]⟩, fun ⟨σ, _, h⟩ => ⟨σ, by simpa [subs] using h⟩⟩⟩
theorem flat_cell {t : Tm} {ts : List Tm} {l : List C} {k : Nat} (h : l.drop k = flats (t :: ts)) : l[k]? = some t.c0 ∧ k < l.length ∧ l.drop (k + t.size) = flats ts ∧ l.drop (k + 1) = flats (t.args ++ ts) := by
 rw [flats_cons] at h
 obtain ⟨r, hr⟩ := flat_c0 t
 have h0 : (l.drop k)[0]? = some t.c0 := by rw [h, hr]; rfl
 rw [List.getElem?_drop, Nat.add_zero] at h0
 refine ⟨h0, (List.getElem?_eq_some_iff.1 h0).1, ?_, ?_⟩
 ·rw [← List.drop_drop, h, ← flat_size, List.drop_left]
 ·rw [← List.drop_drop, h, flats_app9]
  cases t with
  | v n => simp [Tm.flat, Tm.args, flats]
  | i n => simp [Tm.flat, Tm.args, flats]
  | f nm us => simp [Tm.flat, Tm.args]
theorem MtI.lt (h : MtI P T i z Ps Us s) (hi : i < P.flat.length) : ∃ p u Ps' Us', Ps = p :: Ps' ∧ Us = u :: Us' ∧ P.flat[i]? = some p.c0 ∧ T.flat[z]? = some u.c0 := by
 cases hP : Ps with
 | nil =>
  have := h.pd
  rw [hP] at this
  have h2 := congrArg List.length this
  simp [flats] at h2
  omega
 | cons p Ps' =>
  cases hU : Us with
  | nil => have := h.len; rw [hP, hU] at this; simp at this
  | cons u Us' =>
   have h1 := h.pd
   have h2 := h.td
   rw [hP] at h1
   rw [hU] at h2
   exact ⟨p, u, Ps', Us', rfl, rfl, (flat_cell h1).1, (flat_cell h2).1⟩
theorem MtI.sub {u : Tm} (h : MtI P T i z Ps (u :: Us) s) : subT [T] z = some u := by
 obtain ⟨h1, h2, _, _⟩ := flat_cell h.td
 have hs : z < sizes [T] := by rw [flat_size] at h2; simpa [sizes] using h2
 obtain ⟨u', hu'⟩ := subT_some z [T] hs
 obtain ⟨r, hr⟩ := subT_drop z [T] u' hu'
 have : (flats [T]).drop z = u.flat ++ flats Us := by rw [← flats_cons, ← h.td]; simp [flats]
 rw [hr] at this
 rw [hu', (flat_inj _ _ _ _ this).1]
theorem vs_step (h : MtI P T i z Ps Us s) {c : C} (hc : P.flat[i]? = some c) {s' : List (Int × List C)} (hs : ∀ n ∈ s.map Prod.fst, n ∈ s'.map Prod.fst) (hn : c.kind = 1 → c.n ∈ s'.map Prod.fst) :
  ∀ (j : Nat) (d : C), j < i + 1 → P.flat[j]? = some d → d.kind = 1 → d.n ∈ s'.map Prod.fst := fun j d hj hd hk => by
 by_cases e : j = i
 ·subst e
  rw [hc] at hd
  injection hd with hd
  subst hd
  exact hn hk
 ·exact hs _ (h.vs j d (by omega) hd hk)
theorem mem_fst_of {s : List (Int × List C)} {n : Int} {x : List C} (h : lkB s n = some x) : n ∈ s.map Prod.fst := List.mem_map.2 ⟨_, lkB_some h, rfl⟩
theorem MtI.had {n : Int} {u : Tm} {Ps' Us' : List Tm} (h : MtI P T i z (.v n :: Ps') (u :: Us') s) (hb : lkB s n = some u.flat) : MtI P T (i + 1) (z + u.size) Ps' Us' s := by
 obtain ⟨p1, p2, p3, p4⟩ := flat_cell h.pd
 obtain ⟨t1, t2, t3, t4⟩ := flat_cell h.td
 refine ⟨p3, t3, by simpa using h.len, h.sf, vs_step h p1 (fun _ h => h) (fun _ => mem_fst_of hb), h.own, h.short, h.iff.trans ⟨fun ⟨σ, h1, h2⟩ => ⟨σ, h1, ?_⟩, fun ⟨σ, h1, h2⟩ => ⟨σ, h1, ?_⟩⟩⟩
 ·simp only [subs, List.cons.injEq] at h2; exact h2.2
 ·have := h1 _ (lkB_some hb)
  simp only at this
  simp only [subs, Tm.sub]
  rw [tm_inj this, h2]
theorem MtI.not {n : Int} {u : Tm} {x : List C} {Ps' Us' : List Tm} (h : MtI P T i z (.v n :: Ps') (u :: Us') s) (hb : lkB s n = some x) (hx : x ≠ u.flat) : ¬ ∃ σ, P.sub σ = T := fun he => by
 obtain ⟨σ, h1, h2⟩ := h.iff.1 he
 have := h1 _ (lkB_some hb)
 simp only [subs, Tm.sub, List.cons.injEq] at h2 this
 rw [h2.1] at this
 exact hx this.symm
theorem MtI.new {n : Int} {u : Tm} {Ps' Us' : List Tm} (h : MtI P T i z (.v n :: Ps') (u :: Us') s) (hb : lkB s n = none) : MtI P T (i + 1) (z + u.size) Ps' Us' (s ++ [(n, u.flat)]) := by
 obtain ⟨p1, p2, p3, p4⟩ := flat_cell h.pd
 obtain ⟨t1, t2, t3, t4⟩ := flat_cell h.td
 refine ⟨p3, t3, by simpa using h.len, fun q hq => ?_, vs_step h p1 (fun x hx => by rw [List.map_append]; exact List.mem_append.2 (.inl hx)) (fun _ => by simp [Tm.c0]), fun q hq => ?_, fun q hq => ?_, h.iff.trans ⟨fun ⟨σ, h1, h2⟩ => ⟨σ, ?_, ?_⟩, fun ⟨σ, h1, h2⟩ => ⟨σ, ?_, ?_⟩⟩⟩
 ·rcases List.mem_append.1 hq with hq | hq
  ·exact h.sf q hq
  ·simp at hq; subst hq; exact ⟨u, rfl⟩
 ·rw [lkB_app]
  rcases List.mem_append.1 hq with hq | hq
  ·rw [h.own q hq]
  ·simp at hq; subst hq; simp only [hb]; simp [lkB]
 ·rcases List.mem_append.1 hq with hq | hq
  ·exact h.short q hq
  ·simp at hq; subst hq
   simp only
   have h5 := congrArg List.length h.td
   rw [flats_cons, List.length_drop, List.length_append] at h5
   omega
 ·intro q hq
  rcases List.mem_append.1 hq with hq | hq
  ·exact h1 q hq
  ·simp at hq; subst hq
   simp only [subs, Tm.sub, List.cons.injEq] at h2
   simp only [h2.1]
 ·simp only [subs, List.cons.injEq] at h2; exact h2.2
 ·intro q hq
  exact h1 q (List.mem_append.2 (.inl hq))
 ·have := h1 (n, u.flat) (by simp)
  simp only at this
  simp only [subs, Tm.sub]
  rw [tm_inj this, h2]
theorem c0_sub {p : Tm} (hv : p.c0.kind ≠ 1) (σ : Int → Tm) : (p.sub σ).c0 = p.c0 := by
 cases p with
 | v n => simp [Tm.c0] at hv
 | i n => rfl
 | f s us => simp [Tm.sub, Tm.c0, subs_map]
theorem MtI.clash {p u : Tm} {Ps' Us' : List Tm} (h : MtI P T i z (p :: Ps') (u :: Us') s) (hv : p.c0.kind ≠ 1) (hc : p.c0 ≠ u.c0) : ¬ ∃ σ, P.sub σ = T := fun he => by
 obtain ⟨σ, h1, h2⟩ := h.iff.1 he
 simp only [subs, List.cons.injEq] at h2
 have := c0_sub hv σ
 rw [h2.1] at this
 exact hc this.symm
theorem subs_app (σ : Int → Tm) (a b : List Tm) : subs σ (a ++ b) = subs σ a ++ subs σ b := by simp [subs_map]
theorem MtI.down {p u : Tm} {Ps' Us' : List Tm} (h : MtI P T i z (p :: Ps') (u :: Us') s) (hv : p.c0.kind ≠ 1) (hc : p.c0 = u.c0) : MtI P T (i + 1) (z + 1) (p.args ++ Ps') (u.args ++ Us') s := by
 obtain ⟨p1, p2, p3, p4⟩ := flat_cell h.pd
 obtain ⟨t1, t2, t3, t4⟩ := flat_cell h.td
 have key : p.args.length = u.args.length ∧ ∀ σ : Int → Tm, p.sub σ = u ↔ subs σ p.args = u.args := by
  cases p with
  | v n => simp [Tm.c0] at hv
  | i n =>
   cases u with
   | i m => simp [Tm.c0] at hc; subst hc; exact ⟨rfl, fun σ => by simp [Tm.sub, Tm.args, subs]⟩
   | v m => simp [Tm.c0] at hc
   | f a b => simp [Tm.c0] at hc
  | f a b =>
   cases u with
   | i m => simp [Tm.c0] at hc
   | v m => simp [Tm.c0] at hc
   | f a' b' =>
    simp [Tm.c0] at hc
    obtain ⟨rfl, hl⟩ := hc
    exact ⟨by simp only [Tm.args]; omega, fun σ => by simp [Tm.sub, Tm.args]⟩
 have hlen : Ps'.length = Us'.length := by simpa using h.len
 refine ⟨p4, t4, by rw [List.length_append, List.length_append, key.1, hlen], h.sf, vs_step h p1 (fun _ h => h) (fun hk => absurd hk hv), h.own, h.short, h.iff.trans ⟨fun ⟨σ, h1, h2⟩ => ⟨σ, h1, ?_⟩, fun ⟨σ, h1, h2⟩ => ⟨σ, h1, ?_⟩⟩⟩
 ·simp only [subs, List.cons.injEq] at h2
  rw [subs_app, (key.2 σ).1 h2.1, h2.2]
 ·rw [subs_app] at h2
  obtain ⟨h3, h4⟩ := List.append_inj h2 (by rw [subs_map, List.length_map, key.1])
  simp only [subs]
  rw [(key.2 σ).2 h3, h4]
theorem MtI.done (h : MtI P T i z Ps Us s) (hi : i = P.flat.length) : ∃ σ, P.sub σ = T := by
 have hP : Ps = [] := by
  cases hP : Ps with
  | nil => rfl
  | cons p Ps' =>
   have := h.pd
   rw [hP] at this
   have := (flat_cell this).2.1
   omega
 have hU : Us = [] := by have := h.len; rw [hP] at this; exact List.length_eq_zero_iff.1 this.symm
 classical
 refine h.iff.2 ⟨fun n => if hx : ∃ u : Tm, lkB s n = some u.flat then Classical.choose hx else .v n, fun q hq => ?_, by rw [hP, hU]; rfl⟩
 obtain ⟨u, hu⟩ := h.sf q hq
 have hx : ∃ u : Tm, lkB s q.1 = some u.flat := ⟨u, by rw [h.own q hq, hu]⟩
 simp only
 rw [dif_pos hx]
 have h2 := Classical.choose_spec hx
 have h3 := (h.own q hq).symm.trans h2
 injection h3 with h3
 exact h3.symm
end
end Go.Proofs.YtgipiplklaeplaaDoor
