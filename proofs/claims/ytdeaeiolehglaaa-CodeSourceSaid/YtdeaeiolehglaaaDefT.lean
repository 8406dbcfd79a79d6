/- The document's reader of code reads a clause's code as that clause, its variables numbered as they come. No program in sight. -/
import Derived.Test.YtdeaeiolehglaaaDefR
set_option linter.unusedVariables false
set_option linter.unusedSimpArgs false
namespace Go.Proofs.Ytdeaeiolehglaaa
open Go.RowKit

/-- variables that became registers -/
structure VarOk (M : Rm) (D : List Dd) (V : Int → Option Int) : Prop where
  one : ∀ x q, V x = some q → 0 ≤ q ∧ q < D.length ∧ getD' D q = { is := 1 }
def regOf (V : Int → Option Int) (x : Int) : Int := (V x).getD 0
theorem regOf_some {V : Int → Option Int} {x q : Int} (h : V x = some q) : regOf V x = q := by unfold regOf; rw [h]; rfl
mutual
theorem told_term {M : Rm} {D : List Dd} {N0 n : Nat} {V : Int → Option Int} {B : Int} (hR : RMD M D N0 n) (hB : B ≤ n) (hV : VarOk M D V) : ∀ (t : Tm) (r : Int) (k : Nat) (fuel : Int), Holds M V B t r → 2 * (t.size : Int) ≤ fuel → fuel ≤ k → t.size ≤ 200 →
    toldK D k fuel (getD' D r) r = turnF (regOf V) t.flat
  | .v x, r, k, fuel, h, hf, hk, hs => by
    rw [Holds] at h
    obtain ⟨h1, h2, h3, h4⟩ := h
    have e : (Tm.v x).size = 1 := rfl
    rw [e] at hf
    have hle := hR.le
    obtain ⟨v1, v2, v3⟩ := hV.one _ _ h4
    obtain ⟨k, rfl⟩ : ∃ j, k = j + 1 := ⟨k - 1, by omega⟩
    have hfl : turnF (regOf V) (Tm.v x).flat = [⟨1, noName, (lk M.same r).getD r⟩] := by
      simp [turnF, Tm.flat, regOf_some h4, noName]
    rw [hfl]
    rcases hR.rel r h1.1 (by omega) with ⟨m, g, _⟩ | ⟨_, hd, l, g, _⟩ | ⟨_, _, y, g, gd⟩ | ⟨g, gd⟩
    · rw [h2] at g; cases g
    · rw [h3] at g; cases g
    · rw [g] at v1 v2 v3 ⊢
      simp only [Option.getD_some] at v1 v2 v3 ⊢
      obtain ⟨k, rfl⟩ : ∃ j, k = j + 1 := ⟨k - 1, by omega⟩
      rw [gd, toldK]
      rw [if_neg (by omega), if_neg (by simp), if_neg (by simp), if_neg (by simp), if_pos rfl, if_pos ⟨v1, v2⟩, v3, toldK]
      rw [if_neg (by omega), if_pos rfl]
    · have hs' := g.same
      rw [hs'] at v1 v2 v3 ⊢
      simp only [Option.getD_none] at v1 v2 v3 ⊢
      rw [v3, toldK]
      rw [if_neg (by omega), if_pos rfl]
  | .i m, r, k, fuel, h, hf, hk, hs => by
    rw [Holds] at h
    have e : (Tm.i m).size = 1 := rfl
    rw [e] at hf
    have hle := hR.le
    obtain ⟨k, rfl⟩ : ∃ j, k = j + 1 := ⟨k - 1, by omega⟩
    have hfl : turnF (regOf V) (Tm.i m).flat = [⟨2, noName, m⟩] := by simp [turnF, Tm.flat, noName]
    rw [hfl]
    rcases hR.rel r h.1.1 (by omega) with ⟨m', g, gd⟩ | ⟨g, _⟩ | ⟨g, _⟩ | ⟨g, _⟩
    · rw [h.2] at g; cases g
      rw [gd, toldK, if_neg (by omega), if_neg (by simp), if_pos rfl]
    · rw [h.2] at g; cases g
    · rw [h.2] at g; cases g
    · have := g.ints; rw [h.2] at this; cases this
  | .f nm ts, r, k, fuel, h, hf, hk, hs => by
    rw [Holds] at h
    obtain ⟨h1, h2, hd, l, h3, h4, h5, h6⟩ := h
    have e : (Tm.f nm ts).size = 1 + sizes ts := rfl
    rw [e] at hf hs
    have hle := hR.le
    obtain ⟨k, rfl⟩ : ∃ j, k = j + 1 := ⟨k - 1, by omega⟩
    have hll : ∀ (ts : List Tm) (l : List In), PartsH M V B ts l → l.length = ts.length := by
      intro ts
      induction ts with
      | nil => intro l h; rw [PartsH] at h; rw [h]; rfl
      | cons t ts ih =>
        intro l h
        rw [PartsH] at h
        obtain ⟨i, l', rfl, _, h⟩ := h
        simp [ih l' h]
    have hfl : turnF (regOf V) (Tm.f nm ts).flat = [⟨3, nm, (ts.length : Int)⟩] ++ turnF (regOf V) (flats ts) := by simp [turnF, Tm.flat]
    rw [hfl]
    rcases hR.rel r h1.1 (by omega) with ⟨m', g, _⟩ | ⟨_, hd', l', g, gd⟩ | ⟨_, g, _⟩ | ⟨g, _⟩
    · rw [h2] at g; cases g
    · rw [h3] at g; cases g
      rw [gd, toldK]
      rw [if_neg (by omega), if_neg (by simp), if_neg (by simp), if_pos rfl]
      have hp := told_parts hR hB hV ts l k fuel [⟨3, hd.name, ((l.map partOf).length : Int)⟩] h6 (by simp) (by simp; omega) (by omega) (by simp; omega)
      simp only at hp ⊢
      rw [hp, List.length_map, hll ts l h6, h4]
    · rw [h3] at g; cases g
    · have := g.structs; rw [h3] at this; cases this
theorem told_parts {M : Rm} {D : List Dd} {N0 n : Nat} {V : Int → Option Int} {B : Int} (hR : RMD M D N0 n) (hB : B ≤ n) (hV : VarOk M D V) : ∀ (ts : List Tm) (l : List In) (k : Nat) (fuel : Int) (acc : List C), PartsH M V B ts l → 1 ≤ acc.length → 2 * ((acc.length + sizes ts : Nat) : Int) ≤ fuel → fuel ≤ k + 1 → acc.length + sizes ts ≤ 200 →
    toldP (fun len p => toldK D k (fuel - len) { is := p.is, n := p.n } (-1)) acc (l.map partOf) = acc ++ turnF (regOf V) (flats ts)
  | [], l, k, fuel, acc, h, _, _, _, _ => by
    rw [PartsH] at h
    subst h
    simp [toldP, flats, turnF]
  | t :: ts, l, k, fuel, acc, h, ha, hf, hk, hs => by
    rw [PartsH] at h
    obtain ⟨i, l', rfl, h2, h3⟩ := h
    rw [sizes_cons] at hf hs
    have hpos := t.size_pos
    have hone : toldK D k (fuel - acc.length) { is := (partOf i).is, n := (partOf i).n } (-1) = turnF (regOf V) t.flat := by
      obtain ⟨k, rfl⟩ : ∃ j, k = j + 1 := ⟨k - 1, by omega⟩
      rcases h2 with ⟨k1, k2, k3⟩ | ⟨k1, k2, k2', k4⟩
      · have ep : partOf i = ⟨2, i.n⟩ := by unfold partOf; rw [if_pos k2]
        rw [ep, toldK]
        rw [if_neg (by omega), if_neg (by simp), if_pos rfl]
        cases t with
        | v x => simp [Tm.c0] at k1
        | f nm us => simp [Tm.c0] at k1
        | i m =>
          simp only [Tm.c0] at k3
          simp [turnF, Tm.flat, noName, k3]
      · have ep : partOf i = ⟨4, i.x⟩ := by unfold partOf; rw [if_neg (by omega)]
        have hrg : 0 ≤ i.x ∧ i.x < B := by
          cases t <;> (rw [Holds] at k4; exact k4.1)
        have hle := hR.le
        rw [ep, toldK]
        rw [if_neg (by omega), if_neg (by simp), if_neg (by simp), if_neg (by simp), if_pos rfl, if_pos ⟨hrg.1, by simp only; omega⟩]
        exact told_term hR hB hV t i.x k _ k4 (by omega) (by omega) (by omega)
    have hlen : (turnF (regOf V) t.flat).length = t.size := by rw [turn_len, flat_size]
    rw [List.map_cons, toldP]
    rw [hone, hlen, if_neg (by omega)]
    have := told_parts hR hB hV ts l' k fuel (acc ++ turnF (regOf V) t.flat) h3 (by rw [List.length_append]; omega) (by rw [List.length_append, hlen]; omega) hk (by rw [List.length_append, hlen]; omega)
    rw [this, flats_cons, turn_append, List.append_assoc]
end
theorem sets_fun {k j j' : Nat} {i : In} (h : Sets k i j) (h' : Sets k i j') : j = j' := by
  rcases h.cases with h | h | h | h | h | h | h <;> rcases h'.cases with h' | h' | h' | h' | h' | h' | h' <;> omega
theorem once_fun {n : Nat} : ∀ {u : List In} {a b : Nat}, OnceE a u b → Once n a u → b = n
  | [], a, b, h, h' => by rw [Once] at h'; cases h; exact h'
  | i :: u, a, b, ⟨j, h1, h2⟩, h' => by
    rw [Once] at h'
    obtain ⟨_, _, j', _, h3, h4⟩ := h'
    have := sets_fun h1 h3
    subst this
    exact once_fun h2 h4
theorem getD_init (n : Nat) (r : Int) : getD' (List.replicate n ({} : Dd)) r = {} := by
  unfold getD'
  rw [List.getElem?_replicate]
  split <;> rfl
/-- what both readers gather out of a clause's code -/
theorem comp_told {c : Cls} (hk : ∀ l ∈ c.body, l.t.c0.kind = 3) : ∃ (V : Int → Option Int) (n : Nat), regsF 0 (compF c) = n ∧ c.head.args.length ≤ n ∧ n ≤ c.head.args.length + (compF c).length ∧ (∀ x y q, V x = some q → V y = some q → x = y) ∧ (∀ (j : Nat) t, c.head.args[j]? = some t → Holds (readF (compF c)) V n t j) ∧ LitsH (readF (compF c)) V n c.body (calls (compF c)) ∧
    RMD (readF (compF c)) (defsF (compF c) n) c.head.args.length n ∧ VarOk (readF (compF c)) (defsF (compF c) n) V := by
  have h0 : HInv (startF c.head) (numbered 0 c.head.args) ⟨[], [], [], -1⟩ := by
    refine ⟨⟨rfl, fun r hr => by simp [startF] at hr, by simp [startF]⟩, ?_, fun p hp => ?_, fun p hp => by simp [startF], fun r _ => ⟨rfl, rfl, rfl⟩⟩
    · have : ∀ (ts : List Tm) (j : Nat), ((numbered j ts).map (·.2)).Nodup ∧ ∀ p ∈ numbered j ts, (j : Int) ≤ p.2 := by
        intro ts
        induction ts with
        | nil => intro j; simp [numbered]
        | cons t ts ih =>
          intro j
          obtain ⟨h1, h2⟩ := ih (j + 1)
          simp only [numbered, List.map_cons, List.nodup_cons]
          refine ⟨⟨fun hm => ?_, h1⟩, fun p hp => ?_⟩
          · obtain ⟨p, hp, he⟩ := List.mem_map.1 hm
            have := h2 p hp; omega
          · rcases List.mem_cons.1 hp with rfl | hp
            · exact Int.le_refl _
            · have := h2 p hp; omega
      exact (this _ 0).1
    · have := numbered_mem hp
      simp [startF]; omega
  have hrz : rsz (numbered 0 c.head.args) ≤ sizes c.head.args := by rw [rsz_numbered]; exact Nat.le_refl _
  obtain ⟨u, c1, i1, a1, l1, h1⟩ := heads_read (sizes c.head.args) (startF c.head) (numbered 0 c.head.args) _ hrz h0
  have f1 := heads_fresh (sizes c.head.args) (startF c.head) (numbered 0 c.head.args) _ hrz h0 u c1
  obtain ⟨v, c2, i2, a2, l2, h2⟩ := body_read c.body _ _ i1 hk
  have hcode : compF c = u ++ (v ++ [lastI c.head]) := by rw [compF, c2, c1]; simp [startF]
  have hlast : ∀ N : Rm, readG N [lastI c.head] = N := fun N => by
    simp only [readG]
    unfold rdStep isPart
    simp [lastI]
  have hM : readF (compF c) = readG (readG ⟨[], [], [], -1⟩ u) v := by rw [readF, hcode, readG_append, readG_append, hlast]
  obtain ⟨g, hg1, hg2⟩ := em_heads (sizes c.head.args) (startF c.head) (numbered 0 c.head.args)
  have hug : u = g := by rw [c1] at hg1; exact List.append_cancel_left hg1
  obtain ⟨b, hb1, hb2⟩ := em_body c.body (headsF (sizes c.head.args) (startF c.head) (numbered 0 c.head.args))
  have hvb : v = b := by rw [c2] at hb1; exact List.append_cancel_left hb1
  have hcalls : calls (compF c) = calls v := by
    rw [hcode, calls_append, calls_append, calls_none fun i hi => ((hug ▸ hg2).no12 i hi).1]
    simp [calls, lastI]
  have hfresh : FreshG ⟨[], [], [], -1⟩ (compF c) := by
    rw [hcode]
    refine f1.append (fresh_none fun i hi => ?_)
    rcases List.mem_append.1 hi with hi | hi
    · rw [hvb] at hi; exact body_ops _ _ hb2 i hi
    · simp [lastI] at hi; subst hi; simp
  obtain ⟨n, n1, n2, n3, n4⟩ := code_once c hk
  -- the next register is the number of all
  have hnext : (bodyF (headsF (sizes c.head.args) (startF c.head) (numbered 0 c.head.args)) c.body).next = n := by
    have hrow : RowLt (numbered 0 c.head.args) (startF c.head).next := fun p hp => by
      have := numbered_mem hp
      simp [startF]; omega
    have hs0 : RegLt (startF c.head) := fun r hr => by simp [startF] at hr
    have k1 := on_heads (sizes c.head.args) (startF c.head) _ hs0 hrow
    have hs1 := (k1 hs0).1
    have k2 := k1.trans (on_body c.body _ hs1 hk)
    obtain ⟨_, w, k3, k4⟩ := k2 hs0
    have hw : compF c = w ++ [lastI c.head] := by rw [compF, k3]; rfl
    have k5 : OnceE c.head.args.length (compF c) (bodyF (headsF (sizes c.head.args) (startF c.head) (numbered 0 c.head.args)) c.body).next := by
      rw [hw]
      exact OnceE.append k4 (OnceE.one (Sets.none (.inr (.inr rfl)) rfl rfl))
    exact once_fun k5 n4
  have hrmd0 : RMD ⟨[], [], [], -1⟩ (List.replicate n {}) c.head.args.length c.head.args.length :=
    ⟨by simp; exact n2, fun r _ => ⟨rfl, rfl, rfl⟩, fun r r0 r1 => .inr (.inr (.inr ⟨⟨rfl, rfl, rfl⟩, fun hr => by omega⟩)), .inl rfl⟩
  have hrmd := rmd_all (compF c) ⟨[], [], [], -1⟩ (List.replicate n {}) c.head.args.length hrmd0 n4 (by simp) hfresh
  have hdl : (defsF (compF c) n).length = n := by unfold defsF; rw [dfG_len]; simp
  have hrmd' : RMD (readF (compF c)) (defsF (compF c) n) c.head.args.length n := hrmd
  refine ⟨vr (bodyF (headsF (sizes c.head.args) (startF c.head) (numbered 0 c.head.args)) c.body), n, n1, n2, n3, fun x y q hx hy => vr_inj i2.ok hx hy, fun j t hj => ?_, by rw [hM, hcalls, ← hnext]; exact h2, hrmd', ⟨fun x q hx => ?_⟩⟩
  · have := h1 _ (numbered_get c.head.args 0 j t hj)
    simp only [Nat.zero_add] at this
    rw [hM, ← hnext]
    exact Holds.mono (fun r _ hr => l2 r hr) a2.ext (by have := a2.next; omega) _ _ this
  · obtain ⟨k1, k2, k3⟩ := inv_unset i2 x q hx
    rw [← hM] at k1
    rw [hnext] at k3
    have hge : (c.head.args.length : Int) ≤ q := by
      rcases (a1.trans a2).new q (vr_mem hx) with h | h
      · simp [startF] at h
      · exact h
    refine ⟨k2, by rw [hdl]; exact k3, ?_⟩
    rcases hrmd'.rel q k2 k3 with ⟨m, g, _⟩ | ⟨_, hd, l, g, _⟩ | ⟨_, _, y, g, _⟩ | ⟨_, g⟩
    · rw [k1.ints] at g; cases g
    · rw [k1.structs] at g; cases g
    · rw [k1.same] at g; cases g
    · exact g hge

/-! ### numbering -/
theorem varsA_ren {f : Int → Int} {P : Int → Prop} (hinj : ∀ x y, P x → P y → f x = f y → x = y) : ∀ (cs : List C) (acc : List Int), (∀ x ∈ acc, P x) → (∀ c ∈ cs, c.kind = 1 → P c.n) → varsA (acc.map f) (turnF f cs) = (varsA acc cs).map f
  | [], acc, _, _ => rfl
  | c :: cs, acc, ha, hc => by
    have e : turnF f (c :: cs) = (if c.kind = 1 then { c with n := f c.n } else c) :: turnF f cs := rfl
    rw [e, varsA_step, varsA_step]
    have hcs : ∀ d ∈ cs, d.kind = 1 → P d.n := fun d hd => hc d (by simp [hd])
    by_cases hk : c.kind = 1
    · rw [if_pos hk]
      have hP := hc c (by simp) hk
      have hin : inI (acc.map f) (f c.n) = inI acc c.n := by
        rw [Bool.eq_iff_iff, inI_iff, inI_iff, List.mem_map]
        exact ⟨fun ⟨y, hy, he⟩ => by rw [← hinj y c.n (ha y hy) hP he]; exact hy, fun h => ⟨_, h, rfl⟩⟩
      simp only [hin]
      split
      · have := varsA_ren hinj cs (acc ++ [c.n]) (fun x hx => (List.mem_append.1 hx).elim (ha x) (fun h => by simp at h; subst h; exact hP)) hcs
        rw [List.map_append] at this
        exact this
      · exact varsA_ren hinj cs acc ha hcs
    · rw [if_neg hk]
      simp only [hk, false_and, if_false]
      exact varsA_ren hinj cs acc ha hcs
theorem varsLr_ren {f : Int → Int} {P : Int → Prop} (hinj : ∀ x y, P x → P y → f x = f y → x = y) : ∀ (b : List (Bool × List C)) (acc : List Int), (∀ x ∈ acc, P x) → (∀ p ∈ b, ∀ c ∈ p.2, c.kind = 1 → P c.n) → varsLr (acc.map f) (b.map fun p => (p.1, turnF f p.2)) = (varsLr acc b).map f ∧ ∀ x ∈ varsLr acc b, P x
  | [], acc, ha, _ => ⟨rfl, ha⟩
  | p :: b, acc, ha, hb => by
    simp only [List.map_cons, varsLr]
    rw [varsA_ren hinj p.2 acc ha (hb p (by simp))]
    refine varsLr_ren hinj b _ (fun x hx => ?_) fun q hq => hb q (by simp [hq])
    rcases mem_varsA.1 hx with h | ⟨c, h1, h2, rfl⟩
    · exact ha x h
    · exact hb p (by simp) c h1 h2
theorem numR_ren {f : Int → Int} {P : Int → Prop} (hinj : ∀ x y, P x → P y → f x = f y → x = y) (r : Raw) (h1 : ∀ c ∈ r.1, c.kind = 1 → P c.n) (h2 : ∀ p ∈ r.2, ∀ c ∈ p.2, c.kind = 1 → P c.n) : numR (turnF f r.1, r.2.map fun p => (p.1, turnF f p.2)) = numR r := by
  obtain ⟨t, b⟩ := r
  simp only at h1 h2
  have e1 : varsF (turnF f t) = (varsF t).map f := varsA_ren hinj t [] (by simp) h1
  have hm : ∀ x ∈ varsF t, P x := fun x hx => by
    rcases mem_varsA.1 (show x ∈ varsA [] t from hx) with h | ⟨c, k1, k2, rfl⟩
    · simp at h
    · exact h1 c k1 k2
  obtain ⟨e2, e3⟩ := varsLr_ren hinj b (varsF t) hm h2
  have key : ∀ cs : List C, (∀ c ∈ cs, c.kind = 1 → P c.n) → turnF (placeI ((varsLr (varsF t) b).map f)) (turnF f cs) = turnF (placeI (varsLr (varsF t) b)) cs := fun cs hc => by
    rw [turn_turn]
    exact turn_congr fun c h k => idx_ren hinj (hc c h k) _ 0 e3
  unfold numR
  simp only
  rw [e1, e2, key t h1, List.map_map]
  congr 1
  exact List.map_congr_left fun p hp => by simp only [Function.comp]; rw [key p.2 (h2 p hp)]
mutual
theorem holds_all {M : Rm} {V : Int → Option Int} {B : Int} : ∀ (t : Tm) (r : Int), Holds M V B t r → t.all fun x => ∃ q, V x = some q
  | .v x, r, h => by rw [Holds] at h; exact ⟨_, h.2.2.2⟩
  | .i n, r, h => trivial
  | .f nm ts, r, h => by
    rw [Holds] at h
    obtain ⟨_, _, hd, l, _, _, _, h6⟩ := h
    exact parts_all ts l h6
theorem parts_all {M : Rm} {V : Int → Option Int} {B : Int} : ∀ (ts : List Tm) (l : List In), PartsH M V B ts l → alls (fun x => ∃ q, V x = some q) ts
  | [], l, h => trivial
  | t :: ts, l, h => by
    rw [PartsH] at h
    obtain ⟨i, l', rfl, h2, h3⟩ := h
    refine ⟨?_, parts_all ts l' h3⟩
    rcases h2 with ⟨k1, _⟩ | ⟨_, _, _, k4⟩
    · cases t with
      | v x => simp [Tm.c0] at k1
      | f nm us => simp [Tm.c0] at k1
      | i m => trivial
    · exact holds_all t i.x k4
end
theorem thead_told {M : Rm} {D : List Dd} {N0 n : Nat} {V : Int → Option Int} {B : Int} (hR : RMD M D N0 n) (hB : B ≤ n) (hV : VarOk M D V) : ∀ (ts : List Tm) (j : Nat), (∀ (k : Nat) t, ts[k]? = some t → Holds M V B t ((j + k : Nat) : Int)) → sizes ts ≤ 199 → tHead D ts.length j = turnF (regOf V) (flats ts)
  | [], j, _, _ => by simp [tHead, flats, turnF]
  | t :: ts, j, h, hs => by
    rw [sizes_cons] at hs
    rw [List.length_cons, tHead, flats_cons, turn_append]
    have h0 : Holds M V B t (j : Int) := by simpa using h 0 t rfl
    rw [told_term hR hB hV t j 400 400 h0 (by omega) (by omega) (by omega), thead_told hR hB hV ts (j + 1) (fun k t' hk => by
      have := h (k + 1) t' (by simpa using hk)
      rwa [show j + (k + 1) = j + 1 + k by omega] at this) (by omega)]
theorem tbody_calls (D : List Dd) : ∀ l : List In, tBody D l = tBody D (calls l)
  | [] => rfl
  | i :: l => by
    by_cases hi : i.op = 12
    · have : calls (i :: l) = i :: calls l := by simp [calls, hi]
      rw [this, tBody, tBody, tbody_calls D l]
    · have : calls (i :: l) = calls l := by simp [calls, hi]
      rw [this, tBody, if_neg (by omega), tbody_calls D l]
theorem tbody_told {M : Rm} {D : List Dd} {N0 n : Nat} {V : Int → Option Int} {B : Int} (hR : RMD M D N0 n) (hB : B ≤ n) (hV : VarOk M D V) : ∀ (ls : List Ltl) (l : List In), LitsH M V B ls l → (∀ x ∈ ls, x.t.size ≤ 200) → tBody D l = ls.map fun x => (x.neg, turnF (regOf V) x.t.flat)
  | [], l, h, _ => by rw [show l = [] from h]; rfl
  | x :: ls, l, ⟨i, l', hl, h12, hneg, hh, hr⟩, hs => by
    subst hl
    have hrg : 0 ≤ i.a ∧ i.a < B := by
      cases hx : x.t <;> (rw [hx, Holds] at hh; exact hh.1)
    have hle := hR.le
    have hsz := hs x (by simp)
    rw [tBody, if_pos ⟨h12, hrg.1, by omega⟩, List.map_cons, hneg, told_term hR hB hV x.t i.a 400 400 hh (by omega) (by omega) hsz, tbody_told hR hB hV ls l' hr fun y hy => hs y (by simp [hy])]
/-- the document reads a clause's code as that clause -/
theorem code_told {c : Cls} {r : Raw} (h : IsCls c r) : ∃ n : Nat, regsF 0 (compF c) = n ∧ c.head.args.length ≤ n ∧ n ≤ c.head.args.length + (compF c).length ∧ numR (candD (compF c) n (lastI c.head)) = numC c := by
  obtain ⟨t0, b0⟩ := r
  obtain ⟨hh, ⟨hok, hsz, hk3⟩, hbody, hbok, hblen⟩ := id h
  simp only at hh hbody
  subst hh hbody
  obtain ⟨V, n, n1, n2, n3, hinj, hH, hL, hR, hV⟩ := comp_told (c := c) fun l hl => (hbok l hl).2.2
  refine ⟨n, n1, n2, n3, ?_⟩
  have hs := size_args c.head
  obtain ⟨nm, us, he⟩ := (c0_kind3 c.head).1 hk3
  have hn : (lastI c.head).n.toNat = c.head.args.length := by rw [he]; simp [lastI, Tm.c0, Tm.args]
  have hc0 : c.head.c0 = ⟨3, (lastI c.head).name, (lastI c.head).n⟩ := by rw [he]; rfl
  have e1 : candD (compF c) n (lastI c.head) = (turnF (regOf V) c.head.flat, (c.body.map fun l => (l.neg, l.t.flat)).map fun p => (p.1, turnF (regOf V) p.2)) := by
    unfold candD
    rw [hn, Nat.min_eq_left n2, thead_told hR (Int.le_refl _) hV c.head.args 0 (fun k t hk => by simpa using hH k t hk) (by omega), tbody_calls, tbody_told hR (Int.le_refl _) hV c.body _ hL fun x hx => (hbok x hx).2.1]
    congr 1
    · rw [flat_cons, ← hc0]
      simp [turnF, hk3]
    · rw [List.map_map]; rfl
  rw [e1]
  have hallH : ∀ d ∈ c.head.flat, d.kind = 1 → ∃ q, V d.n = some q := by
    have : c.head.all fun x => ∃ q, V x = some q := by
      rw [he]
      have hp : ∀ (ts : List Tm) (j : Nat), (∀ (k : Nat) t, ts[k]? = some t → Holds (readF (compF c)) V n t ((j + k : Nat) : Int)) → alls (fun x => ∃ q, V x = some q) ts := by
        intro ts
        induction ts with
        | nil => intro _ _; trivial
        | cons t ts ih => 
          intro j hj
          exact ⟨holds_all t _ (hj 0 t rfl), ih (j + 1) fun k t' hk => by
            have := hj (k + 1) t' (by simpa using hk)
            rwa [show j + (k + 1) = j + 1 + k by omega] at this⟩
      have := hp c.head.args 0 (fun k t hk => by simpa using hH k t hk)
      rw [he] at this
      exact this
    exact all_flat _ this
  have hallB : ∀ (ls : List Ltl) (l : List In), LitsH (readF (compF c)) V n ls l → ∀ x ∈ ls, ∀ d ∈ x.t.flat, d.kind = 1 → ∃ q, V d.n = some q := by
    intro ls
    induction ls with
    | nil => intro l _ x hx; simp at hx
    | cons y ls ih =>
      rintro l ⟨i, l', hl, h12, hneg, hh, hr⟩ x hx
      rcases List.mem_cons.1 hx with rfl | hx
      · exact all_flat _ (holds_all x.t _ hh)
      · exact ih l' hr x hx
  rw [← numR_cls h]
  refine numR_ren (P := fun x => ∃ q, V x = some q) (fun x y ⟨q, hq⟩ ⟨q', hq'⟩ hxy => ?_) (c.head.flat, c.body.map fun l => (l.neg, l.t.flat)) hallH fun p hp => ?_
  · rw [regOf_some hq, regOf_some hq'] at hxy
    subst hxy
    exact hinj x y q hq hq'
  · obtain ⟨l, hl, rfl⟩ := List.mem_map.1 hp
    exact hallB _ _ hL l hl
end Go.Proofs.Ytdeaeiolehglaaa
