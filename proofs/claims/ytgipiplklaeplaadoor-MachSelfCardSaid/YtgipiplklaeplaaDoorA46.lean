/- Texts of this proof that belong together: words of memory, plain laws, walks. -/
import Derived.Test.YtgipiplklaeplaaDoorA41
import Derived.Test.YtgipiplklaeplaaDoorA42
import Derived.Test.YtgipiplklaeplaaDoorA43
import Derived.Test.YtgipiplklaeplaaDoorA44
import Derived.Test.YtgipiplklaeplaaDoorA45
set_option linter.unusedVariables false
set_option linter.unusedSimpArgs false
namespace Go.Proofs.YtgipiplklaeplaaDoor
open Go.RowKit
section
variable {f : Int → Int} {P : Int → Prop}
theorem place_ren (hinj : ∀ x y, P x → P y → f x = f y → x = y) {l : List Int} (hl : ∀ x ∈ l, P x) {v : Int} (hv : P v) : placeI (l.map f) (f v) = placeI l v := idx_ren hinj hv l 0 hl
theorem varsLr_ren (hinj : ∀ x y, P x → P y → f x = f y → x = y) : ∀ (b : List (Bool × List C)) (acc : List Int), (∀ x ∈ acc, P x) → (∀ p ∈ b, ∀ c ∈ p.2, c.kind = 1 → P c.n) →
    varsLr (acc.map f) (b.map fun p => (p.1, turnF f p.2)) = (varsLr acc b).map f ∧ ∀ x ∈ varsLr acc b, P x
  | [], acc, ha, _ => ⟨rfl, ha⟩
  | p :: b, acc, ha, hb => by
    rw [List.map_cons, varsLr, varsLr]
    have h1 := vars_turn hinj p.2 acc ha (hb p (by simp))
    simp only
    rw [h1]
    refine varsLr_ren hinj b _ (fun x hx => ?_) (fun q hq => hb q (by simp [hq]))
    rcases mem_varsA.1 hx with hx | ⟨c, h2, h3, h4⟩
    · exact ha x hx
    · rw [← h4]; exact hb p (by simp) c h2 h3
theorem numR_ren (hinj : ∀ x y, P x → P y → f x = f y → x = y) {t : List C} {b : List (Bool × List C)} (ht : ∀ c ∈ t, c.kind = 1 → P c.n) (hb : ∀ p ∈ b, ∀ c ∈ p.2, c.kind = 1 → P c.n) :
    numR (turnF f t, b.map fun p => (p.1, turnF f p.2)) = numR (t, b) := by
  have h1 := varsF_turn hinj t ht
  have hv : ∀ x ∈ varsF t, P x := fun x hx => by
    obtain ⟨c, h2, h3, h4⟩ := mem_vars.1 hx
    rw [← h4]; exact ht c h2 h3
  obtain ⟨h2, h3⟩ := varsLr_ren hinj b (varsF t) hv hb
  unfold numR
  simp only
  rw [h1, h2, turn_turn, List.map_map]
  congr 1
  · exact turn_congr fun c hc hk => place_ren hinj h3 (ht c hc hk)
  · refine List.map_congr_left fun p hp => ?_
    simp only [Function.comp]
    rw [turn_turn]
    congr 1
    exact turn_congr fun c hc hk => place_ren hinj h3 (hb p hp c hc hk)
end
theorem flats_mem8 {ts : List Tm} {u : Tm} {c : C} (hu : u ∈ ts) (hc : c ∈ u.flat) : c ∈ flats ts := by
  induction ts with
  | nil => cases hu
  | cons x ts ih =>
    rw [flats_cons, List.mem_append]
    rcases List.mem_cons.1 hu with rfl | hu
    · exact .inl hc
    · exact .inr (ih hu)
/-- what makes a term of a variant renames -/
theorem variant_ren {T U : Tm} {K J : Int → Tm} (h1 : T.sub K = U) (h2 : U.sub J = T) : ∃ f : Int → Int, (∀ n, T.has n → K n = .v (f n)) ∧ ∀ x y, T.has x → T.has y → f x = f y → x = y := by
  have h3 : T.sub (fun n => (K n).sub J) = T.sub Tm.v := by rw [← sub_sub, h1, h2, sub_v]
  have h4 := sub_inj T h3
  have h5 : ∀ n, T.has n → ∃ m, K n = .v m ∧ J m = .v n := fun n hn => by
    have := h4 n hn
    cases hk : K n with
    | v m => rw [hk] at this; exact ⟨m, rfl, this⟩
    | i m => rw [hk] at this; cases this
    | f s us => rw [hk] at this; cases this
  obtain ⟨f, hf⟩ : ∃ f : Int → Int, ∀ n, T.has n → K n = .v (f n) ∧ J (f n) = .v n := by
    refine ⟨fun n => match K n with | .v m => m | _ => 0, fun n hn => ?_⟩
    obtain ⟨m, e1, e2⟩ := h5 n hn
    simp only [e1]
    exact ⟨trivial, e2⟩
  refine ⟨f, fun n hn => (hf n hn).1, fun x y hx hy he => ?_⟩
  have e1 := (hf x hx).2
  have e2 := (hf y hy).2
  rw [he, e2] at e1
  injection e1 with e1
  exact e1.symm
/-- a clause's cells, of its terms -/
def zipF (ns : List Bool) (ts : List Tm) : List (Bool × List C) := List.zipWith (fun n u => (n, Tm.flat u)) ns ts
theorem zipF_map (f : Int → Int) (g : Tm → Tm) : ∀ (ns : List Bool) (ts : List Tm), (∀ u ∈ ts, (g u).flat = turnF f u.flat) → zipF ns (ts.map g) = (zipF ns ts).map fun p => (p.1, turnF f p.2)
  | [], _, _ => by simp [zipF]
  | _ :: _, [], _ => by simp [zipF]
  | n :: ns, u :: ts, h => by
    have ih := zipF_map f g ns ts (fun x hx => h x (by simp [hx]))
    unfold zipF at ih ⊢
    rw [List.map_cons, List.zipWith_cons_cons, List.zipWith_cons_cons, List.map_cons, ih, h u (by simp)]
theorem zipF_mem {ns : List Bool} {ts : List Tm} {p : Bool × List C} (h : p ∈ zipF ns ts) : ∃ u ∈ ts, p.2 = u.flat := by
  induction ts generalizing ns with
  | nil => simp [zipF] at h
  | cons u ts ih =>
    cases ns with
    | nil => simp [zipF] at h
    | cons n ns =>
      unfold zipF at h
      rw [List.zipWith_cons_cons, List.mem_cons] at h
      rcases h with rfl | h
      · exact ⟨u, by simp, rfl⟩
      · obtain ⟨x, h1, h2⟩ := ih h
        exact ⟨x, by simp [h1], h2⟩
/-- clauses that are made of each other are numbered alike -/
theorem variant_clause {t t' : Tm} {ts ts' : List Tm} {K J : Int → Tm} (h0 : t.sub K = t') (h1 : ts.map (Tm.sub K) = ts') (h2 : t'.sub J = t) (h3 : ts'.map (Tm.sub J) = ts) (ns : List Bool) :
    numR (t'.flat, zipF ns ts') = numR (t.flat, zipF ns ts) ∧ t'.size = t.size ∧ ts'.map Tm.size = ts.map Tm.size := by
  obtain ⟨f, hf, hi⟩ := variant_ren (T := .f emp (t :: ts)) (U := .f emp (t' :: ts')) (K := K) (J := J) (by simp only [Tm.sub, subs]; rw [h0, subs_map, h1]) (by simp only [Tm.sub, subs]; rw [h2, subs_map, h3])
  have hh : ∀ n, t.has n → (Tm.f emp (t :: ts)).has n := fun n hn => by
    unfold Tm.has at hn ⊢
    simp only [Tm.flat, flats, List.mem_cons, List.mem_append]
    exact .inr (.inl hn)
  have hb : ∀ u ∈ ts, ∀ n, u.has n → (Tm.f emp (t :: ts)).has n := fun u hu n hn => by
    unfold Tm.has at hn ⊢
    simp only [Tm.flat, flats, List.mem_cons, List.mem_append]
    exact .inr (.inr (flats_mem8 hu hn))
  have e0 : t'.flat = turnF f t.flat := by
    rw [← h0, ← sub_turn f t]
    exact congrArg Tm.flat (sub_congr t (fun n hn => hf n (hh n hn)))
  have e1 : ∀ u ∈ ts, (u.sub K).flat = turnF f u.flat := fun u hu => by
    rw [← sub_turn f u]
    exact congrArg Tm.flat (sub_congr u (fun n hn => hf n (hb u hu n hn)))
  refine ⟨?_, ?_, ?_⟩
  · rw [e0, ← h1, zipF_map f _ ns ts e1]
    refine numR_ren (P := fun x => (Tm.f emp (t :: ts)).has x) hi (fun c hc hk => hh _ ?_) (fun p hp c hc hk => ?_)
    · unfold Tm.has; rw [← flat_vn8 t c hc hk]; exact hc
    · obtain ⟨u, hu, e⟩ := zipF_mem hp
      rw [e] at hc
      refine hb u hu _ ?_
      unfold Tm.has; rw [← flat_vn8 u c hc hk]; exact hc
  · rw [← flat_size, ← flat_size, e0, turn_len]
  · rw [← h1, List.map_map]
    refine List.map_congr_left fun u hu => ?_
    simp only [Function.comp]
    rw [← flat_size, ← flat_size, e1 u hu, turn_len]
theorem c0_sub_ne {A H : Tm} {s : ByteArray} {us : List Tm} (hA : A = .f s us) (hk : H.c0.kind = 3) (hne : A.c0.beq H.c0 = false) (ρ σ : Int → Tm) : A.sub ρ ≠ H.sub σ := fun he => by
  cases H with
  | v n => simp [Tm.c0] at hk
  | i n => simp [Tm.c0] at hk
  | f s' Ts =>
    subst hA
    simp only [Tm.sub, Tm.f.injEq] at he
    obtain ⟨h1, h2⟩ := he
    have h3 := congrArg List.length h2
    rw [subs_map, subs_map, List.length_map, List.length_map] at h3
    have : (Tm.f s us).c0.beq (Tm.f s' Ts).c0 = true := (beq_iff _ _).2 (by simp [Tm.c0, h1, h3])
    rw [this] at hne
    cases hne
theorem bodyW_le : ∀ (ls : List Ltl), (∀ l ∈ ls, l.t.size ≤ 40) → bodyW ls ≤ 80 * ls.length
  | [], _ => Nat.zero_le _
  | l :: ls, h => by
    have h1 := bodyW_le ls (fun x hx => h x (by simp [hx]))
    have h2 := hw_le l.t
    have h3 := h l (by simp)
    simp only [bodyW, List.length_cons]
    omega
theorem getF_if {l : List C} (h : Good l) (hN : l.length ≤ 1000) {p : Nat} (hp : p < l.length) : getF l p = if (den l p).size ≤ 200 then some (den l p).flat else none := by
  unfold getF
  rw [h.den_vle hN p hp]
  simp
theorem getZ_if {l : List C} (h : Good l) (hN : l.length ≤ 1000) {p : Int} (hp : 0 ≤ p ∧ p < (l.length : Int)) : getZ l p = if (den l p.toNat).size ≤ 200 then some (den l p.toNat).flat else none := by
  unfold getZ
  rw [if_pos hp, getF_if h hN (by omega)]
theorem getsL_if {l : List C} (h : Good l) (hN : l.length ≤ 1000) : ∀ (gs : List (Bool × Int)), (∀ g ∈ gs, 0 ≤ g.2 ∧ g.2 < (l.length : Int)) →
    (getsL l gs = none ∧ ∃ u ∈ gs.map (fun g => den l g.2.toNat), 200 < u.size) ∨ (getsL l gs = some (zipF (gs.map (·.1)) (gs.map fun g => den l g.2.toNat)) ∧ ∀ u ∈ gs.map (fun g => den l g.2.toNat), u.size ≤ 200)
  | [], _ => .inr ⟨rfl, by simp⟩
  | g :: gs, hg => by
    have h1 := getZ_if h hN (hg g (by simp))
    by_cases hs : (den l g.2.toNat).size ≤ 200
    · rw [if_pos hs] at h1
      rcases getsL_if h hN gs (fun x hx => hg x (by simp [hx])) with ⟨h2, u, h3, h4⟩ | ⟨h2, h3⟩
      · left
        refine ⟨by rw [getsL, h1, h2], u, ?_, h4⟩
        rw [List.map_cons]
        exact List.mem_cons_of_mem _ h3
      · right
        refine ⟨by rw [getsL, h1, h2]; rfl, fun u hu => ?_⟩
        rw [List.map_cons, List.mem_cons] at hu
        rcases hu with rfl | hu
        · exact hs
        · exact h3 u hu
    · rw [if_neg hs] at h1
      left
      exact ⟨by rw [getsL, h1], _, List.mem_cons_self .., show 200 < (den l g.2.toNat).size by omega⟩
/-- what is known of a clause that a statement asks -/
structure Small (c : Cls) : Prop where
  head : c.head.size ≤ 40
  body : ∀ l ∈ c.body, l.t.size ≤ 40
  len : c.body.length ≤ 8
theorem small_of {c : Cls} {r : Raw} (h : IsCls c r) (hf : fewB r 40 = true) : Small c := by
  simp only [fewB, Bool.and_eq_true, decide_eq_true_eq, List.all_eq_true] at hf
  obtain ⟨h1, h2, h3, _⟩ := hf
  refine ⟨?_, fun l hl => ?_, h.len⟩
  · rw [← h.head, flat_size] at h1; omega
  · have : (l.neg, l.t.flat) ∈ r.2 := by rw [← h.body]; exact List.mem_map.2 ⟨l, hl, rfl⟩
    have h4 := h3 _ this
    simp only [flat_size] at h4
    omega
/-- WHAT RESOLVE HANDS BACK, with much room -/
theorem resZ_law {s : ByteArray} {us : List Tm} {c : Cls} {r : Raw} (hcls : IsCls c r) (hc : Small c) (hA : (Tm.f s us).ok = true) (hs : (Tm.f s us).size ≤ 40) :
    (resZ (.f s us) c 4096 = .inr 3 ∧ ∀ ρ σ, (Tm.f s us).sub ρ ≠ c.head.sub σ) ∨ ∃ (t : Tm) (ts : List Tm) (ρ σ : Int → Tm), Rsd (.f s us) c.head (c.body.map (·.t)) t ts ρ σ ∧
      ((resZ (.f s us) c 4096 = .inr 2 ∧ (200 < t.size ∨ ∃ u ∈ ts, 200 < u.size)) ∨ (resZ (.f s us) c 4096 = .inl (numR (t.flat, zipF (c.body.map (·.neg)) ts)) ∧ t.size ≤ 200 ∧ ∀ u ∈ ts, u.size ≤ 200)) := by
  have e4 : newF 4096 = 4096 := by unfold newF; rw [if_pos (by omega)]
  unfold resZ
  cases hne : (Tm.f s us).c0.beq c.head.c0 with
  | false =>
    left
    exact ⟨if_pos rfl, c0_sub_ne rfl hcls.hok.2.2 hne⟩
  | true =>
    rw [if_neg (show ¬ (true = false) by simp)]
    have hput := putA_len8 (Tm.f s us) [] []
    simp only [List.length_nil] at hput
    have hfit : ((putA [] (Tm.f s us) []).1.length : Int) ≤ newF 4096 := by rw [e4]; omega
    rw [if_pos hfit]
    obtain ⟨Ts, hT, hl, st, kn, hsafe⟩ := res_safe hcls hA (by omega) hne hfit
    have hN : (putA [] (Tm.f s us) []).1.length + c.need ≤ 1000 := by
      have h1 := hws_le c.head.args
      have h2 : sizes c.head.args ≤ 40 := by have := hc.head; rw [hT] at this ⊢; simp only [Tm.size, Tm.args] at this ⊢; omega
      have h3 := bodyW_le c.body hc.body
      have h4 := hc.len
      unfold Cls.need
      omega
    cases hout : out (resM (Tm.f s us) (newF 4096)) (compF c) with
    | bad => rw [hout] at hsafe; exact hsafe.elim
    | err x j =>
      rw [hout] at hsafe
      rcases hsafe with ⟨rfl, hno⟩ | ⟨_, hr⟩
      · left
        refine ⟨rfl, ?_⟩
        exact rsd_none rfl hT hl hA (by omega) (by rw [hT]; exact hno)
      · rw [e4] at hr
        exfalso
        have h5 : (resM (Tm.f s us) 4096).r = 4096 := rfl
        have h6 : (resM (Tm.f s us) 4096).l = (putA [] (Tm.f s us) []).1 := rfl
        rw [h5, h6] at hr
        omega
    | ok m j =>
      rw [hout] at hsafe
      have hinv : Inv (resM (Tm.f s us) (newF 4096)) c.head.args ((resM (Tm.f s us) (newF 4096)).l.length + c.need) st [] [] kn c.body 0 m := by rw [hT]; exact hsafe
      right
      obtain ⟨σ, hrsd⟩ := rsd_of rfl hT hl hA (by omega) hinv
      refine ⟨_, _, _, σ, hrsd, ?_⟩
      obtain ⟨hg, _, _⟩ := res_room hinv
      have hlen : m.l.length ≤ 1000 := by
        have h1 := hinv.room
        have h6 : (resM (Tm.f s us) (newF 4096)).l = (putA [] (Tm.f s us) []).1 := rfl
        rw [h6] at h1
        omega
      obtain ⟨d, hd⟩ := hinv.hst
      have hle := hd.le
      have h0 : 0 < m.l.length := by
        have := put_pos (Tm.f s us)
        have h6 : (resM (Tm.f s us) (newF 4096)).l = (putA [] (Tm.f s us) []).1 := rfl
        rw [h6] at hle
        omega
      have hneg : m.goals.map (·.1) = c.body.map (·.neg) := by
        obtain ⟨g1, g2⟩ := hinv.go
        apply List.ext_getElem?
        intro i
        rw [List.getElem?_map, List.getElem?_map]
        cases hb : c.body[i]? with
        | none => rw [List.getElem?_eq_none (by have := List.getElem?_eq_none_iff.1 hb; omega)]; rfl
        | some l =>
          obtain ⟨r, q1, _⟩ := g2 i l hb
          rw [q1]; rfl
      have hpl : ∀ g ∈ m.goals, 0 ≤ g.2 ∧ g.2 < (m.l.length : Int) := fun g hgm => by
        obtain ⟨g1, g2⟩ := hinv.go
        obtain ⟨i, hi⟩ := List.getElem?_of_mem hgm
        have hil := (List.getElem?_eq_some_iff.1 hi).1
        obtain ⟨r, q1, q2⟩ := g2 i (c.body[i]'(by omega)) (List.getElem?_eq_getElem _)
        rw [hi] at q1
        injection q1 with q1
        have hkr := hinv.sok.kr _ q2
        have := hinv.mok.reg hkr.1 (by rw [hinv.len]; exact hkr.2)
        rw [q1]
        exact this
      have hz0 := getZ_if hg hlen (p := 0) ⟨by omega, by omega⟩
      simp only [Int.toNat_zero] at hz0
      simp only
      unfold getsZ
      by_cases hs0 : (den m.l 0).size ≤ 200
      · rw [if_pos hs0] at hz0
        rw [hz0]
        rcases getsL_if hg hlen m.goals hpl with ⟨h2, h3⟩ | ⟨h2, h3⟩
        · rw [h2]
          exact .inl ⟨rfl, .inr h3⟩
        · rw [h2, hneg]
          exact .inr ⟨rfl, hs0, h3⟩
      · rw [if_neg hs0] at hz0
        rw [hz0]
        exact .inl ⟨rfl, .inl (by omega)⟩
/-- what is made of one is made of the other one -/
structure Over (A H : Tm) (Bs : List Tm) (A' H' : Tm) (Bs' : List Tm) : Prop where
  way : ∀ ρ' σ' : Int → Tm, A'.sub ρ' = H'.sub σ' → ∃ ρ σ : Int → Tm, A.sub ρ = A'.sub ρ' ∧ H.sub σ = H'.sub σ' ∧ Bs.map (Tm.sub σ) = Bs'.map (Tm.sub σ')
theorem Rsd.map {A H : Tm} {Bs : List Tm} {t : Tm} {ts : List Tm} {ρ σ : Int → Tm} (h : Rsd A H Bs t ts ρ σ) : ts = Bs.map (Tm.sub σ) := by
  apply List.ext_getElem?
  intro i
  rw [List.getElem?_map]
  cases hb : Bs[i]? with
  | none => rw [List.getElem?_eq_none (by have := List.getElem?_eq_none_iff.1 hb; have := h.len; omega)]; rfl
  | some b => rw [h.body i b hb]; rfl
theorem Rsd.out {A H : Tm} {Bs : List Tm} {t : Tm} {ts : List Tm} {ρ σ : Int → Tm} (h : Rsd A H Bs t ts ρ σ) {ρ' σ' : Int → Tm} (he : A.sub ρ' = H.sub σ') : ∃ K : Int → Tm, t.sub K = A.sub ρ' ∧ ts.map (Tm.sub K) = Bs.map (Tm.sub σ') := by
  obtain ⟨K, h1, h2⟩ := h.most ρ' σ' he
  refine ⟨K, h1.symm, ?_⟩
  apply List.ext_getElem?
  intro i
  rw [List.getElem?_map, List.getElem?_map]
  cases hb : Bs[i]? with
  | none => rw [List.getElem?_eq_none (by have := List.getElem?_eq_none_iff.1 hb; have := h.len; omega)]; rfl
  | some b =>
    have hu := h.body i b hb
    rw [hu, Option.map_some, Option.map_some, ← h2 i b _ hb hu]
theorem rsd_two {A H A' H' : Tm} {Bs Bs' : List Tm} {t t' : Tm} {ts ts' : List Tm} {ρ σ ρ' σ' : Int → Tm} (h : Rsd A H Bs t ts ρ σ) (h' : Rsd A' H' Bs' t' ts' ρ' σ') (o : Over A H Bs A' H' Bs') (o' : Over A' H' Bs' A H Bs) (ns : List Bool) :
    numR (t'.flat, zipF ns ts') = numR (t.flat, zipF ns ts) ∧ t'.size = t.size ∧ ts'.map Tm.size = ts.map Tm.size := by
  obtain ⟨ρ1, σ1, a1, a2, a3⟩ := o.way ρ' σ' (h'.atom.symm.trans h'.head)
  obtain ⟨ρ2, σ2, b1, b2, b3⟩ := o'.way ρ σ (h.atom.symm.trans h.head)
  obtain ⟨K, k1, k2⟩ := h.out (ρ' := ρ1) (σ' := σ1) (by rw [a1, a2]; exact h'.atom.symm.trans h'.head)
  obtain ⟨J, j1, j2⟩ := h'.out (ρ' := ρ2) (σ' := σ2) (by rw [b1, b2]; exact h.atom.symm.trans h.head)
  refine variant_clause (K := K) (J := J) ?_ ?_ ?_ ?_ ns
  · rw [k1, a1]; exact h'.atom.symm
  · rw [k2, a3]; exact h'.map.symm
  · rw [j1, b1]; exact h.atom.symm
  · rw [j2, b3]; exact h.map.symm
theorem size_some {ts ts' : List Tm} (h : ts'.map Tm.size = ts.map Tm.size) (hu : ∃ u ∈ ts, 200 < u.size) : ∃ u ∈ ts', 200 < u.size := by
  obtain ⟨u, h1, h2⟩ := hu
  have : u.size ∈ ts'.map Tm.size := by rw [h]; exact List.mem_map.2 ⟨u, h1, rfl⟩
  obtain ⟨x, h3, h4⟩ := List.mem_map.1 this
  exact ⟨x, h3, by omega⟩
/-- THE LAW OF NAMES: of an atom and a clause that are made of others, and these of them, the same comes -/
theorem resZ_two {s s' : ByteArray} {us us' : List Tm} {c c' : Cls} {r r' : Raw} (hcls : IsCls c r) (hc : Small c) (hA : (Tm.f s us).ok = true) (hs : (Tm.f s us).size ≤ 40)
    (hcls' : IsCls c' r') (hc' : Small c') (hA' : (Tm.f s' us').ok = true) (hs' : (Tm.f s' us').size ≤ 40) (hn : c'.body.map (·.neg) = c.body.map (·.neg))
    (o : Over (.f s us) c.head (c.body.map (·.t)) (.f s' us') c'.head (c'.body.map (·.t))) (o' : Over (.f s' us') c'.head (c'.body.map (·.t)) (.f s us) c.head (c.body.map (·.t))) : resZ (.f s' us') c' 4096 = resZ (.f s us) c 4096 := by
  rcases resZ_law hcls hc hA hs with ⟨e, hno⟩ | ⟨t, ts, ρ, σ, hr, hz⟩
  · rcases resZ_law hcls' hc' hA' hs' with ⟨e', _⟩ | ⟨t', ts', ρ', σ', hr', _⟩
    · rw [e, e']
    · obtain ⟨ρ1, σ1, a1, a2, _⟩ := o.way ρ' σ' (hr'.atom.symm.trans hr'.head)
      exact absurd (by rw [a1, a2]; exact hr'.atom.symm.trans hr'.head) (hno ρ1 σ1)
  · rcases resZ_law hcls' hc' hA' hs' with ⟨_, hno'⟩ | ⟨t', ts', ρ', σ', hr', hz'⟩
    · obtain ⟨ρ1, σ1, a1, a2, _⟩ := o'.way ρ σ (hr.atom.symm.trans hr.head)
      exact absurd (by rw [a1, a2]; exact hr.atom.symm.trans hr.head) (hno' ρ1 σ1)
    · obtain ⟨v1, v2, v3⟩ := rsd_two hr hr' o o' (c.body.map (·.neg))
      rw [hn] at hz'
      rcases hz with ⟨e, hb⟩ | ⟨e, hb1, hb2⟩ <;> rcases hz' with ⟨e', hb'⟩ | ⟨e', hb1', hb2'⟩
      · rw [e, e']
      · exfalso
        rcases hb with hb | hb
        · omega
        · obtain ⟨u, h1, h2⟩ := size_some v3 hb
          have := hb2' u h1
          omega
      · exfalso
        rcases hb' with hb' | hb'
        · omega
        · obtain ⟨u, h1, h2⟩ := size_some v3.symm hb'
          have := hb2 u h1
          omega
      · rw [e, e', v1]
/-- THE LAW OF A CLAUSE'S OWN HEAD -/
theorem resZ_self {s : ByteArray} {us : List Tm} {c : Cls} {r : Raw} (hcls : IsCls c r) (hc : Small c) (hh : c.head = .f s us) : resZ (.f s us) c 4096 = .inl (numR r) := by
  have hA : (Tm.f s us).ok = true := by rw [← hh]; exact hcls.hok.1
  have hs : (Tm.f s us).size ≤ 40 := by rw [← hh]; exact hc.head
  have hr0 : r = (c.head.flat, zipF (c.body.map (·.neg)) (c.body.map (·.t))) := by
    refine Prod.ext hcls.head.symm ?_
    rw [← hcls.body]
    unfold zipF
    simp only
    rw [List.zipWith_map_left, List.zipWith_map_right, List.zipWith_self]
  rcases resZ_law hcls hc hA hs with ⟨_, hno⟩ | ⟨t, ts, ρ, σ, hr, hz⟩
  · exact absurd (by rw [hh]) (hno Tm.v Tm.v)
  · obtain ⟨K, k1, k2⟩ := hr.out (ρ' := Tm.v) (σ' := Tm.v) (by rw [hh])
    have e1 : (c.body.map (·.t)).map (Tm.sub Tm.v) = c.body.map (·.t) := by
      rw [List.map_congr_left (g := id) (fun x _ => sub_v x), List.map_id]
    rw [e1] at k2
    obtain ⟨v1, v2, v3⟩ := variant_clause (t := c.head) (t' := t) (ts := c.body.map (·.t)) (ts' := ts) (K := σ) (J := K) hr.head.symm hr.map.symm (by rw [k1, sub_v, hh]) k2 (c.body.map (·.neg))
    rcases hz with ⟨_, hb⟩ | ⟨e, _, _⟩
    · exfalso
      rcases hb with hb | hb
      · have := hc.head; omega
      · obtain ⟨u, h1, h2⟩ := size_some v3.symm hb
        obtain ⟨l, h3, rfl⟩ := List.mem_map.1 h1
        have := hc.body l h3
        omega
    · rw [e, v1, ← hr0]
end Go.Proofs.YtgipiplklaeplaaDoor
namespace Go.Proofs.YtgipiplklaeplaaDoor
open Go.RowKit
theorem u16R {v : Int} (h : (Lit.int .u16 v).wf = true) : 0 ≤ v ∧ v ≤ 65535 := by
  simp [Lit.wf, IntKind.min, IntKind.max, IntKind.signed, IntKind.bits] at h
  omega
/-- the block of a clause -/
def CB (w : World) (g : Nat) (A : Option Addr) (n c : Nat) (B : Option Addr) (m d : Nat) : Prop := w.heap[g]? = some (.cells #[.slice A n c, .slice B m d] 25 (0, 0))
section
variable {w w' : World} {g n c m d : Nat} {A B : Option Addr} {t : List C} {b : List (Bool × List C)}
theorem CB.below (h : CB w g A n c B m d) (hb : Below w.heap.size w w') : CB w' g A n c B m d := (hb.block g (block_lt h)).trans h
theorem CB.open (h : CB w g A n c B m d) : w.cell? ⟨g, 0, none⟩ = some (.slice A n c) ∧ w.cell? ⟨g, 1, none⟩ = some (.slice B m d) ∧ g < w.heap.size := open2 h
theorem fewB_may {r : Raw} (h : fewB r 40 = true) : mayB r = true := by
  simp only [fewB, Bool.and_eq_true] at h
  exact h.2.2.2
theorem fewB_cls {r : Raw} (h : fewB r 40 = true) : ∃ cl, IsCls cl r ∧ Small cl := by
  obtain ⟨cl, hc⟩ := mayB_cls (fewB_may h)
  exact ⟨cl, hc, small_of hc h⟩
theorem few11 (w : World) (h : IsC w A n c t) (hB : IsLs w B m d b) : Calls Tryd.prog 12 #[.agg #[.slice A n c, .slice B m d], .int .i64 40] w (RetV w (.bool (fewB (t, b) 40))) :=
  rFew_any A n c t B m d b 40 w h hB (by omega) (i64_near (by omega) (by omega))
theorem rLits_v {B' : Option Addr} {d' : Nat} (hB : IsLs w B m d b) (hB' : IsLs w B' m d' b) (hs : ∀ x ∈ b, x.2.length ≤ 1000) : Calls Tryd.prog 32 #[.slice B m d, .slice B' m d'] w (RetV w (.bool true)) := by
  have := rLits_any B m d b B' m d' b w hB hB' (fun x hx => by have := hs x hx; omega) (fun x hx => by have := hs x hx; omega)
  rw [(sameBody_iff b b).2 rfl] at this
  exact this
/-- rows of a small clause, numbered, are short -/
theorem numR_short {r : Raw} (h1 : r.1.length ≤ 1000) (h2 : ∀ x ∈ r.2, x.2.length ≤ 1000) : (numR r).1.length ≤ 1000 ∧ ∀ x ∈ (numR r).2, x.2.length ≤ 1000 := by
  refine ⟨by unfold numR; simp only; rw [turn_len]; exact h1, fun x hx => ?_⟩
  unfold numR at hx
  simp only at hx
  obtain ⟨p, hp, rfl⟩ := List.mem_map.1 hx
  simp only
  rw [turn_len]
  exact h2 p hp
theorem small_rows {cl : Cls} {r : Raw} (h : IsCls cl r) (hs : Small cl) : r.1.length ≤ 40 ∧ (∀ x ∈ r.2, x.2.length ≤ 40) ∧ r.2.length ≤ 8 := by
  refine ⟨by rw [← h.head, flat_size]; exact hs.head, fun x hx => ?_, by rw [← h.body, List.length_map]; exact hs.len⟩
  rw [← h.body] at hx
  obtain ⟨l, hl, rfl⟩ := List.mem_map.1 hx
  simp only
  rw [flat_size]
  exact hs.body l hl
theorem varsLr_short : ∀ (b : List (Bool × List C)) (acc : List Int), (∀ x ∈ b, x.2.length ≤ 1000) → (varsLr acc b).length ≤ acc.length + 1000 * b.length
  | [], acc, _ => by simp [varsLr]
  | p :: b, acc, h => by
    have h1 := varsA_len p.2 acc
    have h2 := varsLr_short b (varsA acc p.2) (fun x hx => h x (by simp [hx]))
    have h3 := h p (by simp)
    rw [varsLr, List.length_cons]
    omega
theorem num11 (w : World) (h : IsC w A n c t) (hB : IsLs w B m d b) (h1 : t.length ≤ 1000) (h2 : ∀ x ∈ b, x.2.length ≤ 1000) (h3 : b.length ≤ 10) : Calls Tryd.prog 27 #[.agg #[.slice A n c, .slice B m d]] w (RetCl w (numR (t, b))) := by
  have e1 := h.len
  have e2 := hB.len
  refine rNumber10_any A n c t B m d b w h hB (by omega) (by omega) (fun x hx => by have := h2 x hx; omega) ?_
  have := varsLr_short b (varsF t) h2
  have := varsF_len t
  omega
theorem getZ_short {l : List C} {p : Int} {t : List C} (h : getZ l p = some t) : t.length ≤ 1000 := by
  unfold getZ getF at h
  split at h
  · split at h
    · rename_i h1
      injection h with h
      rw [← h, flat_size]
      omega
    · cases h
  · cases h
theorem getsL_short {l : List C} : ∀ {gs : List (Bool × Int)} {b : List (Bool × List C)}, getsL l gs = some b → ∀ x ∈ b, x.2.length ≤ 1000
  | [], b, h => by simp [getsL] at h; subst h; simp
  | g :: gs, b, h => by
    rw [getsL] at h
    cases h1 : getZ l g.2 with
    | none => rw [h1] at h; simp at h
    | some t =>
      rw [h1] at h
      cases h2 : getsL l gs with
      | none => rw [h2] at h; simp at h
      | some b2 =>
        rw [h2] at h
        simp at h
        subst h
        intro x hx
        rcases List.mem_cons.1 hx with rfl | hx
        · exact getZ_short h1
        · exact getsL_short h2 x hx
theorem getsZ_short {l : List C} {p : Int} {gs : List (Bool × Int)} {r : Raw} (h : getsZ l p gs = some r) : r.1.length ≤ 1000 ∧ ∀ x ∈ r.2, x.2.length ≤ 1000 := by
  unfold getsZ at h
  cases h1 : getZ l p with
  | none => rw [h1] at h; simp at h
  | some t =>
    rw [h1] at h
    cases h2 : getsL l gs with
    | none => rw [h2] at h; simp at h
    | some b =>
      rw [h2] at h
      simp at h
      subst h
      exact ⟨getZ_short h1, getsL_short h2⟩
/-- what Resolve hands back is short -/
theorem resC_short {A : Tm} {cl : Cls} {room : Int} {R : Raw} (h : resC A cl room = .inl R) : R.1.length ≤ 1000 ∧ ∀ x ∈ R.2, x.2.length ≤ 1000 := by
  unfold resC at h
  split at h
  · cases h
  · split at h
    · cases ho : outC (resM A (newF room)) (compF cl) with
      | bad => rw [ho] at h; cases h
      | err e k => rw [ho] at h; cases h
      | ok m k =>
        rw [ho] at h
        simp only at h
        cases hg : getsZ m.l 0 m.goals with
        | none => rw [hg] at h; cases h
        | some r =>
          rw [hg] at h
          simp only [Sum.inl.injEq] at h
          subst h
          obtain ⟨g1, g2⟩ := getsZ_short hg
          exact numR_short g1 g2
    · cases h
/-- an atom that a statement asks -/
theorem atom_tm {t : List C} (h : (decide (t.length ≤ 40) && atomB t) = true) : ∃ s us, (Tm.f s us).flat = t ∧ (Tm.f s us).ok = true ∧ (Tm.f s us).size ≤ 40 := by
  simp only [Bool.and_eq_true, decide_eq_true_eq] at h
  obtain ⟨T, h1, h2, h3, h4⟩ := atomB_tree h.2
  cases T with
  | v n => simp [Tm.c0] at h4
  | i n => simp [Tm.c0] at h4
  | f s us => exact ⟨s, us, h2, h1, by rw [← flat_size, h2]; exact h.1⟩
/-- Resolve, of a small clause -/
theorem res11 {cl : Cls} {s : ByteArray} {us : List Tm} {At : Option Addr} {k kc : Nat} {room : Int} (w : World) (hcl : IsCls cl (t, b)) (ha : IsC w At k kc (Tm.f s us).flat) (h : IsC w A n c t) (hB : IsLs w B m d b) (hA : (Tm.f s us).ok = true) (hs : (Tm.f s us).size ≤ 40) (hr : i64 room) (hdt : DT w) :
    Calls Tryd.prog 13 #[.slice At k kc, .agg #[.slice A n c, .slice B m d], .int .i64 room] w (RetRz w (resZ (.f s us) cl room)) :=
  kResolve_any s us cl At A B k kc n c m d t b room w ha h hB hcl (cls_may hcl) hA (by omega) hr hdt
end
end Go.Proofs.YtgipiplklaeplaaDoor
namespace Go.Proofs.YtgipiplklaeplaaDoor
open Go.RowKit
set_option maxRecDepth 100000 in
set_option maxHeartbeats 4000000 in
theorem machSelf_walk (A : Option Addr) (n c : Nat) (t : List C) (B : Option Addr) (m d : Nat) (b : List (Bool × List C)) (w : World) (h : IsC w A n c t) (hB : IsLs w B m d b) (hdt : DT w) :
    Calls Tryd.prog 7 #[.agg #[.slice A n c, .slice B m d]] w (RetV w (.bool true)) := by
  have hfew := fun X (hb : Below w.heap.size w X) => few11 X (h.below hb) (IsG.below keepsLit hB hb)
  have Hdt := Lib.hid hdt
  cases hf : fewB (t, b) 40
  · rw [hf] at hfew
    have Hfew := Lib.hid hfew
    clear hf hfew h hB hdt
    go_enter Tryd.func7, Tryd.ntmps7
    go_upto_region 1 with fail
    refine wp_world' (Φ := fun X => Below w.heap.size w X ∧ CB X w.heap.size A n c B m d) ⟨bas _ _, alloc_at rfl⟩ ?_
    rintro X ⟨hbX, hx⟩
    obtain ⟨g, hg⟩ : ∃ g, g = w.heap.size := ⟨_, rfl⟩
    rw [← hg] at hx ⊢
    clear hg
    go_wp2_with fail
    refine (head11_any _ (Hdt.out.below hbX)).mono ?_
    rintro e1 X1 ⟨rfl, hb1⟩
    have hbX1 := hbX.trans (hb1.mono hbX.size)
    replace hx := hx.below hb1
    obtain ⟨y0, y1, yl⟩ := hx.open
    clear hb1 hbX
    go_wp2_with fail
    refine (Hfew.out _ hbX1).mono ?_
    rintro e2 X2 ⟨rfl, hb2⟩
    have hbX2 := hbX1.trans (hb2.mono hbX1.size)
    replace hx := hx.below hb2
    clear y0 y1 yl hb2 hbX1
    obtain ⟨y0, y1, yl⟩ := hx.open
    go_wp2
    go_ret
    exact ⟨rfl, hbX2⟩
  · rw [hf] at hfew
    have Hfew := Lib.hid hfew
    obtain ⟨cl, hcl, hsm⟩ := fewB_cls hf
    obtain ⟨r1, r2, r3⟩ := small_rows hcl hsm
    simp only at r1 r2 r3
    obtain ⟨s, us, hh⟩ : ∃ s us, cl.head = .f s us := by
      have := hcl.hok.2.2
      cases hc : cl.head with
      | v n => rw [hc] at this; simp [Tm.c0] at this
      | i n => rw [hc] at this; simp [Tm.c0] at this
      | f s us => exact ⟨s, us, rfl⟩
    have hfl : (Tm.f s us).flat = t := by rw [← hh]; exact hcl.head
    have hok : (Tm.f s us).ok = true := by rw [← hh]; exact hcl.hok.1
    have hsz : (Tm.f s us).size ≤ 40 := by rw [← hh]; exact hsm.head
    have hres := fun X (hb : Below w.heap.size w X) => res11 (room := 4096) X hcl (by rw [hfl]; exact h.below hb) (h.below hb) (IsG.below keepsLit hB hb) hok hsz (i64_near (by omega) (by omega)) (hdt.below hb)
    rw [resZ_self hcl hsm hh] at hres
    have hnum := fun X (hb : Below w.heap.size w X) => num11 X (h.below hb) (IsG.below keepsLit hB hb) (by omega) (fun x hx => by have := r2 x hx; omega) (by omega)
    obtain ⟨s1, s2⟩ := numR_short (r := (t, b)) (by simp only; omega) (fun x hx => by have := r2 x hx; omega)
    generalize numR (t, b) = R at *
    have Hres := Lib.hid hres
    have Hnum := Lib.hid hnum
    have S1 := Lib.hid s1
    have S2 := Lib.hid s2
    clear hf hfew h hB hdt hres hnum s1 s2 hfl hok hsz hh r1 r2 r3 hcl hsm
    go_enter Tryd.func7, Tryd.ntmps7
    go_upto_region 1 with fail
    refine wp_world' (Φ := fun X => Below w.heap.size w X ∧ CB X w.heap.size A n c B m d) ⟨bas _ _, alloc_at rfl⟩ ?_
    rintro X ⟨hbX, hx⟩
    obtain ⟨g, hg⟩ : ∃ g, g = w.heap.size := ⟨_, rfl⟩
    rw [← hg] at hx ⊢
    clear hg
    go_wp2_with fail
    refine (head11_any _ (Hdt.out.below hbX)).mono ?_
    rintro e1 X1 ⟨rfl, hb1⟩
    have hbX1 := hbX.trans (hb1.mono hbX.size)
    replace hx := hx.below hb1
    obtain ⟨y0, y1, yl⟩ := hx.open
    clear hb1 hbX
    go_wp2_with fail
    refine (Hfew.out _ hbX1).mono ?_
    rintro e2 X2 ⟨rfl, hb2⟩
    have hbX2 := hbX1.trans (hb2.mono hbX1.size)
    replace hx := hx.below hb2
    clear y0 y1 yl hb2 hbX1
    obtain ⟨y0, y1, yl⟩ := hx.open
    go_wp2_with fail
    refine (Hres.out _ hbX2).mono ?_
    rintro e3 X3 ⟨T3, nT, cT, L3, nL, cL, rfl, hT, hL, hb3⟩
    have hbX3 := hbX2.trans (hb3.mono hbX2.size)
    replace hx := hx.below hb3
    clear y0 y1 yl hb3 hbX2
    obtain ⟨y0, y1, yl⟩ := hx.open
    have HT := Lib.hid hT
    have HL := Lib.hid hL
    clear hT hL
    go_wp2_with fail
    refine (Hnum.out _ hbX3).mono ?_
    rintro e4 X4 ⟨A4, n4, c4, B4, m4, d4, rfl, hA4, hB4, hb4⟩
    have hbX4 := hbX3.trans (hb4.mono hbX3.size)
    obtain rfl : n4 = nT := by rw [← hA4.len, ← HT.out.len]
    obtain rfl : m4 = nL := by rw [← hB4.len, ← HL.out.len]
    have hn4 : n4 ≤ 1000 := by have := hA4.len; have := S1.out; omega
    go_upto_region 6 with fail
    refine wp_world' (Φ := fun Y => Below w.heap.size w Y ∧ IsC Y T3 n4 cT R.1 ∧ IsLs Y L3 m4 cL R.2 ∧ IsC Y A4 n4 c4 R.1 ∧ IsLs Y B4 m4 d4 R.2 ∧ CB Y X4.heap.size A4 n4 c4 B4 m4 d4) ⟨hbX4.alloc hbX4.size _, (HT.out.below hb4).below (bas _ _), IsG.below keepsLit (IsG.below keepsLit HL.out hb4) (bas _ _), hA4.below (bas _ _), IsG.below keepsLit hB4 (bas _ _), alloc_at rfl⟩ ?_
    rintro Y ⟨hbY, hTY, hLY, hAY, hBY, hz⟩
    obtain ⟨g4, hg4⟩ : ∃ g4, g4 = X4.heap.size := ⟨_, rfl⟩
    rw [← hg4] at hz ⊢
    clear hg4 hb4 hA4 hB4 HT HL hx y0 y1 yl hbX3 hbX4
    obtain ⟨z0, z1, zl⟩ := hz.open
    have HsT := Lib.hid (rSame_v hTY hAY hn4)
    have Hk := Lib.hid (And.intro hLY (And.intro hBY hz))
    clear hTY hAY hLY hBY hz
    go_wp2_with fail
    refine HsT.out.mono ?_
    rintro e5 Y5 ⟨rfl, hb5⟩
    obtain ⟨hLY, hBY, hz⟩ := Hk.out
    replace hz := hz.below hb5
    have hls := rLits_v (IsG.below keepsLit hLY hb5) (IsG.below keepsLit hBY hb5) S2.out
    have Hls := Lib.hid hls
    have hbY5 := hbY.trans (hb5.mono hbY.size)
    clear z0 z1 zl hLY hBY hls hb5 hbY Hk HsT
    obtain ⟨z0, z1, zl⟩ := hz.open
    go_wp2_with fail
    refine Hls.out.mono ?_
    rintro e6 Y6 ⟨rfl, hb6⟩
    have hbY6 := hbY5.trans (hb6.mono hbY5.size)
    clear hb6 hbY5 z0 z1 zl
    go_wp2
    go_ret
    exact ⟨rfl, hbY6⟩
end Go.Proofs.YtgipiplklaeplaaDoor
