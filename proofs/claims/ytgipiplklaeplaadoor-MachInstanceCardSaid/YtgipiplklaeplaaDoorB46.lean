/- Texts of this proof that belong together: words of memory, plain laws, walks. -/
import Derived.Test.YtgipiplklaeplaaDoorB44
import Derived.Test.YtgipiplklaeplaaDoorB45
set_option linter.unusedVariables false
set_option linter.unusedSimpArgs false
namespace Go.Proofs.YtgipiplklaeplaaDoor
open Go.RowKit
section
variable {f : Int → Int} {P : Int → Prop}
theorem place_ren (hinj : ∀ x y, P x → P y → f x = f y → x = y) {l : List Int} (hl : ∀ x ∈ l, P x) {v : Int} (hv : P v) : placeI (l.map f) (f v) = placeI l v := idx_ren hinj hv l 0 hl
theorem varsLr_ren (hinj : ∀ x y, P x → P y → f x = f y → x = y) : ∀ (b : List (Bool × List C)) (acc : List Int), (∀ x ∈ acc, P x) → (∀ p ∈ b, ∀ c ∈ p.2, c.kind = 1 → P c.n) →
  varsLr (acc.map f) (b.map fun p => (p.1, turnF f p.2)) = (varsLr acc b).map f ∧ ∀ x ∈ varsLr acc b, P x
 | [], acc, ha, _ => ⟨rfl, ha⟩
 | p :: b, acc, ha, hb => by
  rw [List.map_cons, varsLr, varsLr]
  have h1 := vars_turn hinj p.2 acc ha (hb p (by simp))
  simp only
  rw [h1]
  refine varsLr_ren hinj b _ (fun x hx => ?_) (fun q hq => hb q (by simp [hq]))
  rcases mem_varsA.1 hx with hx | ⟨c, h2, h3, h4⟩
  ·exact ha x hx
  ·rw [← h4]; exact hb p (by simp) c h2 h3
theorem numR_ren (hinj : ∀ x y, P x → P y → f x = f y → x = y) {t : List C} {b : List (Bool × List C)} (ht : ∀ c ∈ t, c.kind = 1 → P c.n) (hb : ∀ p ∈ b, ∀ c ∈ p.2, c.kind = 1 → P c.n) :
  numR (turnF f t, b.map fun p => (p.1, turnF f p.2)) = numR (t, b) := by
 have h1 := varsF_turn hinj t ht
 have hv : ∀ x ∈ varsF t, P x := fun x hx => by
  obtain ⟨c, h2, h3, h4⟩ := mem_vars.1 hx
  rw [← h4]; exact ht c h2 h3
 obtain ⟨h2, h3⟩ := varsLr_ren hinj b (varsF t) hv hb
 unfold numR
 simp only
 rw [h1, h2, turn_turn, List.map_map]
 congr 1
 ·exact turn_congr fun c hc hk => place_ren hinj h3 (ht c hc hk)
 ·refine List.map_congr_left fun p hp => ?_
  simp only [Function.comp]
  rw [turn_turn]
  congr 1
  exact turn_congr fun c hc hk => place_ren hinj h3 (hb p hp c hc hk)
end
theorem flats_mem8 {ts : List Tm} {u : Tm} {c : C} (hu : u ∈ ts) (hc : c ∈ u.flat) : c ∈ flats ts := by
 induction ts with
 | nil => cases hu
 | cons x ts ih =>
  rw [flats_cons, List.mem_append]
  rcases List.mem_cons.1 hu with rfl | hu
  ·exact .inl hc
  ·exact .inr (ih hu)
theorem variant_ren {T U : Tm} {K J : Int → Tm} (h1 : T.sub K = U) (h2 : U.sub J = T) : ∃ f : Int → Int, (∀ n, T.has n → K n = .v (f n)) ∧ ∀ x y, T.has x → T.has y → f x = f y → x = y := by
 have h3 : T.sub (fun n => (K n).sub J) = T.sub Tm.v := by rw [← sub_sub, h1, h2, sub_v]
 have h4 := sub_inj T h3
 have h5 : ∀ n, T.has n → ∃ m, K n = .v m ∧ J m = .v n := fun n hn => by
  have := h4 n hn
  cases hk : K n with
  | v m => rw [hk] at this; exact ⟨m, rfl, this⟩
  | i m => rw [hk] at this; cases this
  | f s us => rw [hk] at this; cases this
 obtain ⟨f, hf⟩ : ∃ f : Int → Int, ∀ n, T.has n → K n = .v (f n) ∧ J (f n) = .v n := by
  refine ⟨fun n => match K n with | .v m => m | _ => 0, fun n hn => ?_⟩
  obtain ⟨m, e1, e2⟩ := h5 n hn
  simp only [e1]
  exact ⟨trivial, e2⟩
 refine ⟨f, fun n hn => (hf n hn).1, fun x y hx hy he => ?_⟩
 have e1 := (hf x hx).2
 have e2 := (hf y hy).2
 rw [he, e2] at e1
 injection e1 with e1
 exact e1.symm
def zipF (ns : List Bool) (ts : List Tm) : List (Bool × List C) := List.zipWith (fun n u => (n, Tm.flat u)) ns ts
theorem zipF_map (f : Int → Int) (g : Tm → Tm) : ∀ (ns : List Bool) (ts : List Tm), (∀ u ∈ ts, (g u).flat = turnF f u.flat) → zipF ns (ts.map g) = (zipF ns ts).map fun p => (p.1, turnF f p.2)
 | [], _, _ => by simp [zipF]
 | _ :: _, [], _ => by simp [zipF]
 | n :: ns, u :: ts, h => by
  have ih := zipF_map f g ns ts (fun x hx => h x (by simp [hx]))
  unfold zipF at ih ⊢
  rw [List.map_cons, List.zipWith_cons_cons, List.zipWith_cons_cons, List.map_cons, ih, h u (by simp)]
theorem zipF_mem {ns : List Bool} {ts : List Tm} {p : Bool × List C} (h : p ∈ zipF ns ts) : ∃ u ∈ ts, p.2 = u.flat := by
 induction ts generalizing ns with
 | nil => simp [zipF] at h
 | cons u ts ih =>
  cases ns with
  | nil => simp [zipF] at h
  | cons n ns =>
   unfold zipF at h
   rw [List.zipWith_cons_cons, List.mem_cons] at h
   rcases h with rfl | h
   ·exact ⟨u, by simp, rfl⟩
   ·obtain ⟨x, h1, h2⟩ := ih h
    exact ⟨x, by simp [h1], h2⟩
theorem variant_clause {t t' : Tm} {ts ts' : List Tm} {K J : Int → Tm} (h0 : t.sub K = t') (h1 : ts.map (Tm.sub K) = ts') (h2 : t'.sub J = t) (h3 : ts'.map (Tm.sub J) = ts) (ns : List Bool) :
  numR (t'.flat, zipF ns ts') = numR (t.flat, zipF ns ts) ∧ t'.size = t.size ∧ ts'.map Tm.size = ts.map Tm.size := by
 obtain ⟨f, hf, hi⟩ := variant_ren (T := .f emp (t :: ts)) (U := .f emp (t' :: ts')) (K := K) (J := J) (by simp only [Tm.sub, subs]; rw [h0, subs_map, h1]) (by simp only [Tm.sub, subs]; rw [h2, subs_map, h3])
 have hh : ∀ n, t.has n → (Tm.f emp (t :: ts)).has n := fun n hn => by
  unfold Tm.has at hn ⊢
  simp only [Tm.flat, flats, List.mem_cons, List.mem_append]
  exact .inr (.inl hn)
 have hb : ∀ u ∈ ts, ∀ n, u.has n → (Tm.f emp (t :: ts)).has n := fun u hu n hn => by
  unfold Tm.has at hn ⊢
  simp only [Tm.flat, flats, List.mem_cons, List.mem_append]
  exact .inr (.inr (flats_mem8 hu hn))
 have e0 : t'.flat = turnF f t.flat := by
  rw [← h0, ← sub_turn f t]
  exact congrArg Tm.flat (sub_congr t (fun n hn => hf n (hh n hn)))
 have e1 : ∀ u ∈ ts, (u.sub K).flat = turnF f u.flat := fun u hu => by
  rw [← sub_turn f u]
  exact congrArg Tm.flat (sub_congr u (fun n hn => hf n (hb u hu n hn)))
 refine ⟨?_, ?_, ?_⟩
 ·rw [e0, ← h1, zipF_map f _ ns ts e1]
  refine numR_ren (P := fun x => (Tm.f emp (t :: ts)).has x) hi (fun c hc hk => hh _ ?_) (fun p hp c hc hk => ?_)
  ·unfold Tm.has; rw [← flat_vn8 t c hc hk]; exact hc
  ·obtain ⟨u, hu, e⟩ := zipF_mem hp
   rw [e] at hc
   refine hb u hu _ ?_
   unfold Tm.has; rw [← flat_vn8 u c hc hk]; exact hc
 ·rw [← flat_size, ← flat_size, e0, turn_len]
 ·rw [← h1, List.map_map]
  refine List.map_congr_left fun u hu => ?_
  simp only [Function.comp]
  rw [← flat_size, ← flat_size, e1 u hu, turn_len]
theorem c0_sub_ne {A H : Tm} {s : ByteArray} {us : List Tm} (hA : A = .f s us) (hk : H.c0.kind = 3) (hne : A.c0.beq H.c0 = false) (ρ σ : Int → Tm) : A.sub ρ ≠ H.sub σ := fun he => by
 cases H with
 | v n => simp [Tm.c0] at hk
 | i n => simp [Tm.c0] at hk
 | f s' Ts =>
  subst hA
  simp only [Tm.sub, Tm.f.injEq] at he
  obtain ⟨h1, h2⟩ := he
  have h3 := congrArg List.length h2
  rw [subs_map, subs_map, List.length_map, List.length_map] at h3
  have : (Tm.f s us).c0.beq (Tm.f s' Ts).c0 = true := (beq_iff _ _).2 (by simp [Tm.c0, h1, h3])
  rw [this] at hne
  cases hne
theorem bodyW_le : ∀ (ls : List Ltl), (∀ l ∈ ls, l.t.size ≤ 40) → bodyW ls ≤ 80 * ls.length
 | [], _ => Nat.zero_le _
 | l :: ls, h => by
  have h1 := bodyW_le ls (fun x hx => h x (by simp [hx]))
  have h2 := hw_le l.t
  have h3 := h l (by simp)
  simp only [bodyW, List.length_cons]
  omega
theorem getF_if {l : List C} (h : Good l) (hN : l.length ≤ 1000) {p : Nat} (hp : p < l.length) : getF l p = if (den l p).size ≤ 200 then some (den l p).flat else none := by
 unfold getF
 rw [h.den_vle hN p hp]
 simp
theorem getZ_if {l : List C} (h : Good l) (hN : l.length ≤ 1000) {p : Int} (hp : 0 ≤ p ∧ p < (l.length : Int)) : getZ l p = if (den l p.toNat).size ≤ 200 then some (den l p.toNat).flat else none := by
 unfold getZ
 rw [if_pos hp, getF_if h hN (by omega)]
theorem getsL_if {l : List C} (h : Good l) (hN : l.length ≤ 1000) : ∀ (gs : List (Bool × Int)), (∀ g ∈ gs, 0 ≤ g.2 ∧ g.2 < (l.length : Int)) →
  (getsL l gs = none ∧ ∃ u ∈ gs.map (fun g => den l g.2.toNat), 200 < u.size) ∨ (getsL l gs = some (zipF (gs.map (·.1)) (gs.map fun g => den l g.2.toNat)) ∧ ∀ u ∈ gs.map (fun g => den l g.2.toNat), u.size ≤ 200)
 | [], _ => .inr ⟨rfl, by simp⟩
 | g :: gs, hg => by
  have h1 := getZ_if h hN (hg g (by simp))
  by_cases hs : (den l g.2.toNat).size ≤ 200
  ·rw [if_pos hs] at h1
   rcases getsL_if h hN gs (fun x hx => hg x (by simp [hx])) with ⟨h2, u, h3, h4⟩ | ⟨h2, h3⟩
   ·left
    refine ⟨by rw [getsL, h1, h2], u, ?_, h4⟩
    rw [List.map_cons]
    exact List.mem_cons_of_mem _ h3
   ·right
    refine ⟨by rw [getsL, h1, h2]; rfl, fun u hu => ?_⟩
    rw [List.map_cons, List.mem_cons] at hu
    rcases hu with rfl | hu
    ·exact hs
    ·exact h3 u hu
  ·rw [if_neg hs] at h1
   left
   exact ⟨by rw [getsL, h1], _, List.mem_cons_self .., show 200 < (den l g.2.toNat).size by omega⟩
structure Small (c : Cls) : Prop where
 head : c.head.size ≤ 40
 body : ∀ l ∈ c.body, l.t.size ≤ 40
 len : c.body.length ≤ 8
theorem small_of {c : Cls} {r : Raw} (h : IsCls c r) (hf : fewB r 40 = true) : Small c := by
 simp only [fewB, Bool.and_eq_true, decide_eq_true_eq, List.all_eq_true] at hf
 obtain ⟨h1, h2, h3, _⟩ := hf
 refine ⟨?_, fun l hl => ?_, h.len⟩
 ·rw [← h.head, flat_size] at h1; omega
 ·have : (l.neg, l.t.flat) ∈ r.2 := by rw [← h.body]; exact List.mem_map.2 ⟨l, hl, rfl⟩
  have h4 := h3 _ this
  simp only [flat_size] at h4
  omega
theorem resZ_law {s : ByteArray} {us : List Tm} {c : Cls} {r : Raw} (hcls : IsCls c r) (hc : Small c) (hA : (Tm.f s us).ok = true) (hs : (Tm.f s us).size ≤ 40) :
  (resZ (.f s us) c 4096 = .inr 3 ∧ ∀ ρ σ, (Tm.f s us).sub ρ ≠ c.head.sub σ) ∨ ∃ (t : Tm) (ts : List Tm) (ρ σ : Int → Tm), Rsd (.f s us) c.head (c.body.map (·.t)) t ts ρ σ ∧
   ((resZ (.f s us) c 4096 = .inr 2 ∧ (200 < t.size ∨ ∃ u ∈ ts, 200 < u.size)) ∨ (resZ (.f s us) c 4096 = .inl (numR (t.flat, zipF (c.body.map (·.neg)) ts)) ∧ t.size ≤ 200 ∧ ∀ u ∈ ts, u.size ≤ 200)) := by
 have e4 : newF 4096 = 4096 := by unfold newF; rw [if_pos (by omega)]
 unfold resZ
 cases hne : (Tm.f s us).c0.beq c.head.c0 with
 | false =>
  left
  exact ⟨if_pos rfl, c0_sub_ne rfl hcls.hok.2.2 hne⟩
 | true =>
  rw [if_neg (show ¬ (true = false) by simp)]
  have hput := putA_len8 (Tm.f s us) [] []
  simp only [List.length_nil] at hput
  have hfit : ((putA [] (Tm.f s us) []).1.length : Int) ≤ newF 4096 := by rw [e4]; omega
  rw [if_pos hfit]
  obtain ⟨Ts, hT, hl, st, kn, hsafe⟩ := res_safe hcls hA (by omega) hne hfit
  have hN : (putA [] (Tm.f s us) []).1.length + c.need ≤ 1000 := by
   have h1 := hws_le c.head.args
   have h2 : sizes c.head.args ≤ 40 := by have := hc.head; rw [hT] at this ⊢; simp only [Tm.size, Tm.args] at this ⊢; omega
   have h3 := bodyW_le c.body hc.body
   have h4 := hc.len
   unfold Cls.need
   omega
  cases hout : out (resM (Tm.f s us) (newF 4096)) (compF c) with
  | bad => rw [hout] at hsafe; exact hsafe.elim
  | err x j =>
   rw [hout] at hsafe
   rcases hsafe with ⟨rfl, hno⟩ | ⟨_, hr⟩
   ·left
    refine ⟨rfl, ?_⟩
    exact rsd_none rfl hT hl hA (by omega) (by rw [hT]; exact hno)
   ·rw [e4] at hr
    exfalso
    have h5 : (resM (Tm.f s us) 4096).r = 4096 := rfl
    have h6 : (resM (Tm.f s us) 4096).l = (putA [] (Tm.f s us) []).1 := rfl
    rw [h5, h6] at hr
    omega
  | ok m j =>
   rw [hout] at hsafe
   have hinv : Inv (resM (Tm.f s us) (newF 4096)) c.head.args ((resM (Tm.f s us) (newF 4096)).l.length + c.need) st [] [] kn c.body 0 m := by rw [hT]; exact hsafe
   right
   obtain ⟨σ, hrsd⟩ := rsd_of rfl hT hl hA (by omega) hinv
   refine ⟨_, _, _, σ, hrsd, ?_⟩
   obtain ⟨hg, _, _⟩ := res_room hinv
   have hlen : m.l.length ≤ 1000 := by
    have h1 := hinv.room
    have h6 : (resM (Tm.f s us) (newF 4096)).l = (putA [] (Tm.f s us) []).1 := rfl
    rw [h6] at h1
    omega
   obtain ⟨d, hd⟩ := hinv.hst
   have hle := hd.le
   have h0 : 0 < m.l.length := by
    have := put_pos (Tm.f s us)
    have h6 : (resM (Tm.f s us) (newF 4096)).l = (putA [] (Tm.f s us) []).1 := rfl
    rw [h6] at hle
    omega
   have hneg : m.goals.map (·.1) = c.body.map (·.neg) := by
    obtain ⟨g1, g2⟩ := hinv.go
    apply List.ext_getElem?
    intro i
    rw [List.getElem?_map, List.getElem?_map]
    cases hb : c.body[i]? with
    | none => rw [List.getElem?_eq_none (by have := List.getElem?_eq_none_iff.1 hb; omega)]; rfl
    | some l =>
     obtain ⟨r, q1, _⟩ := g2 i l hb
     rw [q1]; rfl
   have hpl : ∀ g ∈ m.goals, 0 ≤ g.2 ∧ g.2 < (m.l.length : Int) := fun g hgm => by
    obtain ⟨g1, g2⟩ := hinv.go
    obtain ⟨i, hi⟩ := List.getElem?_of_mem hgm
    have hil := (List.getElem?_eq_some_iff.1 hi).1
    obtain ⟨r, q1, q2⟩ := g2 i (c.body[i]'(by omega)) (List.getElem?_eq_getElem _)
    rw [hi] at q1
    injection q1 with q1
    have hkr := hinv.sok.kr _ q2
    have := hinv.mok.reg hkr.1 (by rw [hinv.len]; exact hkr.2)
    rw [q1]
    exact this
   have hz0 := getZ_if hg hlen (p := 0) ⟨by omega, by omega⟩
   simp only [Int.toNat_zero] at hz0
   simp only
   unfold getsZ
   by_cases hs0 : (den m.l 0).size ≤ 200
   ·rw [if_pos hs0] at hz0
    rw [hz0]
    rcases getsL_if hg hlen m.goals hpl with ⟨h2, h3⟩ | ⟨h2, h3⟩
    ·rw [h2]
     exact .inl ⟨rfl, .inr h3⟩
    ·rw [h2, hneg]
     exact .inr ⟨rfl, hs0, h3⟩
   ·rw [if_neg hs0] at hz0
    rw [hz0]
    exact .inl ⟨rfl, .inl (by omega)⟩
structure Over (A H : Tm) (Bs : List Tm) (A' H' : Tm) (Bs' : List Tm) : Prop where
 way : ∀ ρ' σ' : Int → Tm, A'.sub ρ' = H'.sub σ' → ∃ ρ σ : Int → Tm, A.sub ρ = A'.sub ρ' ∧ H.sub σ = H'.sub σ' ∧ Bs.map (Tm.sub σ) = Bs'.map (Tm.sub σ')
theorem Rsd.map {A H : Tm} {Bs : List Tm} {t : Tm} {ts : List Tm} {ρ σ : Int → Tm} (h : Rsd A H Bs t ts ρ σ) : ts = Bs.map (Tm.sub σ) := by
 apply List.ext_getElem?
 intro i
 rw [List.getElem?_map]
 cases hb : Bs[i]? with
 | none => rw [List.getElem?_eq_none (by have := List.getElem?_eq_none_iff.1 hb; have := h.len; omega)]; rfl
 | some b => rw [h.body i b hb]; rfl
theorem Rsd.out {A H : Tm} {Bs : List Tm} {t : Tm} {ts : List Tm} {ρ σ : Int → Tm} (h : Rsd A H Bs t ts ρ σ) {ρ' σ' : Int → Tm} (he : A.sub ρ' = H.sub σ') : ∃ K : Int → Tm, t.sub K = A.sub ρ' ∧ ts.map (Tm.sub K) = Bs.map (Tm.sub σ') := by
 obtain ⟨K, h1, h2⟩ := h.most ρ' σ' he
 refine ⟨K, h1.symm, ?_⟩
 apply List.ext_getElem?
 intro i
 rw [List.getElem?_map, List.getElem?_map]
 cases hb : Bs[i]? with
 | none => rw [List.getElem?_eq_none (by have := List.getElem?_eq_none_iff.1 hb; have := h.len; omega)]; rfl
 | some b =>
  have hu := h.body i b hb
  rw [hu, Option.map_some, Option.map_some, ← h2 i b _ hb hu]
theorem rsd_two {A H A' H' : Tm} {Bs Bs' : List Tm} {t t' : Tm} {ts ts' : List Tm} {ρ σ ρ' σ' : Int → Tm} (h : Rsd A H Bs t ts ρ σ) (h' : Rsd A' H' Bs' t' ts' ρ' σ') (o : Over A H Bs A' H' Bs') (o' : Over A' H' Bs' A H Bs) (ns : List Bool) :
  numR (t'.flat, zipF ns ts') = numR (t.flat, zipF ns ts) ∧ t'.size = t.size ∧ ts'.map Tm.size = ts.map Tm.size := by
 obtain ⟨ρ1, σ1, a1, a2, a3⟩ := o.way ρ' σ' (h'.atom.symm.trans h'.head)
 obtain ⟨ρ2, σ2, b1, b2, b3⟩ := o'.way ρ σ (h.atom.symm.trans h.head)
 obtain ⟨K, k1, k2⟩ := h.out (ρ' := ρ1) (σ' := σ1) (by rw [a1, a2]; exact h'.atom.symm.trans h'.head)
 obtain ⟨J, j1, j2⟩ := h'.out (ρ' := ρ2) (σ' := σ2) (by rw [b1, b2]; exact h.atom.symm.trans h.head)
 refine variant_clause (K := K) (J := J) ?_ ?_ ?_ ?_ ns
 ·rw [k1, a1]; exact h'.atom.symm
 ·rw [k2, a3]; exact h'.map.symm
 ·rw [j1, b1]; exact h.atom.symm
 ·rw [j2, b3]; exact h.map.symm
theorem size_some {ts ts' : List Tm} (h : ts'.map Tm.size = ts.map Tm.size) (hu : ∃ u ∈ ts, 200 < u.size) : ∃ u ∈ ts', 200 < u.size := by
 obtain ⟨u, h1, h2⟩ := hu
 have : u.size ∈ ts'.map Tm.size := by rw [h]; exact List.mem_map.2 ⟨u, h1, rfl⟩
 obtain ⟨x, h3, h4⟩ := List.mem_map.1 this
 exact ⟨x, h3, by omega⟩
theorem resZ_two {s s' : ByteArray} {us us' : List Tm} {c c' : Cls} {r r' : Raw} (hcls : IsCls c r) (hc : Small c) (hA : (Tm.f s us).ok = true) (hs : (Tm.f s us).size ≤ 40)
  (hcls' : IsCls c' r') (hc' : Small c') (hA' : (Tm.f s' us').ok = true) (hs' : (Tm.f s' us').size ≤ 40) (hn : c'.body.map (·.neg) = c.body.map (·.neg))
  (o : Over (.f s us) c.head (c.body.map (·.t)) (.f s' us') c'.head (c'.body.map (·.t))) (o' : Over (.f s' us') c'.head (c'.body.map (·.t)) (.f s us) c.head (c.body.map (·.t))) : resZ (.f s' us') c' 4096 = resZ (.f s us) c 4096 := by
 rcases resZ_law hcls hc hA hs with ⟨e, hno⟩ | ⟨t, ts, ρ, σ, hr, hz⟩
 ·rcases resZ_law hcls' hc' hA' hs' with ⟨e', _⟩ | ⟨t', ts', ρ', σ', hr', _⟩
  ·rw [e, e']
  ·obtain ⟨ρ1, σ1, a1, a2, _⟩ := o.way ρ' σ' (hr'.atom.symm.trans hr'.head)
   exact absurd (by rw [a1, a2]; exact hr'.atom.symm.trans hr'.head) (hno ρ1 σ1)
 ·rcases resZ_law hcls' hc' hA' hs' with ⟨_, hno'⟩ | ⟨t', ts', ρ', σ', hr', hz'⟩
  ·obtain ⟨ρ1, σ1, a1, a2, _⟩ := o'.way ρ σ (hr.atom.symm.trans hr.head)
   exact absurd (by rw [a1, a2]; exact hr.atom.symm.trans hr.head) (hno' ρ1 σ1)
  ·obtain ⟨v1, v2, v3⟩ := rsd_two hr hr' o o' (c.body.map (·.neg))
   rw [hn] at hz'
   rcases hz with ⟨e, hb⟩ | ⟨e, hb1, hb2⟩ <;> rcases hz' with ⟨e', hb'⟩ | ⟨e', hb1', hb2'⟩
   ·rw [e, e']
   ·exfalso
    rcases hb with hb | hb
    ·omega
    ·obtain ⟨u, h1, h2⟩ := size_some v3 hb
     have := hb2' u h1
     omega
   ·exfalso
    rcases hb' with hb' | hb'
    ·omega
    ·obtain ⟨u, h1, h2⟩ := size_some v3.symm hb'
     have := hb2 u h1
     omega
   ·rw [e, e', v1]
end Go.Proofs.YtgipiplklaeplaaDoor
namespace Go.Proofs.YtgipiplklaeplaaDoor
open Go.RowKit
mutual
theorem ren_sub (f : Int → Int) (S : Int → Tm) : ∀ T : Tm, (T.ren f).sub S = T.sub (fun n => S (f n))
 | .v n => rfl
 | .i n => rfl
 | .f s us => by simp only [Tm.ren, Tm.sub]; rw [rens_sub f S us]
theorem rens_sub (f : Int → Int) (S : Int → Tm) : ∀ us : List Tm, subs S (rens f us) = subs (fun n => S (f n)) us
 | [] => rfl
 | u :: us => by rw [rens_cons]; simp only [subs]; rw [ren_sub f S u, rens_sub f S us]
end
theorem ren_v (f : Int → Int) (T : Tm) : T.sub (fun n => .v (f n)) = T.ren f := by
 have := ren_sub f Tm.v T
 rw [sub_v] at this
 exact this.symm
theorem sub_ren (f : Int → Int) (S : Int → Tm) (T : Tm) : (T.sub S).ren f = T.sub (fun n => (S n).ren f) := by
 rw [← ren_v, sub_sub]
 exact sub_congr T fun n _ => ren_v f (S n)
theorem isCls_ren {c : Cls} {r : Raw} (h : IsCls c r) {f : Int → Int} {P : Int → Prop} (hf : ∀ x, P x → 0 ≤ f x ∧ f x ≤ 999) (hh : ∀ d ∈ r.1, d.kind = 1 → P d.n) (hb : ∀ p ∈ r.2, ∀ d ∈ p.2, d.kind = 1 → P d.n) :
  IsCls (c.ren f) (turnF f r.1, r.2.map fun p => (p.1, turnF f p.2)) := by
 have hbl : ∀ l ∈ c.body, (l.neg, l.t.flat) ∈ r.2 := fun l hl => by rw [← h.body]; exact List.mem_map.2 ⟨l, hl, rfl⟩
 have hhead : c.head.all P := all_of _ fun d hd hk => hh d (by rw [← h.head]; exact hd) hk
 have hbody : ∀ l ∈ c.body, l.t.all P := fun l hl => all_of _ fun d hd hk => hb _ (hbl l hl) d hd hk
 refine ⟨?_, ⟨ren_ok hf _ h.hok.1 hhead, ?_, (ren_kind _ _).trans h.hok.2.2⟩, ?_, ?_, ?_⟩
 ·simp only [Cls.ren]; rw [ren_flat, h.head]
 ·simp only [Cls.ren]; rw [ren_size]; exact h.hok.2.1
 ·simp only [Cls.ren, List.map_map]
  rw [← h.body, List.map_map]
  refine List.map_congr_left fun l _ => ?_
  simp [Function.comp, ren_flat]
 ·intro l hl
  simp only [Cls.ren] at hl
  obtain ⟨x, hx, rfl⟩ := List.mem_map.1 hl
  exact ⟨ren_ok hf _ (h.bok x hx).1 (hbody x hx), by simp only; rw [ren_size]; exact (h.bok x hx).2.1, (ren_kind _ _).trans (h.bok x hx).2.2⟩
 ·simp only [Cls.ren, List.length_map]; exact h.len
theorem small_ren {c : Cls} (h : Small c) (f : Int → Int) : Small (c.ren f) := by
 refine ⟨by simp only [Cls.ren]; rw [ren_size]; exact h.head, fun l hl => ?_, by simp only [Cls.ren, List.length_map]; exact h.len⟩
 simp only [Cls.ren] at hl
 obtain ⟨x, hx, rfl⟩ := List.mem_map.1 hl
 simp only
 rw [ren_size]
 exact h.body x hx
theorem varsLr_le40 : ∀ (b : List (Bool × List C)) (acc : List Int), (∀ x ∈ b, x.2.length ≤ 40) → (varsLr acc b).length ≤ acc.length + 40 * b.length
 | [], acc, _ => by simp [varsLr]
 | p :: b, acc, h => by
  have h1 := varsA_len p.2 acc
  have h2 := varsLr_le40 b (varsA acc p.2) (fun x hx => h x (by simp [hx]))
  have h3 := h p (by simp)
  rw [varsLr, List.length_cons]
  omega
theorem num_small {c : Cls} {r : Raw} (h : IsCls c r) (hs : Small c) : (∀ d ∈ (numC c).1, d.kind = 1 → 0 ≤ d.n ∧ d.n ≤ 359) ∧ ∀ p ∈ (numC c).2, ∀ d ∈ p.2, d.kind = 1 → 0 ≤ d.n ∧ d.n ≤ 359 := by
 have hlen : (numV c).length ≤ 360 := by
  unfold numV
  rw [← varsLr_cls]
  have h1 := varsLr_le40 (c.body.map fun l => (l.neg, l.t.flat)) (varsF c.head.flat) (fun x hx => by
   obtain ⟨l, hl, rfl⟩ := List.mem_map.1 hx
   simp only
   rw [flat_size]
   exact hs.body l hl)
  have h2 := varsF_len c.head.flat
  rw [flat_size] at h2
  have h3 := hs.head
  have h4 := hs.len
  rw [List.length_map] at h1
  omega
 have key : ∀ (t : List C), (∀ d ∈ t, d.kind = 1 → d.n ∈ numV c) → ∀ d ∈ turnF (placeI (numV c)) t, d.kind = 1 → 0 ≤ d.n ∧ d.n ≤ 359 := fun t ht d hd hk => by
  rw [turnF_map] at hd
  obtain ⟨x, hx, rfl⟩ := List.mem_map.1 hd
  rw [turnC_kind] at hk
  rw [turnC_var hk]
  have := place_range (numV_nodup c) (ht x hx hk)
  simp only
  omega
 refine ⟨key _ fun d hd hk => (numV_mem c _).2 (.inl ⟨d, hd, hk, rfl⟩), fun p hp => ?_⟩
 simp only [numC] at hp
 obtain ⟨l, hl, rfl⟩ := List.mem_map.1 hp
 exact key _ fun d hd hk => (numV_mem c _).2 (.inr ⟨l, hl, d, hd, hk, rfl⟩)
theorem num_atom {s : ByteArray} {us : List Tm} (hA : (Tm.f s us).ok = true) (hs : (Tm.f s us).size ≤ 40) : ∃ us', (Tm.f s us').flat = numberF (Tm.f s us).flat ∧ (Tm.f s us').ok = true ∧ (Tm.f s us').size ≤ 40 ∧ (∀ d ∈ (Tm.f s us').flat, d.kind = 1 → 0 ≤ d.n ∧ d.n < ((varsF (numberF (Tm.f s us).flat)).length : Int)) ∧ (varsF (numberF (Tm.f s us).flat)).length ≤ 40 := by
 obtain ⟨V, hV⟩ : ∃ V, V = varsF (Tm.f s us).flat := ⟨_, rfl⟩
 have hnd : V.Nodup := by rw [hV]; exact varsF_nodup _
 have hlen : V.length ≤ 40 := by have := varsF_len (Tm.f s us).flat; rw [flat_size] at this; rw [hV]; omega
 have hmem : ∀ d ∈ (Tm.f s us).flat, d.kind = 1 → d.n ∈ V := fun d hd hk => by rw [hV]; exact mem_vars.2 ⟨d, hd, hk, rfl⟩
 have hv2 : (varsF (numberF (Tm.f s us).flat)).length = V.length := by
  unfold numberF
  rw [← hV, varsF_turn (P := fun x => x ∈ V) (place_inj hnd) _ hmem, List.length_map, hV]
 refine ⟨rens (placeI V) us, ?_, ?_, ?_, ?_, by rw [hv2]; exact hlen⟩
 ·show ((Tm.f s us).ren (placeI V)).flat = _
  rw [ren_flat, hV]; rfl
 ·show ((Tm.f s us).ren (placeI V)).ok = true
  refine ren_ok (P := fun x => x ∈ V) (fun x hx => ?_) _ hA (all_of _ hmem)
  have := place_range hnd hx
  omega
 ·show ((Tm.f s us).ren (placeI V)).size ≤ 40
  rw [ren_size]; exact hs
 ·intro d hd hk
  have hd2 : d ∈ ((Tm.f s us).ren (placeI V)).flat := hd
  rw [ren_flat, turnF_map] at hd2
  obtain ⟨x, hx, rfl⟩ := List.mem_map.1 hd2
  rw [turnC_kind] at hk
  rw [turnC_var hk, hv2]
  have := place_range hnd (hmem x hx hk)
  simp only
  omega
theorem shift_turn {t : List C} {v : Int} (hr : rightB t = true) (hv : 0 ≤ v ∧ v ≤ 300) (ht : ∀ d ∈ t, d.kind = 1 → 0 ≤ d.n ∧ d.n ≤ 359) : shiftF t v = turnF (fun n => n + v) t := by
 have e : turnF (fun n => wrap64 (n + v)) t = turnF (fun n => n + v) t := turn_congr fun c hc hk => by
  have := ht c hc hk
  exact wrap_small (by omega) (by omega)
 unfold shiftF
 rw [e, if_pos (turn_right hr fun c hc hk => by have := ht c hc hk; omega)]
theorem shift_atom {s : ByteArray} {us : List Tm} {v : Int} (hA : (Tm.f s us).ok = true) (hs : (Tm.f s us).size ≤ 40) (hv : 0 ≤ v ∧ v ≤ 300) (ht : ∀ d ∈ (Tm.f s us).flat, d.kind = 1 → 0 ≤ d.n ∧ d.n ≤ 359) :
  (Tm.f s (rens (fun n => n + v) us)).flat = shiftF (Tm.f s us).flat v ∧ (Tm.f s (rens (fun n => n + v) us)).ok = true ∧ (Tm.f s (rens (fun n => n + v) us)).size ≤ 40 := by
 refine ⟨?_, ?_, ?_⟩
 ·rw [shift_turn (right_flat hA (by omega)) hv ht]
  exact ren_flat _ (Tm.f s us)
 ·exact ren_ok (P := fun x => 0 ≤ x ∧ x ≤ 359) (fun x hx => by omega) (Tm.f s us) hA (all_of _ ht)
 ·show ((Tm.f s us).ren (fun n => n + v)).size ≤ 40
  rw [ren_size]; exact hs
theorem moved_cls {c : Cls} {r : Raw} (h : IsCls c r) {v : Int} (hv : 0 ≤ v ∧ v ≤ 300) (hh : ∀ d ∈ r.1, d.kind = 1 → 0 ≤ d.n ∧ d.n ≤ 359) (hb : ∀ p ∈ r.2, ∀ d ∈ p.2, d.kind = 1 → 0 ≤ d.n ∧ d.n ≤ 359) :
  IsCls (c.ren fun n => n + v) (shiftF r.1 v, r.2.map fun p => (p.1, shiftF p.2 v)) := by
 have := isCls_ren h (f := fun n => n + v) (P := fun x => 0 ≤ x ∧ x ≤ 359) (fun x hx => by omega) hh hb
 have e1 : shiftF r.1 v = turnF (fun n => n + v) r.1 := shift_turn (by rw [← h.head]; exact right_flat h.hok.1 h.hok.2.1) hv hh
 have e2 : (r.2.map fun p => (p.1, shiftF p.2 v)) = r.2.map fun p => (p.1, turnF (fun n => n + v) p.2) := by
  refine List.map_congr_left fun p hp => ?_
  have hp2 := hp
  rw [← h.body] at hp2
  obtain ⟨l, hl, rfl⟩ := List.mem_map.1 hp2
  rw [shift_turn (right_flat (h.bok l hl).1 (h.bok l hl).2.1) hv (hb _ hp)]
 rw [e1, e2]
 exact this
theorem over_ren {A H : Tm} {Bs : List Tm} (f g f' g' : Int → Int) (hf : ∀ n, f' (f n) = n) (hg : ∀ n, g' (g n) = n) :
  Over A H Bs (A.ren f) (H.ren g) (Bs.map (Tm.ren g)) ∧ Over (A.ren f) (H.ren g) (Bs.map (Tm.ren g)) A H Bs := by
 refine ⟨⟨fun ρ' σ' _ => ⟨fun n => ρ' (f n), fun n => σ' (g n), (ren_sub _ _ _).symm, (ren_sub _ _ _).symm, ?_⟩⟩, ⟨fun ρ' σ' _ => ⟨fun n => ρ' (f' n), fun n => σ' (g' n), ?_, ?_, ?_⟩⟩⟩
 ·rw [List.map_map]
  exact List.map_congr_left fun u _ => (ren_sub _ _ _).symm
 ·rw [ren_sub]; simp only [hf]
 ·rw [ren_sub]; simp only [hg]
 ·rw [List.map_map]
  refine List.map_congr_left fun u _ => ?_
  simp only [Function.comp]
  rw [ren_sub]; simp only [hg]
theorem resZ_names {s : ByteArray} {us : List Tm} {c : Cls} {r : Raw} {x y : Int} (hcls : IsCls c r) (hc : Small c) (hA : (Tm.f s us).ok = true) (hs : (Tm.f s us).size ≤ 40) (hx : 0 ≤ x ∧ x ≤ 300) (hy : 0 ≤ y ∧ y ≤ 300)
  (ha : ∀ d ∈ (Tm.f s us).flat, d.kind = 1 → 0 ≤ d.n ∧ d.n ≤ 359) (hh : ∀ d ∈ r.1, d.kind = 1 → 0 ≤ d.n ∧ d.n ≤ 359) (hb : ∀ p ∈ r.2, ∀ d ∈ p.2, d.kind = 1 → 0 ≤ d.n ∧ d.n ≤ 359) :
  resZ (.f s (rens (fun n => n + x) us)) (c.ren fun n => n + y) 4096 = resZ (.f s us) c 4096 := by
 obtain ⟨_, a2, a3⟩ := shift_atom hA hs hx ha
 have ho := over_ren (A := .f s us) (H := c.head) (Bs := c.body.map (·.t)) (fun n => n + x) (fun n => n + y) (fun n => n - x) (fun n => n - y) (fun n => by omega) (fun n => by omega)
 have hb2 : (c.ren fun n => n + y).body.map (·.t) = (c.body.map (·.t)).map (Tm.ren fun n => n + y) := by simp [Cls.ren]
 exact resZ_two hcls hc hA hs (moved_cls hcls hy hh hb) (small_ren hc _) a2 a3 (by simp [Cls.ren]) (by rw [hb2]; exact ho.1) (by rw [hb2]; exact ho.2)
end Go.Proofs.YtgipiplklaeplaaDoor
