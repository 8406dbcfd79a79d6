/- Texts of this proof that belong together: words of memory, plain laws, short walks. -/
import Derived.Test.YtlndjooddkjnoaaHpM
import Derived.Test.YtlndjooddkjnoaaB7
import Derived.Test.YtlndjooddkjnoaaC5
set_option linter.unusedVariables false
set_option linter.unusedSimpArgs false
/- Two terms that are put with their variables in common: unifying their places tells a most general unifier. No program in sight. -/
namespace Go.Proofs.Ytlndjooddkjnoaa
open Go.RowKit

/-- no two variables stand in one place -/
def AtInj (a : List Int) : Prop := ∀ v u, 0 ≤ atA a v → atA a v = atA a u → v = u
def AtLt (a : List Int) (P : Nat) : Prop := ∀ v, atA a v < (P : Int)
theorem AtLt.mono {a : List Int} {P Q : Nat} (h : AtLt a P) (hPQ : P ≤ Q) : AtLt a Q := fun v => by have := h v; omega
theorem atInj_ext {a : List Int} (h : AtInj a) (v : Nat) : AtInj (extA a v) := fun x y hx he => by
  rw [atA_ext] at hx he
  rw [atA_ext] at he
  exact h x y hx he
theorem atLt_ext {a : List Int} {P : Nat} (h : AtLt a P) (v : Nat) : AtLt (extA a v) P := fun x => by rw [atA_ext]; exact h x
theorem atInj_set {a : List Int} {P : Nat} (h : AtInj a) (hl : AtLt a P) (v : Nat) : AtInj ((extA a v).set v P) ∧ AtLt ((extA a v).set v P) (P + 1) := by
  have e : ∀ u, atA ((extA a v).set v P) u = if u = v then (P : Int) else atA a u := fun u => by rw [atA_set (extA_len a v), atA_ext]
  refine ⟨fun x y hx he => ?_, fun x => ?_⟩
  · rw [e] at hx he
    rw [e] at he
    by_cases e1 : x = v
    · by_cases e2 : y = v
      · rw [e1, e2]
      · rw [if_pos e1, if_neg e2] at he
        have := hl y
        omega
    · rw [if_neg e1] at hx he
      by_cases e2 : y = v
      · rw [if_pos e2] at he
        have := hl x
        omega
      · rw [if_neg e2] at he
        exact h x y hx he
  · rw [e]
    split
    · omega
    · have := hl x; omega
theorem slotA_inj (u : Tm) (P q : Nat) {a : List Int} (h : AtInj a) (hl : AtLt a P) : AtInj (slotA u P q a).2 ∧ AtLt (slotA u P q a).2 (P + 1) := by
  cases u with
  | i n => exact ⟨h, hl.mono (by omega)⟩
  | f s us => exact ⟨h, hl.mono (by omega)⟩
  | v n =>
    rw [slotA_v]
    split
    · exact atInj_set h hl _
    · exact ⟨atInj_ext h _, (atLt_ext hl _).mono (by omega)⟩
theorem slotsA_inj : ∀ (us : List Tm) (P q : Nat) {a : List Int}, AtInj a → AtLt a P → AtInj (slotsA us P q a).2 ∧ AtLt (slotsA us P q a).2 (P + us.length)
  | [], P, q, a, h, hl => ⟨h, hl⟩
  | u :: us, P, q, a, h, hl => by
    obtain ⟨h1, h2⟩ := slotA_inj u P q h hl
    obtain ⟨h3, h4⟩ := slotsA_inj us (P + 1) (q + u.hs) h1 h2
    exact ⟨h3, h4.mono (by simp; omega)⟩
mutual
theorem layA_inj : ∀ (T : Tm) (P : Nat) {a : List Int}, AtInj a → AtLt a P → AtInj (layA T P a).2 ∧ AtLt (layA T P a).2 (P + T.hs)
  | .i _, P, a, h, hl => ⟨h, hl.mono (by omega)⟩
  | .v _, P, a, h, hl => ⟨h, hl.mono (by omega)⟩
  | .f s us, P, a, h, hl => by
    obtain ⟨h1, h2⟩ := slotsA_inj us (P + 1) (P + 1 + us.length) h (hl.mono (by omega))
    obtain ⟨h3, h4⟩ := laysA_inj us (P + 1 + us.length) h1 h2
    exact ⟨h3, h4.mono (by simp [Tm.hs]; omega)⟩
theorem laysA_inj : ∀ (us : List Tm) (P : Nat) {a : List Int}, AtInj a → AtLt a P → AtInj (laysA us P a).2 ∧ AtLt (laysA us P a).2 (P + hss us)
  | [], P, a, h, hl => ⟨h, hl.mono (by omega)⟩
  | u :: us, P, a, h, hl => by
    obtain ⟨h1, h2⟩ := layA_inj u P h hl
    obtain ⟨h3, h4⟩ := laysA_inj us (P + u.hs) h1 h2
    exact ⟨h3, h4.mono (by simp [hss]; omega)⟩
end
theorem putA_inj (l : List C) (T : Tm) {a : List Int} (h : AtInj a) (hl : AtLt a l.length) : AtInj (putA l T a).2.2 ∧ AtLt (putA l T a).2.2 (putA l T a).1.length := by
  cases T with
  | f s us =>
    obtain ⟨h1, h2⟩ := layA_inj (.f s us) l.length h hl
    exact ⟨h1, by simp only [putA, List.length_append, layA_len]; exact h2⟩
  | i n => exact ⟨h, hl.mono (by simp [putA])⟩
  | v n =>
    simp only [putA]
    split
    · obtain ⟨h1, h2⟩ := atInj_set h hl n.toNat
      exact ⟨h1, by simpa using h2⟩
    · exact ⟨atInj_ext h _, atLt_ext hl _⟩
/-- variables stand in free places -/
theorem atF_pre {l L : List C} {a : List Int} (h : AtOk l 0 a) (hp : Pre l L) : AtOk L 0 a := fun v => by
  rcases h v with h | ⟨p, h1, h2, h3⟩
  · exact .inl h
  · rcases h3 with h3 | h3
    · omega
    · exact .inr ⟨p, h1, Nat.lt_of_lt_of_le h2 hp.le, .inr ⟨Nat.lt_of_lt_of_le h2 hp.le, by rw [hp.sAt h2]; exact h3.kind, by rw [hp.sAt h2]; exact h3.own⟩⟩
theorem putA_free {l : List C} {T : Tm} (ho : T.ok = true) {a : List Int} (h : AtOk l 0 a) : AtOk (putA l T a).1 0 (putA l T a).2.2 := by
  cases T with
  | f s us =>
    have h2 : AtOk (l ++ (layA (.f s us) l.length a).1) 0 a := atF_pre h (Pre.append _ _)
    exact (lay_ok (.f s us) l.length a (seg_append _ _) ho h2 (Nat.zero_le _)).1
  | i n => exact atF_pre h (Pre.append _ _)
  | v n =>
    simp only [putA]
    split
    · have h2 : AtOk (l ++ [⟨1, emp, (l.length : Int)⟩]) 0 a := atF_pre h (Pre.append _ _)
      have hs : sAt (l ++ [(⟨1, emp, (l.length : Int)⟩ : C)]) l.length = ⟨1, emp, (l.length : Int)⟩ := sAt_get (by simp)
      exact atOk_set h2 ⟨by simp, by rw [hs], by rw [hs]⟩
    · exact atOk_ext h _
/-- a variable of a term -/
def Tm.has (T : Tm) (n : Int) : Prop := (⟨1, ⟨#[]⟩, n⟩ : C) ∈ T.flat
mutual
theorem sub_congr {S R : Int → Tm} : ∀ T : Tm, (∀ n, T.has n → S n = R n) → T.sub S = T.sub R
  | .v n, h => h n (by simp [Tm.has, Tm.flat])
  | .i n, _ => rfl
  | .f s us, h => by
    simp only [Tm.sub]
    rw [subs_congr us (fun n hn => h n (by simp only [Tm.has, Tm.flat, List.mem_cons]; exact .inr hn))]
theorem subs_congr {S R : Int → Tm} : ∀ us : List Tm, (∀ n, (⟨1, ⟨#[]⟩, n⟩ : C) ∈ flats us → S n = R n) → subs S us = subs R us
  | [], _ => rfl
  | u :: us, h => by
    simp only [subs]
    rw [sub_congr u (fun n hn => h n (by rw [flats_cons]; exact List.mem_append.2 (.inl hn))), subs_congr us (fun n hn => h n (by rw [flats_cons]; exact List.mem_append.2 (.inr hn)))]
end
mutual
theorem sub_sub (S R : Int → Tm) : ∀ T : Tm, (T.sub S).sub R = T.sub (fun n => (S n).sub R)
  | .v n => rfl
  | .i n => rfl
  | .f s us => by simp only [Tm.sub]; rw [subs_subs S R us]
theorem subs_subs (S R : Int → Tm) : ∀ us : List Tm, subs R (subs S us) = subs (fun n => (S n).sub R) us
  | [] => rfl
  | u :: us => by simp only [subs]; rw [sub_sub S R u, subs_subs S R us]
end
/-- what makes two terms alike, and whatever does comes of it -/
structure Mgu (A B : Tm) (S : Int → Tm) : Prop where
  uni : A.sub S = B.sub S
  most : ∀ R : Int → Tm, A.sub R = B.sub R → ∃ K : Int → Tm, ∀ n, A.has n ∨ B.has n → R n = (S n).sub K
/-- two terms stand in a heap, with their variables in common -/
structure Put2 (A B : Tm) (L : List C) (P Q : Nat) (b : List Int) : Prop where
  good : Good L
  ltP : P < L.length
  ltQ : Q < L.length
  denP : den L P = A.sub (stand L b)
  denQ : den L Q = B.sub (stand L b)
  inj : AtInj b
  free : AtOk L 0 b
  has : ∀ n, A.has n ∨ B.has n → 0 ≤ n ∧ 0 ≤ atA b n.toNat
theorem Put2.place {A B : Tm} {L : List C} {P Q : Nat} {b : List Int} (h : Put2 A B L P Q b) {n : Int} (hn : A.has n ∨ B.has n) : ∃ p : Nat, atA b n.toNat = (p : Int) ∧ Free1 L p ∧ stand L b n = .v p := by
  obtain ⟨h0, h1⟩ := h.has n hn
  rcases h.free n.toNat with h2 | ⟨p, h2, h3, h4⟩
  · omega
  · rcases h4 with h4 | h4
    · omega
    · refine ⟨p, h2, h4, ?_⟩
      unfold stand
      rw [h2, Int.toNat_natCast]
      exact h.good.den_free h4
open Classical in
/-- the variable of a place -/
noncomputable def invA (b : List Int) (x : Int) : Int := if h : ∃ n : Nat, atA b n = x then ((Classical.choose h : Nat) : Int) else 0
theorem invA_at {b : List Int} (h : AtInj b) {n : Nat} (hn : 0 ≤ atA b n) : invA b (atA b n) = (n : Int) := by
  unfold invA
  have hex : ∃ k : Nat, atA b k = atA b n := ⟨n, rfl⟩
  rw [dif_pos hex]
  have := h n _ hn (Classical.choose_spec hex).symm
  rw [← this]
/-- an assignment of the heap for whatever is put for the variables -/
noncomputable def modF (L : List C) (b : List Int) (R : Int → Tm) (p : Nat) : Tm := (den L p).sub (fun x => R (invA b x))
theorem Put2.mod {A B : Tm} {L : List C} {P Q : Nat} {b : List Int} (h : Put2 A B L P Q b) (R : Int → Tm) : Mod L (modF L b R) ∧ modF L b R P = A.sub R ∧ modF L b R Q = B.sub R ∧ ∀ n, A.has n ∨ B.has n → modF L b R (atA b n.toNat).toNat = R n := by
  have hv : ∀ n, A.has n ∨ B.has n → (stand L b n).sub (fun x => R (invA b x)) = R n := fun n hn => by
    obtain ⟨p, h1, h2, h3⟩ := h.place hn
    obtain ⟨h4, h5⟩ := h.has n hn
    rw [h3]
    show R (invA b p) = R n
    rw [← h1, invA_at h.inj h5]
    congr 1
    omega
  refine ⟨h.good.mod _, ?_, ?_, hv⟩
  · unfold modF
    rw [h.denP, sub_sub]
    exact sub_congr A (fun n hn => hv n (.inl hn))
  · unfold modF
    rw [h.denQ, sub_sub]
    exact sub_congr B (fun n hn => hv n (.inr hn))
/-- nothing comes of it: there is no unifier -/
theorem Put2.none {A B : Tm} {L : List C} {P Q : Nat} {b : List Int} (h : Put2 A B L P Q b) {tr : List Int} (ht : TrOk L tr) (hu : uniF L tr P Q = none) (R : Int → Tm) : A.sub R ≠ B.sub R := by
  intro he
  obtain ⟨m, h1, h2, _⟩ := h.mod R
  obtain ⟨L', TR, h3, _⟩ := uniF_mod h.good ht h.ltP h.ltQ m (by rw [h1, h2]; exact he)
  rw [hu] at h3
  cases h3
/-- THE LAW OF UNIFYING TWO TERMS: what comes of it tells a most general unifier -/
theorem Put2.mgu {A B : Tm} {L : List C} {P Q : Nat} {b : List Int} (h : Put2 A B L P Q b) {tr : List Int} {r : Int} (ok : OkH ⟨L, tr, r⟩) {L' : List C} {TR : List Int} (hu : uniF L tr P Q = some (L', TR)) :
    Mgu A B (fun n => den L' (atA b n.toNat).toNat) ∧ den L' P = A.sub (fun n => den L' (atA b n.toNat).toNat) ∧ den L' P = den L' Q := by
  have hz : uniZ L tr P Q = some (L', TR) := by
    unfold uniZ
    rw [if_pos ⟨⟨by omega, by have := h.ltP; omega⟩, ⟨by omega, by have := h.ltQ; omega⟩⟩]
    exact hu
  obtain ⟨ok', hlen, ds, hst⟩ := uni_ok ok (P : Int) (Q : Int)
  have hr : uRes L tr P Q = (L', TR) := by unfold uRes; rw [hz]; rfl
  rw [hr] at ok' hlen hst
  simp only at ok' hlen hst
  obtain ⟨⟨p, q, e1, e2, _, _, hpq⟩, _⟩ := uniZ_alike ok hz
  have e1' : p = P := by omega
  have e2' : q = Q := by omega
  subst e1' e2'
  have mL' : Mod L' (den L') := ⟨fun p ho => ok'.good.den_step ho, fun p k => ok'.good.den_num k, fun p k => ok'.good.den_top k⟩
  have mL := hst.mod ok'.tr mL'
  have hden : ∀ p, p < L.length → den L' p = (den L p).sub (fun n => den L' n.toNat) := mL.den h.good
  have hst2 : ∀ n, A.has n ∨ B.has n → (stand L b n).sub (fun n => den L' n.toNat) = den L' (atA b n.toNat).toNat := fun n hn => by
    obtain ⟨p, h1, h2, h3⟩ := h.place hn
    rw [h3, h1]
    rfl
  have hA : den L' p = A.sub (fun n => den L' (atA b n.toNat).toNat) := by
    rw [hden _ h.ltP, h.denP, sub_sub]
    exact sub_congr A (fun n hn => hst2 n (.inl hn))
  have hB : den L' q = B.sub (fun n => den L' (atA b n.toNat).toNat) := by
    rw [hden _ h.ltQ, h.denQ, sub_sub]
    exact sub_congr B (fun n hn => hst2 n (.inr hn))
  refine ⟨⟨by rw [← hA, ← hB]; exact hpq, fun R hR => ?_⟩, hA, hpq⟩
  obtain ⟨m, m1, m2, m3⟩ := h.mod R
  obtain ⟨L2, TR2, h3, m4⟩ := uniF_mod h.good ok.tr h.ltP h.ltQ m (by rw [m1, m2]; exact hR)
  rw [hu] at h3
  injection h3 with h3
  injection h3 with h3 h4
  subst h3 h4
  refine ⟨fun n => modF L b R n.toNat, fun n hn => ?_⟩
  obtain ⟨p', h1, h2, _⟩ := h.place hn
  rw [← m3 n hn]
  exact m4.den ok'.good _ (by rw [h1, Int.toNat_natCast, hlen]; exact h2.lt)
end Go.Proofs.Ytlndjooddkjnoaa

/- Two terms put into an empty heap. No program in sight. -/
namespace Go.Proofs.Ytlndjooddkjnoaa
open Go.RowKit

theorem good_nil8 : Good [] := ⟨rfl, fun _ => 0, fun p q hq => by rw [leads_past (by simp)] at hq; cases hq⟩
theorem okH_nil {r : Int} (h1 : 1 ≤ r) (h2 : r ≤ 4096) : OkH ⟨[], [], r⟩ := ⟨h1, h2, by simp; omega, good_nil8, ⟨by simp, by simp⟩⟩
theorem ok_has {T : Tm} (ho : T.ok = true) {n : Int} (h : T.has n) : 0 ≤ n ∧ n ≤ 999 := ok_var8 T ho n h
theorem putA_len8 (T : Tm) (l : List C) (a : List Int) : (putA l T a).1.length ≤ l.length + 2 * T.size := by
  cases T with
  | f s us => have := hs_size (.f s us); simp only [putA, List.length_append, layA_len]; omega
  | i n => simp [putA, Tm.size]
  | v n => simp only [putA]; split <;> simp [Tm.size]
theorem put2_ok {A B : Tm} (hA : A.ok = true) (hB : B.ok = true) (sA : A.size ≤ 200) (sB : B.size ≤ 200) :
    Put2 A B (putA (putA [] A []).1 B (putA [] A []).2.2).1 (putA [] A []).2.1 (putA (putA [] A []).1 B (putA [] A []).2.2).2.1 (putA (putA [] A []).1 B (putA [] A []).2.2).2.2 := by
  have l1 := putA_len8 A [] []
  simp only [List.length_nil] at l1
  have hat0 : AtOk ([] : List C) ([] : List C).length [] := (show AtL ([] : List C).length [] from atL_nil 0).ok
  have p1 := put_ok good_nil8 hA hat0 (by omega)
  have i1 := putA_inj [] A (a := []) (fun v u hv he => by simp [atA] at hv) (fun v => by simp [atA])
  have f1 := putA_free (l := []) hA (a := []) (by have := hat0; exact this)
  have v1 := fun n hn => putA_place [] A [] n hn
  generalize putA [] A [] = q1 at *
  obtain ⟨L1, P1, b1⟩ := q1
  simp only at *
  have l2 := putA_len8 B L1 b1
  have hat1 : AtOk L1 L1.length b1 := atOk_more f1
  have p2 := put_ok p1.good hB hat1 (by omega)
  have i2 := putA_inj L1 B i1.1 i1.2
  have f2 := putA_free hB f1
  have v2 := fun n hn => putA_place L1 B b1 n hn
  generalize putA L1 B b1 = q2 at *
  obtain ⟨L2, P2, b2⟩ := q2
  simp only at *
  refine ⟨p2.good, Nat.lt_of_lt_of_le p1.lt p2.pre.le, p2.lt, ?_, p2.den, i2.1, f2, fun n hn => ?_⟩
  · rw [p2.pre.den p1.good p2.good _ p1.lt, p1.den]
    refine sub_congr A (fun n hn => ?_)
    have h0 := v1 n hn
    have he := p2.ext n.toNat h0
    unfold stand
    rw [he]
    rcases f1 n.toNat with h1 | ⟨p, h1, h2, _⟩
    · omega
    · rw [h1, Int.toNat_natCast]
      exact (p2.pre.den p1.good p2.good _ h2).symm
  · rcases hn with hn | hn
    · refine ⟨(ok_has hA hn).1, ?_⟩
      have h0 := v1 n hn
      rw [p2.ext n.toNat h0]
      exact h0
    · exact ⟨(ok_has hB hn).1, v2 n hn⟩
end Go.Proofs.Ytlndjooddkjnoaa

/- Two most general unifiers make variants of a term. No program in sight. -/
namespace Go.Proofs.Ytlndjooddkjnoaa
open Go.RowKit

theorem number_turn {f : Int → Int} {t : List C} (hf : ∀ x y, x ∈ varsF t → y ∈ varsF t → f x = f y → x = y) : numberF (turnF f t) = numberF t := by
  have hv : varsF (turnF f t) = (varsF t).map f := varsF_turn (P := fun x => x ∈ varsF t) hf t (fun c hc hk => mem_vars.2 ⟨c, hc, hk, rfl⟩)
  show turnF (placeI (varsF (turnF f t))) (turnF f t) = turnF (placeI (varsF t)) t
  rw [hv, turn_turn]
  refine turn_congr fun c hc hk => ?_
  have hm : c.n ∈ varsF t := mem_vars.2 ⟨c, hc, hk, rfl⟩
  obtain ⟨i, hi⟩ := List.getElem?_of_mem hm
  have hn := varsF_nodup t
  have hn2 : ((varsF t).map f).Nodup := by
    have : ∀ l : List Int, l.Nodup → (∀ x ∈ l, x ∈ varsF t) → (l.map f).Nodup := by
      intro l
      induction l with
      | nil => intro _ _; simp
      | cons a l ih =>
        intro h1 h2
        rw [List.nodup_cons] at h1
        rw [List.map_cons, List.nodup_cons]
        refine ⟨fun hm => ?_, ih h1.2 (fun x hx => h2 x (by simp [hx]))⟩
        obtain ⟨b, hb, he⟩ := List.mem_map.1 hm
        have := hf b a (h2 b (by simp [hb])) (h2 a (by simp)) he
        subst this
        exact h1.1 hb
    exact this _ hn (fun x hx => hx)
  rw [place_get hn hi, place_get hn2 (by rw [List.getElem?_map, hi]; rfl)]
mutual
theorem sub_turn (f : Int → Int) : ∀ T : Tm, (T.sub (fun n => .v (f n))).flat = turnF f T.flat
  | .v n => by simp [Tm.sub, Tm.flat, turnF_map, turnC]
  | .i n => by simp [Tm.sub, Tm.flat, turnF_map, turnC]
  | .f s us => by
    have h := subs_turn f us
    have hl : (subs (fun n => .v (f n)) us).length = us.length := by rw [subs_map]; simp
    simp only [Tm.sub, Tm.flat, turnF_map, List.map_cons] at h ⊢
    rw [h, hl]
    rfl
theorem subs_turn (f : Int → Int) : ∀ us : List Tm, flats (subs (fun n => .v (f n)) us) = turnF f (flats us)
  | [] => rfl
  | u :: us => by
    rw [subs, flats_cons, flats_cons, sub_turn f u, subs_turn f us, turnF_map, turnF_map, turnF_map, List.map_append]
end
mutual
theorem flat_vn8 : ∀ (T : Tm) (c : C), c ∈ T.flat → c.kind = 1 → c = ⟨1, ⟨#[]⟩, c.n⟩
  | .v m, c, h, _ => by simp [Tm.flat] at h; subst h; rfl
  | .i m, c, h, hk => by simp [Tm.flat] at h; subst h; simp at hk
  | .f s us, c, h, hk => by
    simp only [Tm.flat, List.mem_cons] at h
    rcases h with rfl | h
    · simp at hk
    · exact flats_vn8 us c h hk
theorem flats_vn8 : ∀ (us : List Tm) (c : C), c ∈ flats us → c.kind = 1 → c = ⟨1, ⟨#[]⟩, c.n⟩
  | u :: us, c, h, hk => by
    rw [flats_cons] at h
    rcases List.mem_append.1 h with h | h
    · exact flat_vn8 u c h hk
    · exact flats_vn8 us c h hk
end
theorem has_vars {T : Tm} {n : Int} : T.has n ↔ n ∈ varsF T.flat := by
  rw [mem_vars]
  constructor
  · intro h
    exact ⟨_, h, rfl, rfl⟩
  · rintro ⟨c, h1, h2, rfl⟩
    unfold Tm.has
    rw [← flat_vn8 T c h1 h2]
    exact h1
mutual
theorem sub_inj {S R : Int → Tm} : ∀ T : Tm, T.sub S = T.sub R → ∀ n, T.has n → S n = R n
  | .v m, h, n, hn => by
    simp [Tm.has, Tm.flat] at hn
    subst hn
    exact h
  | .i m, _, n, hn => by simp [Tm.has, Tm.flat] at hn
  | .f s us, h, n, hn => by
    simp only [Tm.sub, Tm.f.injEq, true_and] at h
    exact subs_inj us h n (by simpa [Tm.has, Tm.flat] using hn)
theorem subs_inj {S R : Int → Tm} : ∀ us : List Tm, subs S us = subs R us → ∀ n, (⟨1, ⟨#[]⟩, n⟩ : C) ∈ flats us → S n = R n
  | u :: us, h, n, hn => by
    simp only [subs, List.cons.injEq] at h
    rw [flats_cons] at hn
    rcases List.mem_append.1 hn with hn | hn
    · exact sub_inj u h.1 n hn
    · exact subs_inj us h.2 n hn
end
mutual
theorem sub_v : ∀ T : Tm, T.sub Tm.v = T
  | .v n => rfl
  | .i n => rfl
  | .f s us => by simp only [Tm.sub]; rw [subs_v us]
theorem subs_v : ∀ us : List Tm, subs Tm.v us = us
  | [] => rfl
  | u :: us => by simp only [subs]; rw [sub_v u, subs_v us]
end
/-- two terms that are made of each other are variants -/
theorem variants {T U : Tm} {K J : Int → Tm} (h1 : T.sub K = U) (h2 : U.sub J = T) : numberF T.flat = numberF U.flat ∧ T.size = U.size := by
  have h3 : T.sub (fun n => (K n).sub J) = T.sub Tm.v := by rw [← sub_sub, h1, h2, sub_v]
  have h4 := sub_inj T h3
  have h5 : ∀ n, T.has n → ∃ m, K n = .v m ∧ J m = .v n := fun n hn => by
    have := h4 n hn
    cases hk : K n with
    | v m => rw [hk] at this; exact ⟨m, rfl, this⟩
    | i m => rw [hk] at this; cases this
    | f s us => rw [hk] at this; cases this
  obtain ⟨f, hf⟩ : ∃ f : Int → Int, ∀ n, T.has n → K n = .v (f n) ∧ J (f n) = .v n := by
    refine ⟨fun n => match K n with | .v m => m | _ => 0, fun n hn => ?_⟩
    obtain ⟨m, e1, e2⟩ := h5 n hn
    simp only [e1]
    exact ⟨trivial, e2⟩
  have hU : U.flat = turnF f T.flat := by
    rw [← h1, ← sub_turn f T]
    exact congrArg Tm.flat (sub_congr T (fun n hn => (hf n hn).1))
  refine ⟨?_, ?_⟩
  · rw [hU]
    refine (number_turn fun x y hx hy he => ?_).symm
    have e1 := (hf x (has_vars.2 hx)).2
    have e2 := (hf y (has_vars.2 hy)).2
    rw [he, e2] at e1
    injection e1 with e1
    exact e1.symm
  · rw [← flat_size, ← flat_size, hU, turn_len]
theorem Mgu.variant {A B : Tm} {S R : Int → Tm} (h : Mgu A B S) (h' : Mgu A B R) : numberF (A.sub S).flat = numberF (A.sub R).flat ∧ (A.sub S).size = (A.sub R).size := by
  obtain ⟨K, hK⟩ := h.most R h'.uni
  obtain ⟨J, hJ⟩ := h'.most S h.uni
  refine variants (K := K) (J := J) ?_ ?_
  · rw [sub_sub]
    exact (sub_congr A (fun n hn => hK n (.inl hn))).symm
  · rw [sub_sub]
    exact (sub_congr A (fun n hn => hJ n (.inl hn))).symm
end Go.Proofs.Ytlndjooddkjnoaa

/- The terms that begin at the places of a row of terms' cells. No program in sight. -/
namespace Go.Proofs.Ytlndjooddkjnoaa
open Go.RowKit

/-- the term that begins at a place -/
def subT : List Tm → Nat → Option Tm
  | [], _ => none
  | t :: _, 0 => some t
  | .f _ us :: ts, i + 1 => subT (us ++ ts) i
  | .v _ :: ts, i + 1 => subT ts i
  | .i _ :: ts, i + 1 => subT ts i
mutual
theorem subT_pass : ∀ (t : Tm) (ts : List Tm) (j : Nat), subT (t :: ts) (t.size + j) = subT ts j
  | .v n, ts, j => by rw [show (Tm.v n).size + j = j + 1 by simp [Tm.size]; omega]; rfl
  | .i n, ts, j => by rw [show (Tm.i n).size + j = j + 1 by simp [Tm.size]; omega]; rfl
  | .f s us, ts, j => by
    rw [show (Tm.f s us).size + j = (sizes us + j) + 1 by simp [Tm.size]; omega]
    show subT (us ++ ts) (sizes us + j) = subT ts j
    exact subTs_pass us ts j
theorem subTs_pass : ∀ (us ts : List Tm) (j : Nat), subT (us ++ ts) (sizes us + j) = subT ts j
  | [], ts, j => by simp [sizes]
  | u :: us, ts, j => by
    rw [List.cons_append, sizes, Nat.add_assoc, subT_pass u (us ++ ts) (sizes us + j)]
    exact subTs_pass us ts j
end
theorem flats_app9 : ∀ a b : List Tm, flats (a ++ b) = flats a ++ flats b
  | [], b => rfl
  | t :: a, b => by rw [List.cons_append, flats_cons, flats_cons, flats_app9 a b, List.append_assoc]
theorem sizes_app9 : ∀ a b : List Tm, sizes (a ++ b) = sizes a + sizes b
  | [], b => by simp [sizes]
  | t :: a, b => by rw [List.cons_append]; simp only [sizes]; rw [sizes_app9 a b]; omega
theorem subT_drop : ∀ (i : Nat) (ts : List Tm) (u : Tm), subT ts i = some u → ∃ r, (flats ts).drop i = u.flat ++ r
  | 0, [], u, h => by simp [subT] at h
  | 0, t :: ts, u, h => by
    simp [subT] at h
    subst h
    exact ⟨flats ts, by rw [flats_cons]; rfl⟩
  | i + 1, [], u, h => by simp [subT] at h
  | i + 1, .v n :: ts, u, h => by
    obtain ⟨r, hr⟩ := subT_drop i ts u h
    exact ⟨r, by rw [flats_cons]; simpa [Tm.flat] using hr⟩
  | i + 1, .i n :: ts, u, h => by
    obtain ⟨r, hr⟩ := subT_drop i ts u h
    exact ⟨r, by rw [flats_cons]; simpa [Tm.flat] using hr⟩
  | i + 1, .f s us :: ts, u, h => by
    obtain ⟨r, hr⟩ := subT_drop i (us ++ ts) u h
    exact ⟨r, by rw [flats_cons]; rw [flats_app9] at hr; simpa [Tm.flat] using hr⟩
theorem subT_some : ∀ (i : Nat) (ts : List Tm), i < sizes ts → ∃ u, subT ts i = some u
  | i, [], h => by simp [sizes] at h
  | 0, t :: ts, _ => ⟨t, rfl⟩
  | i + 1, .v n :: ts, h => subT_some i ts (by simp [sizes, Tm.size] at h; omega)
  | i + 1, .i n :: ts, h => subT_some i ts (by simp [sizes, Tm.size] at h; omega)
  | i + 1, .f s us :: ts, h => subT_some i (us ++ ts) (by rw [sizes_app9]; simp [sizes, Tm.size] at h; omega)
theorem flats_size9 (ts : List Tm) : (flats ts).length = sizes ts := flats_size ts
theorem subT_lt {i : Nat} {ts : List Tm} {u : Tm} (h : subT ts i = some u) : i + u.size ≤ sizes ts := by
  obtain ⟨r, hr⟩ := subT_drop i ts u h
  have h1 := congrArg List.length hr
  rw [List.length_drop, List.length_append, flat_size, flats_size9] at h1
  have := u.size_pos
  omega
theorem flat_c0 (u : Tm) : ∃ r, u.flat = u.c0 :: r := by
  cases u with
  | v n => exact ⟨[], rfl⟩
  | i n => exact ⟨[], rfl⟩
  | f s us => exact ⟨flats us, rfl⟩
theorem subT_cell {i : Nat} {ts : List Tm} {u : Tm} (h : subT ts i = some u) : (flats ts)[i]? = some u.c0 := by
  obtain ⟨r, hr⟩ := subT_drop i ts u h
  obtain ⟨r2, hr2⟩ := flat_c0 u
  have : ((flats ts).drop i)[0]? = some u.c0 := by rw [hr, hr2]; rfl
  rw [List.getElem?_drop] at this
  simpa using this
/-- the place of an argument -/
def argP (i : Nat) (us : List Tm) (k : Nat) : Nat := i + 1 + sizes (us.take k)
theorem subT_arg0 (us ts : List Tm) {k : Nat} (hk : k < us.length) : subT (us ++ ts) (sizes (us.take k)) = us[k]? := by
  have h1 := subTs_pass (us.take k) (us.drop k ++ ts) 0
  rw [← List.append_assoc, List.take_append_drop, Nat.add_zero] at h1
  rw [h1, List.getElem?_eq_getElem hk, List.drop_eq_getElem_cons hk]
  rfl
theorem subT_arg : ∀ (i : Nat) (ts : List Tm) {s : ByteArray} {us : List Tm} {k : Nat}, subT ts i = some (.f s us) → k < us.length → subT ts (argP i us k) = us[k]?
  | _, [], s, us, k, h, _ => by simp [subT] at h
  | 0, t :: ts, s, us, k, h, hk => by
    simp [subT] at h
    subst h
    rw [show argP 0 us k = sizes (us.take k) + 1 by unfold argP; omega]
    exact subT_arg0 us ts hk
  | i + 1, .v n :: ts, s, us, k, h, hk => by
    rw [show argP (i + 1) us k = argP i us k + 1 by unfold argP; omega]
    exact subT_arg i ts h hk
  | i + 1, .i n :: ts, s, us, k, h, hk => by
    rw [show argP (i + 1) us k = argP i us k + 1 by unfold argP; omega]
    exact subT_arg i ts h hk
  | i + 1, .f s' us' :: ts, s, us, k, h, hk => by
    rw [show argP (i + 1) us k = argP i us k + 1 by unfold argP; omega]
    exact subT_arg i (us' ++ ts) h hk
theorem argP_lt {i : Nat} {ts : List Tm} {s : ByteArray} {us : List Tm} {k : Nat} (h : subT ts i = some (.f s us)) (hk : k < us.length) : i < argP i us k ∧ argP i us k < sizes ts := by
  have h1 := subT_arg i ts h hk
  rw [List.getElem?_eq_getElem hk] at h1
  have h2 := subT_lt h1
  have := us[k].size_pos
  exact ⟨by unfold argP; omega, by omega⟩
theorem arg_size {us : List Tm} {u : Tm} {R : Int → Tm} {s : ByteArray} (h : u ∈ us) : (u.sub R).size < ((Tm.f s us).sub R).size := by
  have h2 : u.sub R ∈ subs R us := by rw [subs_map]; exact List.mem_map.2 ⟨u, h, rfl⟩
  have := size_mem8 h2
  simp only [Tm.sub, Tm.size]
  omega
end Go.Proofs.Ytlndjooddkjnoaa

/- Classes of places: closed ones without a clash that go nowhere round tell a most general unifier. No program in sight. -/
namespace Go.Proofs.Ytlndjooddkjnoaa
open Go.RowKit

/-- two places that must be of one class -/
def Must (ts : List Tm) (cls : Nat → Nat) (x y : Nat) : Prop :=
  (∃ n, subT ts x = some (.v n) ∧ subT ts y = some (.v n)) ∨
  ∃ a b s us vs k, cls a = cls b ∧ subT ts a = some (.f s us) ∧ subT ts b = some (.f s vs) ∧ us.length = vs.length ∧ k < us.length ∧ x = argP a us k ∧ y = argP b vs k
def Closed (ts : List Tm) (cls : Nat → Nat) : Prop := ∀ x y, Must ts cls x y → cls x = cls y
/-- terms of one class are alike, whatever makes the two terms alike -/
def Resp (ts : List Tm) (cls : Nat → Nat) (R : Int → Tm) : Prop := ∀ x y u v, subT ts x = some u → subT ts y = some v → cls x = cls y → u.sub R = v.sub R
theorem Resp.must {ts : List Tm} {cls : Nat → Nat} {R : Int → Tm} (h : Resp ts cls R) {x y : Nat} {u v : Tm} (hm : Must ts cls x y) (hu : subT ts x = some u) (hv : subT ts y = some v) : u.sub R = v.sub R := by
  rcases hm with ⟨n, h1, h2⟩ | ⟨a, b, s, us, vs, k, h1, h2, h3, h4, h5, rfl, rfl⟩
  · rw [hu] at h1; rw [hv] at h2
    injection h1 with h1
    injection h2 with h2
    rw [h1, h2]
  · have e1 := h a b _ _ h2 h3 h1
    have a1 := subT_arg a ts h2 h5
    have a2 := subT_arg b ts h3 (show k < vs.length by omega)
    rw [hu] at a1; rw [hv] at a2
    simp only [Tm.sub, Tm.f.injEq, true_and] at e1
    rw [subs_map, subs_map] at e1
    have e2 := congrArg (fun q : List Tm => q[k]?) e1
    simp only [List.getElem?_map, ← a1, ← a2, Option.map_some] at e2
    injection e2
/-- two classes made one -/
theorem Resp.merge {ts : List Tm} {cls : Nat → Nat} {R : Int → Tm} (h : Resp ts cls R) {x y : Nat} {u v : Tm} (hu : subT ts x = some u) (hv : subT ts y = some v) (he : u.sub R = v.sub R) : Resp ts (fun i => if cls i = cls x then cls y else cls i) R := by
  intro i j p q hp hq hc
  simp only at hc
  have hx : ∀ i p, subT ts i = some p → cls i = cls x → p.sub R = v.sub R := fun i p hp hi => (h i x p u hp hu hi).trans he
  by_cases h1 : cls i = cls x
  · rw [if_pos h1] at hc
    rw [hx i p hp h1]
    by_cases h2 : cls j = cls x
    · rw [hx j q hq h2]
    · rw [if_neg h2] at hc
      exact h y j v q hv hq hc
  · rw [if_neg h1] at hc
    by_cases h2 : cls j = cls x
    · rw [if_pos h2] at hc
      rw [hx j q hq h2]
      exact h i y p v hp hv hc
    · rw [if_neg h2] at hc
      exact h i j p q hp hq hc
def Tm.isV : Tm → Bool
  | .v _ => true
  | _ => false
/-- a clash in a class -/
def Clash (ts : List Tm) (cls : Nat → Nat) : Prop := ∃ x y u v, subT ts x = some u ∧ subT ts y = some v ∧ cls x = cls y ∧ u.isV = false ∧ v.isV = false ∧ u.c0 ≠ v.c0
theorem Resp.clash {ts : List Tm} {cls : Nat → Nat} {R : Int → Tm} (h : Resp ts cls R) : ¬ Clash ts cls := by
  rintro ⟨x, y, u, v, h1, h2, h3, h4, h5, h6⟩
  have := h x y u v h1 h2 h3
  cases u with
  | v n => cases h4
  | i n =>
    cases v with
    | v m => cases h5
    | i m => simp only [Tm.sub] at this; injection this with this; exact h6 (by rw [this])
    | f s us => simp only [Tm.sub] at this; cases this
  | f s us =>
    cases v with
    | v m => cases h5
    | i m => simp only [Tm.sub] at this; cases this
    | f s' vs =>
      simp only [Tm.sub, Tm.f.injEq] at this
      have hl := congrArg List.length this.2
      rw [subs_map, subs_map, List.length_map, List.length_map] at hl
      exact h6 (by simp only [Tm.c0]; rw [this.1, hl])
/-- what a class does: one of its places that is no variable -/
structure Does (ts : List Tm) (cls : Nat → Nat) (doe : Nat → Option Nat) : Prop where
  some_ : ∀ i j, doe i = some j → cls j = cls i ∧ ∃ u, subT ts j = some u ∧ u.isV = false
  none_ : ∀ i, doe i = none → ∀ j u, subT ts j = some u → cls j = cls i → u.isV = true
  same : ∀ i j, cls i = cls j → doe i = doe j
/-- a set of classes each of which has a part in the set: then nothing makes the terms alike -/
def Round8 (ts : List Tm) (cls : Nat → Nat) (doe : Nat → Option Nat) : Prop := ∃ U : Nat → Prop, (∃ i, i < sizes ts ∧ U i) ∧ ∀ i, i < sizes ts → U i → ∃ j s us k, doe i = some j ∧ subT ts j = some (.f s us) ∧ k < us.length ∧ U (argP j us k)
theorem Resp.round {ts : List Tm} {cls : Nat → Nat} {doe : Nat → Option Nat} {R : Int → Tm} (h : Resp ts cls R) (hd : Does ts cls doe) : ¬ Round8 ts cls doe := by
  rintro ⟨U, ⟨i0, hi0, hU0⟩, hU⟩
  have : ∀ (n i : Nat) (u : Tm), i < sizes ts → U i → subT ts i = some u → (u.sub R).size < n → False := by
    intro n
    induction n with
    | zero => intro i u _ _ _ hn; omega
    | succ n ih =>
      intro i u hi hUi hu hn
      obtain ⟨j, s, us, k, h1, h2, h3, h4⟩ := hU i hi hUi
      obtain ⟨h5, _⟩ := hd.some_ i j h1
      have e := h j i _ u h2 hu h5
      have a1 := subT_arg j ts h2 h3
      rw [List.getElem?_eq_getElem h3] at a1
      have hs := arg_size (R := R) (s := s) (List.getElem_mem h3)
      rw [e] at hs
      exact ih _ _ (argP_lt h2 h3).2 h4 a1 (by omega)
  obtain ⟨u, hu⟩ := subT_some i0 ts hi0
  exact this _ i0 u hi0 hU0 hu (Nat.lt_succ_self _)
/-- the term of a class -/
def tmN (ts : List Tm) (doe : Nat → Option Nat) (lea : Nat → Int) : Nat → Nat → Tm
  | 0, _ => .v 0
  | n + 1, i => match doe i with
    | none => .v (lea i)
    | some j => match subT ts j with
      | some (.f s us) => .f s ((List.range us.length).map fun k => tmN ts doe lea n (argP j us k))
      | some (.i m) => .i m
      | _ => .v 0
structure Fine (ts : List Tm) (cls : Nat → Nat) (doe : Nat → Option Nat) (lea : Nat → Int) (rk : Nat → Nat) : Prop where
  does : Does ts cls doe
  clash : ¬ Clash ts cls
  closed : Closed ts cls
  rank : ∀ i j s us k, i < sizes ts → doe i = some j → subT ts j = some (.f s us) → k < us.length → rk (cls (argP j us k)) < rk (cls i)
  least : ∀ i, i < sizes ts → doe i = none → ∃ z, cls z = cls i ∧ subT ts z = some (.v (lea i))
  leas : ∀ i j, cls i = cls j → lea i = lea j
section
variable {ts : List Tm} {cls : Nat → Nat} {doe : Nat → Option Nat} {lea : Nat → Int} {rk : Nat → Nat}
theorem Fine.tm_eq (h : Fine ts cls doe lea rk) : ∀ (n m i : Nat), i < sizes ts → rk (cls i) < n → rk (cls i) < m → tmN ts doe lea n i = tmN ts doe lea m i
  | 0, _, i, _, h1, _ => by omega
  | _ + 1, 0, i, _, _, h2 => by omega
  | n + 1, m + 1, i, hi, h1, h2 => by
    unfold tmN
    cases hd : doe i with
    | none => rfl
    | some j =>
      simp only
      cases hs : subT ts j with
      | none => rfl
      | some u =>
        cases u with
        | v x => rfl
        | i x => rfl
        | f s us =>
          simp only
          refine congrArg _ (List.map_congr_left fun k hk => ?_)
          have hk := List.mem_range.1 hk
          have hr := h.rank i j s us k hi hd hs hk
          exact h.tm_eq n m _ (argP_lt hs hk).2 (by omega) (by omega)
/-- the term of a place's class -/
def tmC (ts : List Tm) (cls : Nat → Nat) (doe : Nat → Option Nat) (lea : Nat → Int) (rk : Nat → Nat) (i : Nat) : Tm := tmN ts doe lea (rk (cls i) + 1) i
theorem Fine.tm_at (h : Fine ts cls doe lea rk) {n i : Nat} (hi : i < sizes ts) (hn : rk (cls i) < n) : tmN ts doe lea n i = tmC ts cls doe lea rk i := h.tm_eq n _ i hi hn (Nat.lt_succ_self _)
theorem Fine.tm_none (h : Fine ts cls doe lea rk) {i : Nat} (hd : doe i = none) : tmC ts cls doe lea rk i = .v (lea i) := by
  unfold tmC tmN
  rw [hd]
theorem Fine.tm_num (h : Fine ts cls doe lea rk) {i j : Nat} {m : Int} (hd : doe i = some j) (hs : subT ts j = some (.i m)) : tmC ts cls doe lea rk i = .i m := by
  unfold tmC tmN
  rw [hd]
  simp only [hs]
theorem Fine.tm_fun (h : Fine ts cls doe lea rk) {i j : Nat} {s : ByteArray} {us : List Tm} (hi : i < sizes ts) (hd : doe i = some j) (hs : subT ts j = some (.f s us)) :
    tmC ts cls doe lea rk i = .f s ((List.range us.length).map fun k => tmC ts cls doe lea rk (argP j us k)) := by
  conv => lhs; unfold tmC tmN
  rw [hd]
  simp only [hs]
  refine congrArg _ (List.map_congr_left fun k hk => ?_)
  have hk := List.mem_range.1 hk
  exact h.tm_at (argP_lt hs hk).2 (h.rank i j s us k hi hd hs hk)
theorem Fine.tm_same (h : Fine ts cls doe lea rk) {i j : Nat} (hi : i < sizes ts) (hj : j < sizes ts) (hc : cls i = cls j) : tmC ts cls doe lea rk i = tmC ts cls doe lea rk j := by
  have hd := h.does.same i j hc
  cases hdi : doe i with
  | none => rw [h.tm_none hdi, h.tm_none (hd ▸ hdi), h.leas i j hc]
  | some k =>
    obtain ⟨_, u, hu, hv⟩ := h.does.some_ i k hdi
    cases u with
    | v x => cases hv
    | i x => rw [h.tm_num hdi hu, h.tm_num (hd ▸ hdi) hu]
    | f s us => rw [h.tm_fun hi hdi hu, h.tm_fun hj (hd ▸ hdi) hu]
/-- what does in a class begins like all that are no variables -/
theorem Fine.begins (h : Fine ts cls doe lea rk) {x : Nat} {u : Tm} (hx : subT ts x = some u) (hv : u.isV = false) : ∃ j w, doe x = some j ∧ subT ts j = some w ∧ w.isV = false ∧ cls j = cls x ∧ w.c0 = u.c0 := by
  cases hd : doe x with
  | none =>
    have := h.does.none_ x hd x u hx rfl
    rw [hv] at this; cases this
  | some j =>
    obtain ⟨h1, w, h2, h3⟩ := h.does.some_ x j hd
    refine ⟨j, w, rfl, h2, h3, h1, ?_⟩
    have := h.clash
    by_cases e : w.c0 = u.c0
    · exact e
    · exact absurd ⟨j, x, w, u, h2, hx, h1, h3, hv, e⟩ this
/-- with the terms of their classes put for variables each place's term is its class's -/
theorem Fine.sub (h : Fine ts cls doe lea rk) {S : Int → Tm} (hS : ∀ n x, subT ts x = some (.v n) → S n = tmC ts cls doe lea rk x) :
    ∀ (N : Nat) (u : Tm) (x : Nat), u.size ≤ N → subT ts x = some u → u.sub S = tmC ts cls doe lea rk x := by
  intro N
  induction N with
  | zero => intro u x hu; have := u.size_pos; omega
  | succ N ih =>
    intro u x hN hx
    have hxl : x < sizes ts := by have := subT_lt hx; have := u.size_pos; omega
    cases u with
    | v n => exact hS n x hx
    | i m =>
      obtain ⟨j, w, h1, h2, h3, h4, h5⟩ := h.begins hx rfl
      cases w with
      | v n => cases h3
      | i m' =>
        simp only [Tm.c0, C.mk.injEq, true_and] at h5
        rw [h.tm_num h1 h2, h5]
        rfl
      | f s us => simp [Tm.c0] at h5
    | f s us =>
      obtain ⟨j, w, h1, h2, h3, h4, h5⟩ := h.begins hx rfl
      cases w with
      | v n => cases h3
      | i m' => simp [Tm.c0] at h5
      | f s' vs =>
        simp only [Tm.c0, C.mk.injEq, true_and] at h5
        obtain ⟨rfl, hl⟩ := h5
        have hl2 : vs.length = us.length := by omega
        rw [h.tm_fun hxl h1 h2, Tm.sub, subs_map]
        congr 1
        apply List.ext_getElem?
        intro k
        rw [List.getElem?_map, List.getElem?_map]
        by_cases hk : k < us.length
        · rw [List.getElem?_eq_getElem hk, List.getElem?_range (by omega)]
          simp only [Option.map_some]
          have a1 := subT_arg x ts hx hk
          rw [List.getElem?_eq_getElem hk] at a1
          have hsz : us[k].size ≤ N := by
            have := size_mem8 (List.getElem_mem hk)
            simp only [Tm.size] at hN
            omega
          rw [ih _ _ hsz a1]
          congr 1
          refine h.tm_same (argP_lt hx hk).2 (argP_lt h2 (by omega)).2 ?_
          exact h.closed _ _ (.inr ⟨x, j, s', us, vs, k, h4.symm, hx, h2, hl2.symm, hk, rfl, rfl⟩)
        · rw [List.getElem?_eq_none (by omega), List.getElem?_eq_none (by simp; omega)]
          rfl
/-- whatever makes the terms alike comes of the classes' terms -/
theorem Fine.most (h : Fine ts cls doe lea rk) {R : Int → Tm} (hR : Resp ts cls R) : ∀ (n x : Nat) (u : Tm), rk (cls x) < n → subT ts x = some u → u.sub R = (tmC ts cls doe lea rk x).sub R := by
  intro n
  induction n with
  | zero => intro x u hn; omega
  | succ n ih =>
    intro x u hn hx
    have hxl : x < sizes ts := by have := subT_lt hx; have := u.size_pos; omega
    cases hd : doe x with
    | none =>
      obtain ⟨z, h1, h2⟩ := h.least x hxl hd
      rw [h.tm_none hd]
      exact hR x z u _ hx h2 h1.symm
    | some j =>
      obtain ⟨h1, w, h2, h3⟩ := h.does.some_ x j hd
      have e := hR x j u w hx h2 h1.symm
      rw [e]
      cases w with
      | v m => cases h3
      | i m => rw [h.tm_num hd h2]
      | f s us =>
        rw [h.tm_fun hxl hd h2]
        simp only [Tm.sub, subs_map, List.map_map]
        congr 1
        apply List.ext_getElem?
        intro k
        rw [List.getElem?_map, List.getElem?_map]
        by_cases hk : k < us.length
        · rw [List.getElem?_eq_getElem hk, List.getElem?_range hk]
          simp only [Option.map_some, Function.comp]
          have a1 := subT_arg j ts h2 hk
          rw [List.getElem?_eq_getElem hk] at a1
          congr 1
          exact ih _ _ (by have := h.rank x j s us k hxl hd h2 hk; omega) a1
        · rw [List.getElem?_eq_none (by omega), List.getElem?_eq_none (by simp; omega)]
          rfl
end
/-- THE LAW OF CLASSES: those of two terms tell a most general unifier -/
theorem classes_mgu {A B : Tm} {cls : Nat → Nat} {doe : Nat → Option Nat} {lea : Nat → Int} {rk : Nat → Nat} (h : Fine [A, B] cls doe lea rk) (h0 : cls 0 = cls A.size) (hR : ∀ R, A.sub R = B.sub R → Resp [A, B] cls R) {S : Int → Tm} (hS : ∀ n x, subT [A, B] x = some (.v n) → S n = tmC [A, B] cls doe lea rk x)
    (hv : ∀ n, A.has n ∨ B.has n → ∃ x, subT [A, B] x = some (.v n)) : Mgu A B S := by
  have hB : subT [A, B] A.size = some B := by have := subT_pass A [B] 0; rw [Nat.add_zero] at this; exact this
  have l0 := subT_lt (show subT [A, B] 0 = some A from rfl)
  have l1 := subT_lt hB
  have := A.size_pos
  have := B.size_pos
  refine ⟨?_, fun R hu => ⟨R, fun n hn => ?_⟩⟩
  · rw [h.sub hS _ A 0 (Nat.le_refl _) rfl, h.sub hS _ B A.size (Nat.le_refl _) hB]
    exact h.tm_same (by omega) (by omega) h0
  · obtain ⟨x, hx⟩ := hv n hn
    rw [hS n x hx]
    exact h.most (hR R hu) _ x _ (Nat.lt_succ_self _) hx
end Go.Proofs.Ytlndjooddkjnoaa
