/- Texts of this proof that belong together: words of memory, plain laws, walks. -/
import Derived.Test.YtgipiplklaeplaaDoorA20
set_option linter.unusedVariables false
set_option linter.unusedSimpArgs false
namespace Go.Proofs.YtgipiplklaeplaaDoor
open Go.RowKit
/-- places that were there keep their terms -/
def Agr (n : Nat) (θ' θ : Nat → Tm) : Prop := ∀ p, p < n → θ' p = θ p
theorem Agr.refl (n : Nat) (θ : Nat → Tm) : Agr n θ θ := fun _ _ => rfl
theorem Agr.trans {n k : Nat} {a b c : Nat → Tm} (h : Agr k c b) (h' : Agr n b a) (hn : n ≤ k) : Agr n c a := fun p hp => (h p (by omega)).trans (h' p hp)
/-- what a deed leaves as it was -/
structure KpM (m m' : Mc) : Prop where
  mok : McOk m'
  regs : m'.regs = m.regs
  goals : m'.goals = m.goals
  r : m'.r = m.r
  le : m.l.length ≤ m'.l.length
  hst : ∃ d, Hst m.l m.tr m'.l m'.tr d
theorem McOk.grow {m m' : Mc} (h : McOk m) (hk : OkH ⟨m'.l, m'.tr, m'.r⟩) (hr : m'.regs = m.regs) (hl : m.l.length ≤ m'.l.length) (hn : 0 ≤ m'.next ∧ m'.next ≤ (m'.l.length : Int)) : McOk m' :=
  ⟨hk, fun x hx => by have := h.pl x (by rw [← hr]; exact hx); omega, hn⟩
theorem unify_mod {l : List C} {tr : List Int} {r : Int} (ok : OkH ⟨l, tr, r⟩) {a b : Nat} (ha : a < l.length) (hb : b < l.length) :
    match uniZ l tr a b with
    | some u => OkH ⟨u.1, u.2, r⟩ ∧ u.1.length = l.length ∧ (∃ d, Hst l tr u.1 u.2 d) ∧ (∀ θ, Mod l θ → θ a = θ b → Mod u.1 θ) ∧ (∀ θ, Mod u.1 θ → Mod l θ ∧ θ a = θ b)
    | none => ∀ θ, Mod l θ → θ a ≠ θ b := by
  have hz : uniZ l tr a b = uniF l tr a b := by
    unfold uniZ
    rw [if_pos ⟨⟨by omega, by omega⟩, ⟨by omega, by omega⟩⟩]
    rfl
  cases hu : uniZ l tr a b with
  | none =>
    intro θ m he
    obtain ⟨L, T, h1, _⟩ := uniF_mod ok.good ok.tr ha hb m he
    rw [hz, h1] at hu
    cases hu
  | some u =>
    obtain ⟨L, T⟩ := u
    have hok := uni_ok ok (a : Int) (b : Int)
    have hr : uRes l tr a b = (L, T) := by unfold uRes; rw [hu]; rfl
    rw [hr] at hok
    obtain ⟨ok', hlen, d, hst⟩ := hok
    simp only at ok' hlen hst ⊢
    obtain ⟨⟨p, q, e1, e2, _, _, hpq⟩, _⟩ := uniZ_alike ok hu
    have e1' : p = a := by omega
    have e2' : q = b := by omega
    subst e1' e2'
    refine ⟨ok', hlen, ⟨d, hst⟩, fun θ m he => ?_, fun θ m => ⟨hst.mod ok'.tr m, ?_⟩⟩
    · obtain ⟨L2, T2, h1, h2⟩ := uniF_mod ok.good ok.tr ha hb m he
      rw [hz, h1] at hu
      injection hu with hu
      injection hu with hu1 hu2
      rw [← hu1]
      exact h2
    · rw [m.den ok'.good p (by simp only; omega), m.den ok'.good q (by simp only; omega), hpq]
theorem unify_core {m : Mc} (h : McOk m) {a b : Int} (ha : 0 ≤ a ∧ a < (m.l.length : Int)) (hb : 0 ≤ b ∧ b < (m.l.length : Int)) :
    match m.unify a b with
    | .ok m' => KpM m m' ∧ m'.next = m.next ∧ m'.l.length = m.l.length ∧ (∀ θ, Mod m.l θ → θ a.toNat = θ b.toNat → Mod m'.l θ) ∧ (∀ θ, Mod m'.l θ → Mod m.l θ ∧ θ a.toNat = θ b.toNat)
    | .err e => e = 3 ∧ ∀ θ, Mod m.l θ → θ a.toNat ≠ θ b.toNat := by
  have hu := unify_mod h.ok (a := a.toNat) (b := b.toNat) (by omega) (by omega)
  rw [Int.toNat_of_nonneg ha.1, Int.toNat_of_nonneg hb.1] at hu
  unfold Mc.unify
  cases hz : uniZ m.l m.tr a b with
  | none => rw [hz] at hu; exact ⟨rfl, hu⟩
  | some u =>
    rw [hz] at hu
    obtain ⟨h1, h2, h3, h4, h5⟩ := hu
    have hnx := h.nx
    exact ⟨⟨h.grow h1 rfl (by simp only; omega) (by simp only; omega), rfl, rfl, rfl, by simp only; omega, h3⟩, rfl, h2, h4, h5⟩
theorem bindTo {l x L : List C} {tr : List Int} {r : Int} (ok : OkH ⟨l, tr, r⟩) (hL : L = l ++ x) (hg : Good L) (hx : 0 < x.length) (hfit : (L.length : Int) ≤ r) {p : Nat} (hf : Free1 l p)
    (hn : ¬ Path L l.length p) : OkH ⟨bnd L p l.length, tr ++ [(p : Int)], r⟩ ∧ (∃ d, Hst l tr (bnd L p l.length) (tr ++ [(p : Int)]) d) ∧ ∀ θ, Mod (bnd L p l.length) θ ↔ Mod L θ ∧ θ p = θ l.length := by
  have hp : Pre l L := by rw [hL]; exact Pre.append _ _
  have hlen : L.length = l.length + x.length := by rw [hL, List.length_append]
  have hfL := free_pre hp hf
  have hlt : l.length < L.length := by omega
  have hne : l.length ≠ p := by have := hf.lt; omega
  refine ⟨⟨ok.room1, ok.room2, by simp only [bnd_len]; exact hfit, hg.bind hfL hlt hn, trOk_bnd (ok.tr.pre hp) hfL hne⟩, ⟨_, (Hst.pre hp tr).trans (Hst.bnd hfL)⟩, fun θ => ⟨fun m => m.unbnd hfL hne, fun ⟨m, he⟩ => m.bnd hfL hne he⟩⟩
theorem number_core {m : Mc} (h : McOk m) {a n : Int} (ha : 0 ≤ a ∧ a < (m.l.length : Int)) (hn : -2147483647 ≤ n ∧ n ≤ 2147483647) :
    match m.number a n with
    | .ok m' => KpM m m' ∧ m'.next = m.next ∧ m'.l.length ≤ m.l.length + 1 ∧ (∀ θ, Mod m.l θ → θ a.toNat = .i n → ∃ θ', Agr m.l.length θ' θ ∧ Mod m'.l θ') ∧ (∀ θ, Mod m'.l θ → Mod m.l θ ∧ θ a.toNat = .i n)
    | .err e => (e = 3 ∧ ∀ θ, Mod m.l θ → θ a.toNat ≠ .i n) ∨ (e = 80 ∧ m.r < (m.l.length + 1 : Nat)) := by
  have hg := h.ok.good
  simp only at hg
  have hal : a.toNat < m.l.length := by omega
  obtain ⟨he, hp⟩ := hg.fol_end hal
  have hfol : ∀ θ, Mod m.l θ → θ a.toNat = θ (fol m.l a.toNat) := fun θ hm => hm.fol hg a.toNat hal
  have hk := hg.fol_kind hal
  unfold Mc.number
  generalize fol m.l a.toNat = p at *
  by_cases c1 : (sAt m.l p).kind = 2 ∧ (sAt m.l p).n = n
  · rw [if_pos c1]
    refine ⟨⟨h, rfl, rfl, rfl, Nat.le_refl _, [], Hst.refl _ _⟩, rfl, by omega, fun θ hm _ => ⟨θ, Agr.refl _ _, hm⟩, fun θ hm => ⟨hm, ?_⟩⟩
    rw [hfol θ hm, hm.num p c1.1, c1.2]
  rw [if_neg c1]
  by_cases c2 : (sAt m.l p).kind ≠ 1
  · rw [if_pos c2]
    refine .inl ⟨rfl, fun θ hm ht => ?_⟩
    rw [hfol θ hm] at ht
    rcases hk with ⟨k, _⟩ | k | k
    · exact c2 k
    · rw [hm.num p k] at ht
      injection ht with ht
      exact c1 ⟨k, ht⟩
    · rw [hm.top p k] at ht; cases ht
  rw [if_neg c2]
  have k1 : (sAt m.l p).kind = 1 := by omega
  have hf : Free1 m.l p := ⟨hp, k1, by rw [on_ref k1] at he; simpa using he⟩
  by_cases c3 : m.fits 1
  · rw [if_pos c3]
    have hx : sAt (m.l ++ [(⟨2, emp, n⟩ : C)]) m.l.length = ⟨2, emp, n⟩ := sAt_get (by simp)
    have hgL := numL_good hg hn.1 hn.2
    have hno : ¬ Path (m.l ++ [(⟨2, emp, n⟩ : C)]) m.l.length p := by
      intro hP
      cases hP with
      | refl => omega
      | step hq _ => rw [leads_no (by rw [on_num (by rw [hx])]) (by rw [hx]; show ¬ (2 : Int) = 4; decide)] at hq; cases hq
    obtain ⟨b1, b2, b3⟩ := bindTo h.ok (x := [⟨2, emp, n⟩]) rfl hgL (by simp) (by simp only [List.length_append, List.length_cons, List.length_nil]; exact c3) hf hno
    have hnx := h.nx
    refine ⟨⟨h.grow b1 rfl (by simp [Mc.putTo, bnd_len]) (by simp [Mc.putTo, bnd_len]; omega), rfl, rfl, rfl, by simp [Mc.putTo, bnd_len], b2⟩, rfl, by simp [Mc.putTo, bnd_len], fun θ hm ht => ?_, fun θ hm => ?_⟩
    · refine ⟨fun q => if q = m.l.length then .i n else θ q, fun q hq => if_neg (by omega), (b3 _).2 ⟨?_, ?_⟩⟩
      · refine hm.more hg (Pre.append _ _) (fun q hq => if_neg (by omega)) (fun q hq ho => ?_) (fun q hq hk2 => ?_) (fun q hq hk4 => ?_)
        · have := on_lt ho
          have e : q = m.l.length := by simp at this; omega
          subst e
          rw [on_num (by rw [hx])] at ho; cases ho
        · have := sAt_lt (by rw [hk2]; decide)
          have e : q = m.l.length := by simp at this; omega
          subst e
          rw [if_pos rfl, hx]
        · have := sAt_lt (by rw [hk4]; decide)
          have e : q = m.l.length := by simp at this; omega
          subst e
          rw [hx] at hk4; simp at hk4
      · show (if p = m.l.length then _ else _) = (if m.l.length = m.l.length then _ else _)
        rw [if_neg (by omega), if_pos rfl, ← hfol θ hm, ht]
    · obtain ⟨h1, h2⟩ := (b3 θ).1 hm
      have h3 := h1.low hg (Pre.append _ _)
      refine ⟨h3, ?_⟩
      rw [hfol θ h3, h2, h1.num _ (by rw [hx]), hx]
  · rw [if_neg c3]
    unfold Mc.fits at c3
    exact .inr ⟨rfl, by omega⟩
/-- the terms of a structure that is laid -/
def topT (n0 : Nat) (s : ByteArray) (ts : List Tm) (θ : Nat → Tm) (q : Nat) : Tm := if q < n0 then θ q else if q = n0 then .f s ts else (ts[q - n0 - 1]?).getD (.v 0)
theorem topL_mod {l : List C} (hg : Good l) {s : ByteArray} {ts : List Tm} {θ : Nat → Tm} (hm : Mod l θ) : Mod (l ++ topL l.length s ts.length) (topT l.length s ts θ) := by
  have h0 := topL_zero l s ts.length
  refine hm.more hg (Pre.append _ _) (fun q hq => if_pos hq) (fun q hq ho => ?_) (fun q hq hk => ?_) (fun q hq hk => ?_)
  · rcases topL_cases hq (on_lt ho) with rfl | ⟨k, hk, rfl⟩
    · rw [on_top (by rw [h0])] at ho; cases ho
    · rw [(topL_free l s ts.length hk).on] at ho; cases ho
  · rcases topL_cases hq (sAt_lt (by rw [hk]; decide)) with rfl | ⟨k, hk', rfl⟩
    · rw [h0] at hk; simp at hk
    · rw [topL_at l s ts.length hk'] at hk; simp at hk
  · rcases topL_cases hq (sAt_lt (by rw [hk]; decide)) with rfl | ⟨k, hk', rfl⟩
    · rw [h0]
      unfold topT
      rw [if_neg (by omega), if_pos rfl]
      simp only [Int.toNat_natCast]
      congr 1
      apply List.ext_getElem?
      intro i
      rw [List.getElem?_map]
      by_cases hi : i < ts.length
      · rw [List.getElem?_range hi, Option.map_some, if_neg (by omega), if_neg (by omega), show l.length + 1 + i - l.length - 1 = i by omega, List.getElem?_eq_getElem hi]; rfl
      · rw [List.getElem?_eq_none (by omega), List.getElem?_eq_none (by simp; omega)]; rfl
    · rw [topL_at l s ts.length hk'] at hk; simp at hk
theorem topT_at {n0 : Nat} {s : ByteArray} {ts : List Tm} {θ : Nat → Tm} {j : Nat} {u : Tm} (h : ts[j]? = some u) : topT n0 s ts θ (n0 + 1 + j) = u := by
  unfold topT
  rw [if_neg (by omega), if_neg (by omega), show n0 + 1 + j - n0 - 1 = j by omega, h]; rfl
theorem topT_zero {n0 : Nat} {s : ByteArray} {ts : List Tm} {θ : Nat → Tm} : topT n0 s ts θ n0 = .f s ts := by
  unfold topT
  rw [if_neg (by omega), if_pos rfl]
theorem topT_low {n0 : Nat} {s : ByteArray} {ts : List Tm} {θ : Nat → Tm} : Agr n0 (topT n0 s ts θ) θ := fun q hq => if_pos hq
theorem fun_core {m : Mc} (h : McOk m) {a : Int} {s : ByteArray} {n : Nat} (ha : 0 ≤ a ∧ a < (m.l.length : Int)) (hs : okName s = true) (hn : n ≤ 6) :
    match m.fun_ a s n with
    | .ok m' => KpM m m' ∧ m'.next + n ≤ (m'.l.length : Int) ∧ m'.l.length ≤ m.l.length + (n + 1) ∧ (∀ θ (ts : List Tm), ts.length = n → Mod m.l θ → θ a.toNat = .f s ts → ∃ θ', Agr m.l.length θ' θ ∧ Mod m'.l θ' ∧ ∀ (j : Nat) u, ts[j]? = some u → θ' (m'.next.toNat + j) = u) ∧
        (∀ θ, Mod m'.l θ → Mod m.l θ ∧ θ a.toNat = .f s ((List.range n).map fun j => θ (m'.next.toNat + j)))
    | .err e => (e = 3 ∧ ∀ θ (ts : List Tm), ts.length = n → Mod m.l θ → θ a.toNat ≠ .f s ts) ∨ (e = 80 ∧ m.r < (m.l.length + (n + 1) : Nat)) := by
  have hg := h.ok.good
  simp only at hg
  have hal : a.toNat < m.l.length := by omega
  obtain ⟨he, hp⟩ := hg.fol_end hal
  have hfol : ∀ θ, Mod m.l θ → θ a.toNat = θ (fol m.l a.toNat) := fun θ hm => hm.fol hg a.toNat hal
  have hk := hg.fol_kind hal
  unfold Mc.fun_
  generalize fol m.l a.toNat = p at *
  by_cases c1 : (sAt m.l p).kind = 4 ∧ (sAt m.l p).name = s ∧ (sAt m.l p).n = (n : Int)
  · rw [if_pos c1]
    have ht := ok_top (shp_at hg.shp hp) c1.1
    rw [c1.2.2] at ht
    refine ⟨⟨h.grow h.ok rfl (Nat.le_refl _) ⟨by simp only; omega, by simp only; omega⟩, rfl, rfl, rfl, Nat.le_refl _, [], Hst.refl _ _⟩, by simp only; omega, by simp only; omega, fun θ ts hl hm ht => ⟨θ, Agr.refl _ _, hm, fun j u hj => ?_⟩, fun θ hm => ⟨hm, ?_⟩⟩
    · rw [hfol θ hm, hm.top p c1.1, c1.2.1, c1.2.2] at ht
      injection ht with _ ht
      rw [← ht, List.getElem?_map, Int.toNat_natCast] at hj
      have hj' : j < n := by
        rcases Nat.lt_or_ge j n with h | h
        · exact h
        · rw [List.getElem?_eq_none (by simpa using h)] at hj; cases hj
      rw [List.getElem?_range hj', Option.map_some] at hj
      injection hj with hj
    · rw [hfol θ hm, hm.top p c1.1, c1.2.1, c1.2.2]
      simp only [Int.toNat_natCast]
  rw [if_neg c1]
  by_cases c2 : (sAt m.l p).kind ≠ 1
  · rw [if_pos c2]
    refine .inl ⟨rfl, fun θ ts hl hm ht => ?_⟩
    rw [hfol θ hm] at ht
    rcases hk with ⟨k, _⟩ | k | k
    · exact c2 k
    · rw [hm.num p k] at ht; cases ht
    · rw [hm.top p k] at ht
      injection ht with ht1 ht2
      have h0 := (ok_top (shp_at hg.shp hp) k).1
      have hlen := congrArg List.length ht2
      simp at hlen
      exact c1 ⟨k, ht1, by omega⟩
  rw [if_neg c2]
  have k1 : (sAt m.l p).kind = 1 := by omega
  have hf : Free1 m.l p := ⟨hp, k1, by rw [on_ref k1] at he; simpa using he⟩
  by_cases c3 : m.fits (n + 1)
  · rw [if_pos c3]
    have hgL := topL_good hg hs hn
    have hno : ¬ Path (m.l ++ topL m.l.length s n) m.l.length p := fun hP => by have := topL_path hP; omega
    obtain ⟨b1, b2, b3⟩ := bindTo h.ok (x := topL m.l.length s n) rfl hgL (by rw [topL_len]; omega) (by rw [List.length_append, topL_len]; exact c3) hf hno
    refine ⟨⟨h.grow b1 rfl (by simp [Mc.putTo, bnd_len]) (by simp [Mc.putTo, bnd_len, topL_len]; omega), rfl, rfl, rfl, by simp [Mc.putTo, bnd_len], b2⟩, by simp [Mc.putTo, bnd_len, topL_len]; omega, by simp [Mc.putTo, bnd_len, topL_len], fun θ ts hl hm ht => ?_, fun θ hm => ?_⟩
    · subst hl
      refine ⟨topT m.l.length s ts θ, topT_low, (b3 _).2 ⟨topL_mod hg hm, ?_⟩, fun j u hj => ?_⟩
      · rw [topT_zero, topT_low p hp, ← hfol θ hm, ht]
      · show topT m.l.length s ts θ (((m.l.length + 1 : Nat) : Int).toNat + j) = u
        rw [Int.toNat_natCast]
        exact topT_at hj
    · obtain ⟨h1, h2⟩ := (b3 θ).1 hm
      have h3 := h1.low hg (Pre.append _ _)
      refine ⟨h3, ?_⟩
      rw [hfol θ h3, h2, h1.top _ (by rw [topL_zero]), topL_zero]
      simp only [Int.toNat_natCast, Mc.putTo]
  · rw [if_neg c3]
    unfold Mc.fits at c3
    exact .inr ⟨rfl, by omega⟩
end Go.Proofs.YtgipiplklaeplaaDoor
namespace Go.Proofs.YtgipiplklaeplaaDoor
open Go.RowKit
/-- registers that were there keep their places -/
theorem reg_old {m m' : Mc} {x : List Int} (h : m'.regs = m.regs ++ x) {r : Int} (h0 : 0 ≤ r) (h1 : r < (m.regs.length : Int)) : m'.reg r = m.reg r := by
  unfold Mc.reg
  rw [h, List.getElem?_append_left (by omega)]
theorem reg_new {m m' : Mc} {p : Int} (h : m'.regs = m.regs ++ [p]) {r : Int} (hr : r = (m.regs.length : Int)) : m'.reg r = p := by
  unfold Mc.reg
  rw [h, hr, Int.toNat_natCast, List.getElem?_append_right (Nat.le_refl _)]
  simp
theorem McOk.reg {m : Mc} (h : McOk m) {r : Int} (h0 : 0 ≤ r) (h1 : r < (m.regs.length : Int)) : 0 ≤ m.reg r ∧ m.reg r < (m.l.length : Int) := by
  have hlt : r.toNat < m.regs.length := by omega
  have : m.reg r ∈ m.regs := by
    unfold Mc.reg
    rw [List.getElem?_eq_getElem hlt]
    exact List.getElem_mem hlt
  exact h.pl _ this
/-- what the beginning asks of the slots' terms -/
structure Ori (m0 : Mc) (Ts : List Tm) (θ : Nat → Tm) (σ : Int → Tm) : Prop where
  mod : Mod m0.l θ
  arg : ∀ (j : Nat) (T : Tm), Ts[j]? = some T → θ (m0.reg j).toNat = T.sub σ
/-- what is still asked of them -/
structure Sat (m : Mc) (s : St) (row : List (Tm × Int)) (pend : List Tm) (θ : Nat → Tm) (σ : Int → Tm) : Prop where
  mod : Mod m.l θ
  var : ∀ (j : Nat) (v r : Int), s.vars[j]? = some v → s.regs[j]? = some r → θ (m.reg r).toNat = σ v
  row : ∀ q ∈ row, θ (m.reg q.2).toNat = q.1.sub σ
  pend : ∀ (j : Nat) (u : Tm), pend[j]? = some u → θ (m.next.toNat + j) = u.sub σ
structure StOk (s : St) (row known : List (Tm × Int)) : Prop where
  nd : s.vars.Nodup
  vl : s.regs.length = s.vars.length
  vr : ∀ r ∈ s.regs, 0 ≤ r ∧ r < (s.next : Int)
  rr : ∀ q ∈ row, 0 ≤ q.2 ∧ q.2 < (s.next : Int)
  kr : ∀ q ∈ known, 0 ≤ q.2 ∧ q.2 < (s.next : Int)
/-- the goals are the literals that were done -/
def Gl (m : Mc) (known : List (Tm × Int)) (done : List Ltl) : Prop := m.goals.length = done.length ∧ ∀ (j : Nat) (l : Ltl), done[j]? = some l → ∃ r : Int, m.goals[j]? = some (l.neg, m.reg r) ∧ (l.t, r) ∈ known
structure Inv (m0 : Mc) (Ts : List Tm) (N : Nat) (s : St) (row : List (Tm × Int)) (pend : List Tm) (known : List (Tm × Int)) (done : List Ltl) (k : Nat) (m : Mc) : Prop where
  sok : StOk s row known
  len : m.regs.length = s.next
  mok : McOk m
  pn : m.next + pend.length ≤ (m.l.length : Int)
  r : m.r = m0.r
  room : m.l.length + k ≤ N
  hst : ∃ d, Hst m0.l m0.tr m.l m.tr d
  go : Gl m known done
  fwd : ∀ θ σ, Ori m0 Ts θ σ → ∃ θ', Agr m0.l.length θ' θ ∧ Sat m s row pend θ' σ
  bwd : ∀ θ σ, Sat m s row pend θ σ → Ori m0 Ts θ σ ∧ ∀ q ∈ known, θ (m.reg q.2).toNat = q.1.sub σ
section
variable {m0 : Mc} {Ts : List Tm} {N k k' : Nat} {s s' : St} {row row' : List (Tm × Int)} {pend pend' : List Tm} {known known' : List (Tm × Int)} {done : List Ltl} {m m' : Mc}
theorem Inv.go_ (h : Inv m0 Ts N s row pend known done k m) (x : List Int) (hx : m'.regs = m.regs ++ x) (hg : m'.goals = m.goals) (sok : StOk s' row' known') (len : m'.regs.length = s'.next) (mok : McOk m')
    (pn : m'.next + pend'.length ≤ (m'.l.length : Int)) (hr : m'.r = m.r) (room : m'.l.length + k' ≤ m.l.length + k) (hst : ∀ d, Hst m0.l m0.tr m.l m.tr d → ∃ d', Hst m0.l m0.tr m'.l m'.tr d') (kn : ∀ q ∈ known, q ∈ known')
    (f : ∀ θ σ, Sat m s row pend θ σ → ∃ θ', Agr m.l.length θ' θ ∧ Sat m' s' row' pend' θ' σ) (b : ∀ θ σ, Sat m' s' row' pend' θ σ → Sat m s row pend θ σ)
    (kb : ∀ θ σ, Sat m' s' row' pend' θ σ → ∀ q ∈ known', q ∈ known ∨ θ (m'.reg q.2).toNat = q.1.sub σ) : Inv m0 Ts N s' row' pend' known' done k' m' := by
  obtain ⟨d, hd⟩ := h.hst
  have hle := hd.le
  refine ⟨sok, len, mok, pn, hr.trans h.r, by have := h.room; omega, hst d hd, ?_, fun θ σ ho => ?_, fun θ σ hs => ?_⟩
  · obtain ⟨g1, g2⟩ := h.go
    refine ⟨by rw [hg]; exact g1, fun j l hj => ?_⟩
    obtain ⟨r, e1, e2⟩ := g2 j l hj
    have hkr := h.sok.kr _ e2
    exact ⟨r, by rw [hg, e1, reg_old hx hkr.1 (by rw [h.len]; exact hkr.2)], kn _ e2⟩
  · obtain ⟨θ1, a1, s1⟩ := h.fwd θ σ ho
    obtain ⟨θ2, a2, s2⟩ := f θ1 σ s1
    exact ⟨θ2, a2.trans a1 hle, s2⟩
  · obtain ⟨o1, o2⟩ := h.bwd θ σ (b θ σ hs)
    refine ⟨o1, fun q hq => ?_⟩
    rcases kb θ σ hs q hq with hq' | hq'
    · have hkr := h.sok.kr _ hq'
      rw [reg_old hx hkr.1 (by rw [h.len]; exact hkr.2)]
      exact o2 q hq'
    · exact hq'
/-- the variables' and the row's terms stay -/
theorem Inv.var_move (h : Inv m0 Ts N s row pend known done k m) {θ θ' : Nat → Tm} {σ : Int → Tm} (hs : Sat m s row pend θ σ) (ha : Agr m.l.length θ' θ) {x : List Int} (hx : m'.regs = m.regs ++ x) :
    (∀ (j : Nat) (v r : Int), s.vars[j]? = some v → s.regs[j]? = some r → θ' (m'.reg r).toNat = σ v) ∧ (∀ q ∈ row, θ' (m'.reg q.2).toNat = q.1.sub σ) := by
  refine ⟨fun j v r hv hr => ?_, fun q hq => ?_⟩
  · have h1 := h.sok.vr r (List.mem_of_getElem? hr)
    have h2 : r < (m.regs.length : Int) := by rw [h.len]; exact h1.2
    have h3 := h.mok.reg h1.1 h2
    rw [reg_old hx h1.1 h2, ha _ (by omega)]
    exact hs.var j v r hv hr
  · have h1 := h.sok.rr q hq
    have h2 : q.2 < (m.regs.length : Int) := by rw [h.len]; exact h1.2
    have h3 := h.mok.reg h1.1 h2
    rw [reg_old hx h1.1 h2, ha _ (by omega)]
    exact hs.row q hq
/-- an instruction: it may be done, and this comes of it -/
def Deed (m0 : Mc) (Ts : List Tm) (N : Nat) (m : Mc) (i : In) (P : Mc → Prop) : Prop :=
  Fit m i ∧ match stepF m i with
    | .ok m' => P m'
    | .err e => (e = 3 ∧ ∀ θ σ, ¬ Ori m0 Ts θ σ) ∨ (e = 80 ∧ m0.r < (N : Int))
def Safe (m0 : Mc) (Ts : List Tm) (N : Nat) (P : Mc → Prop) (o : McO) : Prop := match o with
  | .ok m _ => P m
  | .err e _ => (e = 3 ∧ ∀ θ σ, ¬ Ori m0 Ts θ σ) ∨ (e = 80 ∧ m0.r < (N : Int))
  | .bad => False
theorem Safe.step {P Q : Mc → Prop} {o : McO} {i : In} (h : Safe m0 Ts N P o) (ha : ∀ m, P m → Deed m0 Ts N m i Q) : Safe m0 Ts N Q (stepO o i) := by
  cases o with
  | bad => exact h
  | err e k => exact h
  | ok m k =>
    obtain ⟨hf, hr⟩ := ha m h
    rw [stepO_yes hf]
    cases hs : stepF m i with
    | ok m' => rw [hs] at hr; exact hr
    | err e => rw [hs] at hr; exact hr
theorem Safe.mono {P Q : Mc → Prop} {o : McO} (h : Safe m0 Ts N P o) (ha : ∀ m, P m → Q m) : Safe m0 Ts N Q o := by
  cases o with
  | bad => exact h
  | err e k => exact h
  | ok m k => exact ha m h
theorem StOk.emit (h : StOk s row known) (i : In) : StOk (s.emit i) row known := ⟨h.nd, h.vl, h.vr, h.rr, h.kr⟩
theorem StOk.tail {p : Tm × Int} (h : StOk s (p :: row) known) : StOk s row known := ⟨h.nd, h.vl, h.vr, fun q hq => h.rr q (by simp [hq]), h.kr⟩
theorem StOk.bump (h : StOk s row known) : StOk s.bump row known :=
  ⟨h.nd, h.vl, fun r hr => by have := h.vr r hr; simp [St.bump]; omega, fun q hq => by have := h.rr q hq; simp [St.bump]; omega, fun q hq => by have := h.kr q hq; simp [St.bump]; omega⟩
theorem StOk.addv (h : StOk s row known) {v : Int} (hv : v ∉ s.vars) : StOk (s.bump.addv v s.next) row known := by
  refine ⟨by simp only [St.addv, St.bump]; rw [List.nodup_append]; exact ⟨h.nd, by simp, fun a ha b hb => by simp at hb; subst hb; rintro rfl; exact hv ha⟩, by simp [St.addv, St.bump, h.vl], fun r hr => ?_, h.bump.rr, h.bump.kr⟩
  simp only [St.addv, St.bump, List.mem_append, List.mem_singleton] at hr ⊢
  rcases hr with hr | rfl
  · have := h.vr r hr; omega
  · omega
theorem StOk.snoc (h : StOk s row known) {t : Tm} {r : Int} (h0 : 0 ≤ r) (h1 : r < (s.next : Int)) : StOk s (row ++ [(t, r)]) known :=
  ⟨h.nd, h.vl, h.vr, fun q hq => by
    rcases List.mem_append.1 hq with hq | hq
    · exact h.rr q hq
    · simp at hq; subst hq; exact ⟨h0, h1⟩, h.kr⟩
theorem StOk.know (h : StOk s row known) {t : Tm} {r : Int} (h0 : 0 ≤ r) (h1 : r < (s.next : Int)) : StOk s row (known ++ [(t, r)]) :=
  ⟨h.nd, h.vl, h.vr, h.rr, fun q hq => by
    rcases List.mem_append.1 hq with hq | hq
    · exact h.kr q hq
    · simp at hq; subst hq; exact ⟨h0, h1⟩⟩
theorem idx_at {l : List Int} {x : Int} : ∀ k : Nat, (idxF (fun y => y == x) k l = -1 ∧ x ∉ l) ∨ ∃ j : Nat, idxF (fun y => y == x) k l = ((k + j : Nat) : Int) ∧ l[j]? = some x := by
  induction l with
  | nil => exact fun k => .inl ⟨rfl, by simp⟩
  | cons a l ih =>
    intro k
    by_cases ha : a = x
    · subst ha
      exact .inr ⟨0, by simp [idxF], rfl⟩
    · rcases ih (k + 1) with h | ⟨j, h1, h2⟩
      · exact .inl ⟨by simp [idxF, ha, h.1], by simp only [List.mem_cons, not_or]; exact ⟨fun e => ha e.symm, h.2⟩⟩
      · exact .inr ⟨j + 1, by simp [idxF, ha, h1]; omega, by simpa using h2⟩
/-- a variable's register, or a new one -/
theorem regF_is (s : St) (v : Int) (hl : s.regs.length = s.vars.length) : (∃ (j : Nat) (r : Int), s.vars[j]? = some v ∧ s.regs[j]? = some r ∧ regF s v = (s, r, false)) ∨ (v ∉ s.vars ∧ regF s v = (s.bump.addv v s.next, (s.next : Int), true)) := by
  rcases idx_at (l := s.vars) (x := v) 0 with ⟨h, hn⟩ | ⟨j, h1, h2⟩
  · refine .inr ⟨hn, ?_⟩
    unfold regF placeI
    rw [h]
    have : decide (0 ≤ (-1 : Int)) = false := rfl
    rw [this]
    cases s.regs[(-1 : Int).toNat]? <;> rfl
  · left
    have hj : j < s.vars.length := (List.getElem?_eq_some_iff.1 h2).1
    have hr : s.regs[j]? = some (s.regs[j]'(by omega)) := List.getElem?_eq_getElem (by omega)
    refine ⟨j, _, h2, hr, ?_⟩
    unfold regF placeI
    rw [h1]
    have : decide (0 ≤ ((0 + j : Nat) : Int)) = true := by simp
    rw [this, show (((0 + j : Nat) : Int)).toNat = j by omega, hr]
end
end Go.Proofs.YtgipiplklaeplaaDoor
