/- Texts of this proof that belong together: words of memory, plain laws, walks. -/
import Derived.Test.YtgipiplklaeplaaDoorB39
set_option linter.unusedVariables false
set_option linter.unusedSimpArgs false
namespace Go.Proofs.YtgipiplklaeplaaDoor
open Go.RowKit
structure Vg (m0 m : Mc) (own : Int) (n : Nat) : Prop where
 free : ∀ j, j < n → Free1 m.l (m.next.toNat + j)
 away : ∀ r : Int, 0 ≤ r → r < (m.regs.length : Int) → r ≠ own → ∀ j, j < n → ¬ Path m.l (m.reg r).toNat (m.next.toNat + j)
 low : m0.l.length ≤ m.next.toNat
def Kn (m : Mc) (s : St) (known : List (Tm × Int)) : Prop := ∀ θ σ, Mod m.l θ → (∀ (j : Nat) (v r : Int), s.vars[j]? = some v → s.regs[j]? = some r → θ (m.reg r).toNat = σ v) → ∀ q ∈ known, θ (m.reg q.2).toNat = q.1.sub σ
theorem Hst.write {l L : List C} {tr TR d : List Int} (h : Hst l tr L TR d) {p : Nat} (hp : l.length ≤ p) (hpl : p < L.length) (c : C) : Hst l tr (L.set p c) TR d := by
 refine ⟨by rw [List.length_set]; exact h.le, h.tr, fun t ht => ?_, fun q hq => ?_, fun q hq hd => ?_, h.yes⟩
 ·obtain ⟨q, e1, e2⟩ := h.at_ t ht
  exact ⟨q, e1, by rw [List.length_set]; exact e2⟩
 ·rw [sAt_set8 hpl, if_neg (by omega)]; exact h.kind q hq
 ·rw [sAt_set8 hpl, if_neg (by omega)]; exact h.no q hq hd
section
variable {m0 : Mc} {Ts : List Tm} {N k : Nat} {s : St} {row : List (Tm × Int)} {pend : List Tm} {known known0 : List (Tm × Int)} {done : List Ltl} {m : Mc}
theorem act_putFun (nm : ByteArray) (us : List Tm) (hs : okName nm = true) (hl : us.length ≤ 6) (h : Inv m0 Ts N s [] [] known done (k + (us.length + 1)) m) :
  Deed m0 Ts N m { op := 8, a := (s.next : Int), name := nm, n := us.length } fun m' => Inv m0 Ts N (s.bump.emit { op := 8, a := (s.next : Int), name := nm, n := us.length }) [] us (known ++ [(.f nm us, (s.next : Int))]) done k m' ∧ Vg m0 m' (s.next : Int) us.length ∧
   (∀ θ, Mod m'.l θ → Mod m.l θ) ∧ m'.regs = m.regs ++ [((m.l.length : Nat) : Int)] := by
 refine ⟨⟨h.mok, by simp, fun h => by simp at h, fun h => by simp at h, fun h => by simp at h, fun _ => by simp [h.len], fun h => by simp at h, fun h => by simp at h, fun _ => ⟨hs, by simp only; omega, by simp only; omega⟩⟩, ?_⟩
 show match m.put nm ((us.length : Nat) : Int).toNat with | .ok m' => _ | .err e => _
 rw [Int.toNat_natCast]
 unfold Mc.put
 have hg := h.mok.ok.good
 simp only at hg
 by_cases c : m.fits (us.length + 1)
 ·rw [if_pos c]
  have hgL := topL_good hg hs hl
  have hx : ({ m with l := m.l ++ topL m.l.length nm us.length, next := ((m.l.length + 1 : Nat) : Int) }.set ((m.l.length : Nat) : Int)).regs = m.regs ++ [((m.l.length : Nat) : Int)] := rfl
  have hnew := reg_new (r := (s.next : Int)) hx (by rw [h.len])
  obtain ⟨d, hd⟩ := h.hst
  have hdl := hd.le
  have low : ∀ θ, Mod (m.l ++ topL m.l.length nm us.length) θ → Mod m.l θ := fun θ hm => hm.low hg (Pre.append _ _)
  refine ⟨?_, ⟨fun j hj => ?_, fun r h0 h1 hne j hj hP => ?_, by simp only [Mc.set, Int.toNat_natCast]; omega⟩, low, rfl⟩
  ·refine h.go_ [((m.l.length : Nat) : Int)] hx rfl (StOk.know (h.sok.bump.emit _) (by omega) (by simp [St.emit, St.bump]; omega)) (by simp [Mc.set, St.emit, St.bump, h.len]) ⟨?_, fun x hx => ?_, ?_⟩ (by simp [Mc.set, topL_len]; omega) rfl (by simp [Mc.set, topL_len]; omega) (fun d hd => ⟨_, hd.trans (Hst.pre (Pre.append _ _) _)⟩) (fun q hq => by simp [hq]) (fun θ σ hs' => ?_) (fun θ σ hs' => ?_) (fun θ σ hs' q hq => ?_)
   ·exact ⟨h.mok.ok.room1, h.mok.ok.room2, by simp only [Mc.set, List.length_append, topL_len]; exact c, hgL, h.mok.ok.tr.pre (Pre.append _ _)⟩
   ·simp only [Mc.set, List.mem_append, List.mem_singleton, List.length_append, topL_len] at hx ⊢
    rcases hx with hx | rfl
    ·have := h.mok.pl x hx; omega
    ·omega
   ·simp only [Mc.set, List.length_append, topL_len]; omega
   ·have hlen : (subs σ us).length = us.length := by rw [subs_map]; simp
    have hm := topL_mod (s := nm) (ts := subs σ us) hg hs'.mod
    rw [hlen] at hm
    obtain ⟨m1, m2⟩ := h.var_move hs' (topT_low (s := nm) (ts := subs σ us)) hx
    refine ⟨topT m.l.length nm (subs σ us) θ, topT_low, hm, m1, by simp, fun j u hj => ?_⟩
    simp only [Mc.set, Int.toNat_natCast]
    exact topT_at (subs_get hj)
   ·exact ⟨low θ hs'.mod, (var_cong h hx).1 hs'.var, by simp, by simp⟩
   ·rcases List.mem_append.1 hq with hq | hq
    ·exact .inl hq
    ·right
     simp at hq
     subst hq
     simp only
     rw [hnew, Int.toNat_natCast]
     have hm : Mod (m.l ++ topL m.l.length nm us.length) θ := hs'.mod
     have hp : ∀ (j : Nat) (u : Tm), us[j]? = some u → θ (m.l.length + 1 + j) = u.sub σ := by
      have := hs'.pend
      simp only [Mc.set, Int.toNat_natCast] at this
      exact this
     rw [hm.top _ (by rw [topL_zero]), topL_zero]
     simp only [Int.toNat_natCast, Tm.sub]
     congr 1
     apply List.ext_getElem?
     intro j
     rw [List.getElem?_map, subs_map, List.getElem?_map]
     by_cases hj : j < us.length
     ·rw [List.getElem?_range hj, List.getElem?_eq_getElem hj, Option.map_some, Option.map_some, hp j _ (List.getElem?_eq_getElem hj)]
     ·rw [List.getElem?_eq_none (by simpa using hj), List.getElem?_eq_none (by omega)]; rfl
  ·simp only [Mc.set, Int.toNat_natCast]
   exact topL_free m.l nm us.length hj
  ·have h1' : r < (m.regs.length : Int) := by simp [Mc.set] at h1; rw [h.len]; rw [h.len] at h1; omega
   rw [reg_old hx h0 h1'] at hP
   have hr := h.mok.reg h0 h1'
   have h2 := path_pre hg (Pre.append _ _) (by omega) hP
   have h3 := h2.lt hg.shp (by omega)
   simp only [Mc.set, Int.toNat_natCast] at h3
   omega
 ·rw [if_neg c]
  unfold Mc.fits at c
  exact .inr ⟨rfl, no_room h (n := us.length + 1) (by omega) (by omega)⟩
theorem Vg.pass {own : Int} {n : Nat} (h : Vg m0 m own (n + 1)) (h0 : 0 ≤ m.next) : Vg m0 ({ m with next := m.next + 1 }.set m.next) own n := by
 have e : (m.next + 1).toNat = m.next.toNat + 1 := by omega
 have hx : ({ m with next := m.next + 1 }.set m.next).regs = m.regs ++ [m.next] := rfl
 refine ⟨fun j hj => ?_, fun r h1 h2 hne j hj hP => ?_, by simp only [Mc.set]; have := h.low; omega⟩
 ·have := h.free (j + 1) (by omega)
  simp only [Mc.set, e]
  rwa [show m.next.toNat + (j + 1) = m.next.toNat + 1 + j by omega] at this
 ·simp only [Mc.set] at hP
  have e2 : (m.next + 1).toNat + j = m.next.toNat + (j + 1) := by omega
  rw [e2] at hP
  by_cases hr : r < (m.regs.length : Int)
  ·have : ({ m with next := m.next + 1 }.set m.next).reg r = m.reg r := reg_old hx h1 hr
   unfold Mc.set at this
   rw [this] at hP
   exact h.away r h1 hr hne (j + 1) (by omega) hP
  ·have hr2 : r = (m.regs.length : Int) := by simp [Mc.set] at h2; omega
   have : ({ m with next := m.next + 1 }.set m.next).reg r = m.next := reg_new hx hr2
   unfold Mc.set at this
   rw [this] at hP
   have h3 := h.free 0 (by omega)
   have := free_path8 h3 hP
   omega
theorem Kn.step {s' : St} {m' : Mc} {x : List Int} (h : Kn m s known0) (hi : Inv m0 Ts N s row pend known done k m) (hk : ∀ q ∈ known0, 0 ≤ q.2 ∧ q.2 < (s.next : Int)) (hx : m'.regs = m.regs ++ x) (hm : ∀ θ, Mod m'.l θ → Mod m.l θ)
  (hv : ∀ (j : Nat) (v r : Int), s.vars[j]? = some v → s.regs[j]? = some r → s'.vars[j]? = some v ∧ s'.regs[j]? = some r) : Kn m' s' known0 := fun θ σ m1 v1 q hq => by
 have h1 := hk q hq
 rw [reg_old hx h1.1 (by rw [hi.len]; exact h1.2)]
 refine h θ σ (hm θ m1) (fun j v r hv' hr' => ?_) q hq
 obtain ⟨e1, e2⟩ := hv j v r hv' hr'
 have h2 := hi.sok.vr r (List.mem_of_getElem? hr')
 rw [← reg_old hx h2.1 (by rw [hi.len]; exact h2.2)]
 exact v1 j v r e1 e2
theorem act_setInt {own : Int} (n : Int) (hb : -2147483647 ≤ n ∧ n ≤ 2147483647) (h : Inv m0 Ts N s [] (.i n :: pend) known done k m) (hv : Vg m0 m own (pend.length + 1)) :
  Deed m0 Ts N m { op := 11, n := n } fun m' => Inv m0 Ts N (s.emit { op := 11, n := n }) [] pend known done k m' ∧ Vg m0 m' own pend.length ∧ (∀ θ, Mod m'.l θ → Mod m.l θ) ∧ m'.regs = m.regs ++ [] := by
 have hpn := h.pn
 have hnx := h.mok.nx
 simp only [List.length_cons] at hpn
 refine ⟨⟨h.mok, by simp, fun h => by simp at h, fun h => by simp at h, fun h => by simp at h, fun h => by simp at h, fun _ => by omega, fun _ => hb, fun h => by simp at h⟩, ?_⟩
 show _ ∧ _
 have hf := hv.free 0 (by omega)
 rw [Nat.add_zero] at hf
 have hg := h.mok.ok.good
 simp only at hg
 have hgL := hg.setI hf hb.1 hb.2
 have hx : (m.write ⟨2, emp, n⟩).regs = m.regs ++ [] := by simp [Mc.write]
 have e1 := h.next1
 have low : ∀ θ, Mod (m.write ⟨2, emp, n⟩).l θ → Mod m.l θ := fun θ hm => ((mod_setI hf n θ).1 hm).1
 refine ⟨?_, ⟨fun j hj => ?_, fun r h0 h1 hne j hj hP => ?_, by simp only [Mc.write]; have := hv.low; omega⟩, low, hx⟩
 ·refine h.go_ [] hx rfl (h.sok.emit _) h.len ⟨⟨h.mok.ok.room1, h.mok.ok.room2, by simp only [Mc.write, List.length_set]; exact h.mok.ok.fit, hgL, h.mok.ok.tr.set hf _⟩, fun x hx' => by simp only [Mc.write, List.length_set] at hx' ⊢; exact h.mok.pl x hx', by simp only [Mc.write, List.length_set]; omega⟩ (by simp only [Mc.write, List.length_set]; omega) rfl (by simp [Mc.write]) (fun d hd => ⟨d, hd.write hv.low hf.lt _⟩) (fun q hq => hq) (fun θ σ hs' => ⟨θ, Agr.refl _ _, ?_⟩) (fun θ σ hs' => ?_) (fun _ _ _ q hq => .inl hq)
  ·obtain ⟨h2, h3⟩ := pend_cons.1 hs'.pend
   exact ⟨(mod_setI hf n θ).2 ⟨hs'.mod, h2⟩, (var_cong h hx).2 hs'.var, by simp, by simp only [Mc.write, e1]; exact h3⟩
  ·obtain ⟨d1, d2⟩ := (mod_setI hf n θ).1 hs'.mod
   have hp := hs'.pend
   simp only [Mc.write, e1] at hp
   exact ⟨d1, (var_cong h hx).1 hs'.var, by simp, pend_cons.2 ⟨d2, hp⟩⟩
 ·have h2 := hv.free (j + 1) (by omega)
  simp only [Mc.write, e1]
  rw [show m.next.toNat + (j + 1) = m.next.toNat + 1 + j by omega] at h2
  exact ⟨by simpa using h2.lt, by rw [sAt_set8 hf.lt, if_neg (by omega)]; exact h2.kind, by rw [sAt_set8 hf.lt, if_neg (by omega)]; exact h2.own⟩
 ·simp only [Mc.write, e1] at hP
  have hl : leads (m.l.set m.next.toNat ⟨2, emp, n⟩) m.next.toNat = [] := leads_no (by rw [on_num (by rw [sAt_set8 hf.lt, if_pos rfl])]) (by rw [sAt_set8 hf.lt, if_pos rfl]; show ¬ (2 : Int) = 4; decide)
  have hreg : (m.write ⟨2, emp, n⟩).reg r = m.reg r := rfl
  unfold Mc.write at hreg
  rw [e1.symm] at hP
  have hP' : Path (m.l.set m.next.toNat ⟨2, emp, n⟩) (m.reg r).toNat (m.next.toNat + (j + 1)) := by rw [show m.next.toNat + (j + 1) = (m.next + 1).toNat + j by omega]; exact hP
  rcases path_set hf.lt hl hP' with h5 | ⟨q, hq, _⟩
  ·exact hv.away r h0 (by simpa [Mc.write] using h1) hne (j + 1) (by omega) h5
  ·cases hq
theorem leads_setTo {l : List C} {p q : Nat} {k : Int} (hp : p < l.length) (hne : q ≠ p) (hk : k = 1 ∨ k = 3) : leads (l.set p ⟨k, emp, (q : Int)⟩) p = [q] := by
 have hs := sAt_set8 hp (⟨k, emp, (q : Int)⟩ : C) p
 rw [if_pos rfl] at hs
 have ho : onB (l.set p ⟨k, emp, (q : Int)⟩) p = true := by
  unfold onB
  rw [hs]
  rcases hk with rfl | rfl
  ·simp; omega
  ·rfl
 rw [leads_on ho, nx, hs]
 simp
theorem act_setVal {own x : Int} {u : Tm} (h : Inv m0 Ts N s [] (u :: pend) known done k m) (hv : Vg m0 m own (pend.length + 1)) (hx0 : 0 ≤ x ∧ x < (s.next : Int)) (hxo : x ≠ own)
  (hu : ∀ θ σ, Mod m.l θ → (∀ (j : Nat) (v r : Int), s.vars[j]? = some v → s.regs[j]? = some r → θ (m.reg r).toNat = σ v) → θ (m.reg x).toNat = u.sub σ) :
  Deed m0 Ts N m { op := 10, x := x } fun m' => Inv m0 Ts N (s.emit { op := 10, x := x }) [] pend known done k m' ∧ Vg m0 m' own pend.length ∧ (∀ θ, Mod m'.l θ → Mod m.l θ) ∧ m'.regs = m.regs ++ [] := by
 have hpn := h.pn
 have hnx := h.mok.nx
 simp only [List.length_cons] at hpn
 have hxl := fitR h hx0
 refine ⟨⟨h.mok, by simp, fun h => by simp at h, fun _ => hxl, fun h => by simp at h, fun h => by simp at h, fun _ => by omega, fun h => by simp at h, fun h => by simp at h⟩, ?_⟩
 show _ ∧ _
 have hf := hv.free 0 (by omega)
 rw [Nat.add_zero] at hf
 have hg := h.mok.ok.good
 simp only at hg
 have e1 := h.next1
 have hreg := h.mok.reg hxl.1 hxl.2
 have hno := hv.away x hxl.1 hxl.2 hxo
 have hno0 := hno 0 (by omega)
 rw [Nat.add_zero] at hno0
 obtain ⟨q, hq⟩ : ∃ q : Nat, m.reg x = (q : Int) := ⟨(m.reg x).toNat, by omega⟩
 have hql : q < m.l.length := by omega
 have hqt : (m.reg x).toNat = q := by omega
 rw [hqt] at hno hno0
 have hne : q ≠ m.next.toNat := by rintro rfl; exact hno0 (.refl _)
 obtain ⟨kd, hkd⟩ : ∃ kd : Int, kd = if (sAt m.l q).kind = 4 then 3 else 1 := ⟨_, rfl⟩
 have hk1 : kd = 1 ∨ (kd = 3 ∧ (sAt m.l q).kind = 4) := by rw [hkd]; split; exact .inr ⟨rfl, ‹_›⟩; exact .inl rfl
 have hk2 : kd = 1 ∨ kd = 3 := by rcases hk1 with h | h; exact .inl h; exact .inr h.1
 have hpc : ptrC m.l (m.reg x) = ⟨kd, emp, (q : Int)⟩ := by unfold ptrC; rw [hqt, hkd, hq]
 rw [hpc]
 have hgL := hg.setTo hf hql hno0 hk1
 have hms := mod_setTo hf hne hk2
 have hx : (m.write ⟨kd, emp, (q : Int)⟩).regs = m.regs ++ [] := by simp [Mc.write]
 have low : ∀ θ, Mod (m.write ⟨kd, emp, (q : Int)⟩).l θ → Mod m.l θ := fun θ hm => ((hms θ).1 hm).1
 refine ⟨?_, ⟨fun j hj => ?_, fun r h0 h1 hne' j hj hP => ?_, by simp only [Mc.write]; have := hv.low; omega⟩, low, hx⟩
 ·refine h.go_ [] hx rfl (h.sok.emit _) h.len ⟨⟨h.mok.ok.room1, h.mok.ok.room2, by simp only [Mc.write, List.length_set]; exact h.mok.ok.fit, hgL, h.mok.ok.tr.set hf _⟩, fun x hx' => by simp only [Mc.write, List.length_set] at hx' ⊢; exact h.mok.pl x hx', by simp only [Mc.write, List.length_set]; omega⟩ (by simp only [Mc.write, List.length_set]; omega) rfl (by simp [Mc.write]) (fun d hd => ⟨d, hd.write hv.low hf.lt _⟩) (fun q hq => hq) (fun θ σ hs' => ⟨θ, Agr.refl _ _, ?_⟩) (fun θ σ hs' => ?_) (fun _ _ _ q hq => .inl hq)
  ·obtain ⟨h2, h3⟩ := pend_cons.1 hs'.pend
   have h4 := hu θ σ hs'.mod hs'.var
   rw [hqt] at h4
   exact ⟨(hms θ).2 ⟨hs'.mod, h2.trans h4.symm⟩, (var_cong h hx).2 hs'.var, by simp, by simp only [Mc.write, e1]; exact h3⟩
  ·obtain ⟨d1, d2⟩ := (hms θ).1 hs'.mod
   have hvv := (var_cong h hx).1 hs'.var
   have h4 := hu θ σ d1 hvv
   rw [hqt] at h4
   have hp := hs'.pend
   simp only [Mc.write, e1] at hp
   exact ⟨d1, hvv, by simp, pend_cons.2 ⟨d2.trans h4, hp⟩⟩
 ·have h2 := hv.free (j + 1) (by omega)
  simp only [Mc.write, e1]
  rw [show m.next.toNat + (j + 1) = m.next.toNat + 1 + j by omega] at h2
  exact ⟨by simpa using h2.lt, by rw [sAt_set8 hf.lt, if_neg (by omega)]; exact h2.kind, by rw [sAt_set8 hf.lt, if_neg (by omega)]; exact h2.own⟩
 ·have hl := leads_setTo (l := m.l) (q := q) (k := kd) hf.lt hne hk2
  have hP' : Path (m.l.set m.next.toNat ⟨kd, emp, (q : Int)⟩) (m.reg r).toNat (m.next.toNat + (j + 1)) := by
   rw [show m.next.toNat + (j + 1) = (m.next + 1).toNat + j by omega]; exact hP
  have hh := hv.away r h0 (by simpa [Mc.write] using h1) hne'
  rcases path_set hf.lt hl hP' with h5 | ⟨q', hq', h6, h7⟩
  ·exact hh (j + 1) (by omega) h5
  ·simp at hq'
   subst hq'
   rcases path_set hf.lt hl h7 with h8 | ⟨q2, _, h9, _⟩
   ·exact hno (j + 1) (by omega) h8
   ·exact hno0 h9
theorem act_call {l : Ltl} {r : Int} (h : Inv m0 Ts N s [] [] known done k m) (hr : (l.t, r) ∈ known) : Deed m0 Ts N m { op := 12, a := r, neg := l.neg } fun m' => Inv m0 Ts N (s.emit { op := 12, a := r, neg := l.neg }) [] [] known (done ++ [l]) k m' := by
 have hrr := fitR h (h.sok.kr _ hr)
 refine ⟨⟨h.mok, by simp, fun _ => hrr, fun h => by simp at h, fun h => by simp at h, fun h => by simp at h, fun h => by simp at h, fun h => by simp at h, fun h => by simp at h⟩, ?_⟩
 refine ⟨h.sok.emit _, h.len, ⟨h.mok.ok, h.mok.pl, h.mok.nx⟩, h.pn, h.r, h.room, h.hst, ?_, fun θ σ ho => ?_, fun θ σ hs => ?_⟩
 ·obtain ⟨g1, g2⟩ := h.go
  refine ⟨by simp [g1], fun j l' hj => ?_⟩
  rcases Nat.lt_or_ge j done.length with hlt | hge
  ·rw [List.getElem?_append_left hlt] at hj
   obtain ⟨r', e1, e2⟩ := g2 j l' hj
   exact ⟨r', by simp only; rw [List.getElem?_append_left (by omega), e1]; rfl, e2⟩
  ·rw [List.getElem?_append_right hge] at hj
   have h0 : j - done.length = 0 := by
    rcases Nat.eq_zero_or_pos (j - done.length) with h | h
    ·exact h
    ·rw [List.getElem?_eq_none (by simp; omega)] at hj; cases hj
   rw [h0] at hj
   simp at hj
   subst hj
   exact ⟨r, by simp only; rw [List.getElem?_append_right (by omega), show j - m.goals.length = 0 by omega]; rfl, hr⟩
 ·obtain ⟨θ', a1, a2⟩ := h.fwd θ σ ho
  exact ⟨θ', a1, a2.mod, a2.var, by simp, by simp⟩
 ·exact h.bwd θ σ ⟨hs.mod, hs.var, by simp, by simp⟩
theorem act_last {i : In} (hi : i.op = 13) (h : Inv m0 Ts N s [] [] known done k m) : Deed m0 Ts N m i fun m' => Inv m0 Ts N (s.emit i) [] [] known done k m' := by
 refine ⟨⟨h.mok, by omega, fun h => by omega, fun h => by omega, fun h => by omega, fun h => by omega, fun h => by omega, fun h => by omega, fun h => by omega⟩, ?_⟩
 have : stepF m i = .ok m := by
  unfold stepF
  rw [if_neg (by omega), if_neg (by omega), if_neg (by omega), if_neg (by omega), if_neg (by omega), if_neg (by omega), if_neg (by omega), if_neg (by omega), if_neg (by omega), if_neg (by omega), if_neg (by omega)]
 rw [this]
 exact ⟨h.sok.emit _, h.len, h.mok, h.pn, h.r, h.room, h.hst, h.go, fun θ σ ho => by
  obtain ⟨θ', a1, a2⟩ := h.fwd θ σ ho
  exact ⟨θ', a1, a2.mod, a2.var, by simp, by simp⟩, fun θ σ hs => h.bwd θ σ ⟨hs.mod, hs.var, by simp, by simp⟩⟩
end
end Go.Proofs.YtgipiplklaeplaaDoor
