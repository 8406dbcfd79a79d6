/- Texts of this proof that belong together: words of memory, plain laws, walks. -/
import Derived.Test.YtgipiplklaeplaaDoorB25
set_option linter.unusedVariables false
set_option linter.unusedSimpArgs false
namespace Go.Proofs.YtgipiplklaeplaaDoor
open Go.RowKit
theorem var_snoc {P : Int → Int → Prop} {vs rs : List Int} (hl : rs.length = vs.length) (v r : Int) :
  (∀ (j : Nat) (v' r' : Int), (vs ++ [v])[j]? = some v' → (rs ++ [r])[j]? = some r' → P v' r') ↔ (∀ (j : Nat) (v' r' : Int), vs[j]? = some v' → rs[j]? = some r' → P v' r') ∧ P v r := by
 constructor
 ·intro h
  refine ⟨fun j v' r' hv hr => h j v' r' ?_ ?_, h vs.length v r (by simp) (by rw [← hl]; simp)⟩
  ·rw [List.getElem?_append_left (List.getElem?_eq_some_iff.1 hv).1]; exact hv
  ·rw [List.getElem?_append_left (List.getElem?_eq_some_iff.1 hr).1]; exact hr
 ·rintro ⟨h1, h2⟩ j v' r' hv hr
  rcases Nat.lt_or_ge j vs.length with hj | hj
  ·rw [List.getElem?_append_left hj] at hv
   rw [List.getElem?_append_left (by omega)] at hr
   exact h1 j v' r' hv hr
  ·rw [List.getElem?_append_right hj] at hv
   rw [List.getElem?_append_right (by omega)] at hr
   have h3 : j - vs.length = 0 := by
    rcases Nat.eq_zero_or_pos (j - vs.length) with h | h
    ·exact h
    ·rw [List.getElem?_eq_none (by simp; omega)] at hv; cases hv
   rw [h3] at hv
   rw [hl, h3] at hr
   simp at hv hr
   subst hv hr
   exact h2
theorem pend_cons {θ : Nat → Tm} {σ : Int → Tm} {n : Nat} {t : Tm} {ts : List Tm} : (∀ (j : Nat) (u : Tm), (t :: ts)[j]? = some u → θ (n + j) = u.sub σ) ↔ θ n = t.sub σ ∧ ∀ (j : Nat) (u : Tm), ts[j]? = some u → θ (n + 1 + j) = u.sub σ := by
 constructor
 ·intro h
  exact ⟨h 0 t rfl, fun j u hj => by have := h (j + 1) u (by simpa using hj); rwa [show n + (j + 1) = n + 1 + j by omega] at this⟩
 ·rintro ⟨h1, h2⟩ j u hj
  cases j with
  | zero => simp at hj; subst hj; exact h1
  | succ j => have := h2 j u (by simpa using hj); rwa [show n + (j + 1) = n + 1 + j by omega]
theorem row_cons {θ : Nat → Tm} {σ : Int → Tm} {m : Mc} {p : Tm × Int} {row : List (Tm × Int)} : (∀ q ∈ p :: row, θ (m.reg q.2).toNat = q.1.sub σ) ↔ θ (m.reg p.2).toNat = p.1.sub σ ∧ ∀ q ∈ row, θ (m.reg q.2).toNat = q.1.sub σ := by simp
section
variable {m0 : Mc} {Ts : List Tm} {N k : Nat} {s : St} {row row' : List (Tm × Int)} {pend pend' : List Tm} {known : List (Tm × Int)} {done : List Ltl} {m : Mc}
abbrev rowQ (m : Mc) (row : List (Tm × Int)) (θ : Nat → Tm) (σ : Int → Tm) : Prop := ∀ q ∈ row, θ (m.reg q.2).toNat = q.1.sub σ
abbrev pendQ (nx : Int) (pend : List Tm) (θ : Nat → Tm) (σ : Int → Tm) : Prop := ∀ (j : Nat) (u : Tm), pend[j]? = some u → θ (nx.toNat + j) = u.sub σ
theorem Sat.cong {m' : Mc} {x : List Int} (h : Inv m0 Ts N s row pend known done k m) (hrr : ∀ q ∈ row', 0 ≤ q.2 ∧ q.2 < (s.next : Int)) (hx : m'.regs = m.regs ++ x) {θ : Nat → Tm} {σ : Int → Tm} : rowQ m' row' θ σ ↔ rowQ m row' θ σ :=
 ⟨fun h' q hq => by have := hrr q hq; rw [← reg_old hx this.1 (by rw [h.len]; exact this.2)]; exact h' q hq,
  fun h' q hq => by have := hrr q hq; rw [reg_old hx this.1 (by rw [h.len]; exact this.2)]; exact h' q hq⟩
theorem var_cong {m' : Mc} {x : List Int} (h : Inv m0 Ts N s row pend known done k m) (hx : m'.regs = m.regs ++ x) {θ : Nat → Tm} {σ : Int → Tm} :
  (∀ (j : Nat) (v r : Int), s.vars[j]? = some v → s.regs[j]? = some r → θ (m'.reg r).toNat = σ v) ↔ ∀ (j : Nat) (v r : Int), s.vars[j]? = some v → s.regs[j]? = some r → θ (m.reg r).toNat = σ v := by
 have e : ∀ (j : Nat) (r : Int), s.regs[j]? = some r → m'.reg r = m.reg r := fun j r hr => by
  have := h.sok.vr r (List.mem_of_getElem? hr)
  exact reg_old hx this.1 (by rw [h.len]; exact this.2)
 exact ⟨fun h' j v r hv hr => by rw [← e j r hr]; exact h' j v r hv hr, fun h' j v r hv hr => by rw [e j r hr]; exact h' j v r hv hr⟩
theorem McOk.setR {m : Mc} (h : McOk m) {p nx : Int} (hp : 0 ≤ p ∧ p < (m.l.length : Int)) (hn : 0 ≤ nx ∧ nx ≤ (m.l.length : Int)) : McOk ({ m with next := nx }.set p) :=
 ⟨h.ok, fun x hx => by
  simp only [Mc.set, List.mem_append, List.mem_singleton] at hx
  rcases hx with hx | rfl
  ·exact h.pl x hx
  ·exact hp, hn⟩
theorem Inv.newv (h : Inv m0 Ts N s row pend known done k m) (v p nx : Int) (i : In) (hvn : v ∉ s.vars) (hp : 0 ≤ p ∧ p < (m.l.length : Int)) (hn : 0 ≤ nx ∧ nx + pend'.length ≤ (m.l.length : Int)) (hs : StOk s row' known)
  (e : ∀ θ σ, (rowQ m row θ σ ∧ pendQ m.next pend θ σ) ↔ (θ p.toNat = σ v ∧ rowQ m row' θ σ ∧ pendQ nx pend' θ σ)) : Inv m0 Ts N ((s.bump.addv v s.next).emit i) row' pend' known done k ({ m with next := nx }.set p) := by
 have hx : ({ m with next := nx }.set p).regs = m.regs ++ [p] := rfl
 have hnew : ({ m with next := nx }.set p).reg (s.next : Int) = p := reg_new hx (by rw [h.len])
 refine h.go_ [p] hx rfl ((hs.addv hvn).emit i) (by simp [Mc.set, St.emit, St.addv, St.bump, h.len]) (h.mok.setR hp (by omega)) hn.2 rfl (Nat.le_refl _) (fun d hd => ⟨d, hd⟩) (fun q hq => hq) (fun θ σ hs' => ⟨θ, Agr.refl _ _, ?_⟩) (fun θ σ hs' => ?_) (fun _ _ _ q hq => .inl hq)
 ·obtain ⟨e1, e2, e3⟩ := (e θ σ).1 ⟨hs'.row, hs'.pend⟩
  exact ⟨hs'.mod, (var_snoc h.sok.vl v s.next).2 ⟨(var_cong h hx).2 hs'.var, by rw [hnew]; exact e1⟩, (Sat.cong h hs.rr hx).2 e2, e3⟩
 ·have hv9 : ∀ (j : Nat) (v' r' : Int), (s.vars ++ [v])[j]? = some v' → (s.regs ++ [(s.next : Int)])[j]? = some r' → θ (({ m with next := nx }.set p).reg r').toNat = σ v' := hs'.var
  obtain ⟨v1, v2⟩ := (var_snoc (P := fun v' r' => θ (({ m with next := nx }.set p).reg r').toNat = σ v') h.sok.vl v s.next).1 hv9
  rw [hnew] at v2
  obtain ⟨e1, e2⟩ := (e θ σ).2 ⟨v2, (Sat.cong h hs.rr hx).1 hs'.row, hs'.pend⟩
  exact ⟨hs'.mod, (var_cong h hx).1 v1, e1, e2⟩
theorem Inv.newr (h : Inv m0 Ts N s row pend known done k m) (t : Tm) (p nx : Int) (i : In) (hp : 0 ≤ p ∧ p < (m.l.length : Int)) (hn : 0 ≤ nx ∧ nx + pend'.length ≤ (m.l.length : Int))
  (e : ∀ θ σ, pendQ m.next pend θ σ ↔ (θ p.toNat = t.sub σ ∧ pendQ nx pend' θ σ)) : Inv m0 Ts N (s.emit i).bump (row ++ [(t, (s.next : Int))]) pend' known done k ({ m with next := nx }.set p) := by
 have hx : ({ m with next := nx }.set p).regs = m.regs ++ [p] := rfl
 have hnew : ({ m with next := nx }.set p).reg (s.next : Int) = p := reg_new hx (by rw [h.len])
 refine h.go_ [p] hx rfl ?_ (by simp [Mc.set, St.emit, St.bump, h.len]) (h.mok.setR hp (by omega)) hn.2 rfl (Nat.le_refl _) (fun d hd => ⟨d, hd⟩) (fun q hq => hq) (fun θ σ hs' => ⟨θ, Agr.refl _ _, ?_⟩) (fun θ σ hs' => ?_) (fun _ _ _ q hq => .inl hq)
 ·exact (h.sok.emit i).bump.snoc (by omega) (by simp [St.emit, St.bump]; omega)
 ·obtain ⟨e1, e2⟩ := (e θ σ).1 hs'.pend
  refine ⟨hs'.mod, (var_cong h hx).2 hs'.var, fun q hq => ?_, e2⟩
  rcases List.mem_append.1 hq with hq | hq
  ·exact (Sat.cong h h.sok.rr hx).2 hs'.row q hq
  ·simp at hq; subst hq; simp only; rw [hnew]; exact e1
 ·refine ⟨hs'.mod, (var_cong h hx).1 hs'.var, (Sat.cong h h.sok.rr hx).1 (fun q hq => hs'.row q (by simp [hq])), (e θ σ).2 ⟨?_, hs'.pend⟩⟩
  have := hs'.row (t, (s.next : Int)) (by simp)
  simp only at this
  rwa [hnew] at this
theorem fitR (h : Inv m0 Ts N s row pend known done k m) {r : Int} (h0 : 0 ≤ r ∧ r < (s.next : Int)) : 0 ≤ r ∧ r < (m.regs.length : Int) := by rw [h.len]; exact h0
theorem Inv.next1 (h : Inv m0 Ts N s row pend known done k m) : (m.next + 1).toNat = m.next.toNat + 1 := by have := h.mok.nx.1; omega
theorem act_getVar (v a : Int) (hvn : v ∉ s.vars) (h : Inv m0 Ts N s ((.v v, a) :: row) [] known done k m) : Deed m0 Ts N m { op := 1, x := (s.next : Int), a := a } fun m' => Inv m0 Ts N ((s.bump.addv v s.next).emit { op := 1, x := (s.next : Int), a := a }) row [] known done k m' := by
 have ha := fitR h (h.sok.rr (.v v, a) (by simp))
 refine ⟨⟨h.mok, by simp, fun _ => ha, fun h => by simp at h, fun _ => by simp [h.len], fun h => by simp at h, fun h => by simp at h, fun h => by simp at h, fun h => by simp at h⟩, ?_⟩
 exact h.newv v (m.reg a) m.next _ hvn (h.mok.reg ha.1 ha.2) ⟨h.mok.nx.1, h.pn⟩ h.sok.tail (fun θ σ => by
  unfold rowQ
  rw [row_cons]
  simp only [Tm.sub, and_assoc])
theorem act_uniVar (v : Int) {op : Int} (ho : op = 5 ∨ op = 9) (hvn : v ∉ s.vars) (h : Inv m0 Ts N s row (.v v :: pend) known done k m) : Deed m0 Ts N m { op := op, x := (s.next : Int) } fun m' => Inv m0 Ts N ((s.bump.addv v s.next).emit { op := op, x := (s.next : Int) }) row pend known done k m' := by
 have hpn := h.pn
 have hnx := h.mok.nx
 simp only [List.length_cons] at hpn
 have hst : stepF m { op := op, x := (s.next : Int) } = .ok ({ m with next := m.next + 1 }.set m.next) := by
  unfold stepF
  rcases ho with rfl | rfl <;> rfl
 refine ⟨⟨h.mok, by simp only; omega, fun h => by simp only at h; omega, fun h => by simp only at h; omega, fun _ => by simp [h.len], fun h => by simp only at h; omega, fun _ => by omega, fun h => by simp only at h; omega, fun h => by simp only at h; omega⟩, ?_⟩
 rw [hst]
 exact h.newv v m.next (m.next + 1) _ hvn (by omega) (by omega) h.sok (fun θ σ => by
  unfold pendQ
  rw [pend_cons, h.next1]
  simp only [Tm.sub]
  exact and_left_comm)
theorem act_uniFun (t : Tm) (h : Inv m0 Ts N s row (t :: pend) known done k m) : Deed m0 Ts N m { op := 5, x := (s.next : Int) } fun m' => Inv m0 Ts N (s.emit { op := 5, x := (s.next : Int) }).bump (row ++ [(t, (s.next : Int))]) pend known done k m' := by
 have hpn := h.pn
 have hnx := h.mok.nx
 simp only [List.length_cons] at hpn
 refine ⟨⟨h.mok, by simp, fun h => by simp at h, fun h => by simp at h, fun _ => by simp [h.len], fun h => by simp at h, fun _ => by omega, fun h => by simp at h, fun h => by simp at h⟩, ?_⟩
 exact h.newr t m.next (m.next + 1) _ (by omega) (by omega) (fun θ σ => by
  unfold pendQ
  rw [pend_cons, h.next1])
theorem no_ori (h : Inv m0 Ts N s row pend known done k m) (hn : ∀ θ σ, Sat m s row pend θ σ → False) : ∀ θ σ, ¬ Ori m0 Ts θ σ := fun θ σ ho => by
 obtain ⟨θ', _, hs⟩ := h.fwd θ σ ho
 exact hn θ' σ hs
theorem no_room (h : Inv m0 Ts N s row pend known done k m) {n : Nat} (hk : n ≤ k) (hr : m.r < ((m.l.length + n : Nat) : Int)) : m0.r < (N : Int) := by
 have h1 := h.room
 have h2 := h.r
 omega
theorem act_getVal {j : Nat} {v a r : Int} (hv : s.vars[j]? = some v) (hr : s.regs[j]? = some r) (h : Inv m0 Ts N s ((.v v, a) :: row) [] known done k m) : Deed m0 Ts N m { op := 2, x := r, a := a } fun m' => Inv m0 Ts N (s.emit { op := 2, x := r, a := a }) row [] known done k m' := by
 have ha := fitR h (h.sok.rr (.v v, a) (by simp))
 have hrr := fitR h (h.sok.vr r (List.mem_of_getElem? hr))
 refine ⟨⟨h.mok, by simp, fun _ => ha, fun _ => hrr, fun h => by simp at h, fun h => by simp at h, fun h => by simp at h, fun h => by simp at h, fun h => by simp at h⟩, ?_⟩
 show match m.unify (m.reg r) (m.reg a) with | .ok m' => _ | .err e => _
 have hc := unify_core h.mok (h.mok.reg hrr.1 hrr.2) (h.mok.reg ha.1 ha.2)
 cases hu : m.unify (m.reg r) (m.reg a) with
 | err e =>
  rw [hu] at hc
  refine .inl ⟨hc.1, no_ori h fun θ σ hs => ?_⟩
  have h1 := hs.var j v r hv hr
  have h2 := hs.row (.v v, a) (by simp)
  exact hc.2 θ hs.mod (h1.trans h2.symm)
 | ok m' =>
  rw [hu] at hc
  obtain ⟨⟨k1, k2, k3, k4, k5, d', k6⟩, c1, c2, c3, c4⟩ := hc
  have hx : m'.regs = m.regs ++ [] := by rw [k2, List.append_nil]
  have hp := h.pn
  refine h.go_ [] hx k3 (h.sok.tail.emit _) (by rw [k2]; exact h.len) k1 (by rw [c1, c2]; exact hp) k4 (by omega) (fun d hd => ⟨_, hd.trans k6⟩) (fun q hq => hq) (fun θ σ hs' => ⟨θ, Agr.refl _ _, ?_⟩) (fun θ σ hs' => ?_) (fun _ _ _ q hq => .inl hq)
  ·have h1 := hs'.var j v r hv hr
   have h2 := hs'.row (.v v, a) (by simp)
   exact ⟨c3 θ hs'.mod (h1.trans h2.symm), (var_cong h hx).2 hs'.var, (Sat.cong h h.sok.tail.rr hx).2 (row_cons.1 hs'.row).2, by simp⟩
  ·obtain ⟨d1, d2⟩ := c4 θ hs'.mod
   have hv' := (var_cong h hx).1 hs'.var
   exact ⟨d1, hv', row_cons.2 ⟨by simp only [Tm.sub]; rw [← d2]; exact hv' j v r hv hr, (Sat.cong h h.sok.tail.rr hx).1 hs'.row⟩, by simp⟩
theorem act_uniVal {j : Nat} {v r : Int} (hv : s.vars[j]? = some v) (hr : s.regs[j]? = some r) (h : Inv m0 Ts N s row (.v v :: pend) known done k m) : Deed m0 Ts N m { op := 6, x := r } fun m' => Inv m0 Ts N (s.emit { op := 6, x := r }) row pend known done k m' := by
 have hrr := fitR h (h.sok.vr r (List.mem_of_getElem? hr))
 have hpn := h.pn
 have hnx := h.mok.nx
 simp only [List.length_cons] at hpn
 refine ⟨⟨h.mok, by simp, fun h => by simp at h, fun _ => hrr, fun h => by simp at h, fun h => by simp at h, fun _ => by omega, fun h => by simp at h, fun h => by simp at h⟩, ?_⟩
 show match m.pass.unify m.next (m.reg r) with | .ok m' => _ | .err e => _
 have hmp : McOk m.pass := ⟨h.mok.ok, h.mok.pl, by simp only [Mc.pass]; omega⟩
 have hc := unify_core hmp (a := m.next) (b := m.reg r) ⟨hnx.1, by simp only [Mc.pass]; omega⟩ (h.mok.reg hrr.1 hrr.2)
 cases hu : m.pass.unify m.next (m.reg r) with
 | err e =>
  rw [hu] at hc
  refine .inl ⟨hc.1, no_ori h fun θ σ hs => ?_⟩
  have h1 := hs.var j v r hv hr
  have h2 := (pend_cons.1 hs.pend).1
  exact hc.2 θ hs.mod (h2.trans h1.symm)
 | ok m' =>
  rw [hu] at hc
  obtain ⟨⟨k1, k2, k3, k4, k5, d', k6⟩, c1, c2, c3, c4⟩ := hc
  have hx : m'.regs = m.regs ++ [] := by rw [k2, List.append_nil]; rfl
  have hc1 : m'.next = m.next + 1 := c1
  have hc2 : m'.l.length = m.l.length := c2
  refine h.go_ [] hx k3 (h.sok.emit _) (by rw [k2]; exact h.len) k1 (by rw [hc1, hc2]; omega) k4 (by omega) (fun d hd => ⟨_, hd.trans k6⟩) (fun q hq => hq) (fun θ σ hs' => ⟨θ, Agr.refl _ _, ?_⟩) (fun θ σ hs' => ?_) (fun _ _ _ q hq => .inl hq)
  ·have h1 := hs'.var j v r hv hr
   obtain ⟨h2, h3⟩ := pend_cons.1 hs'.pend
   exact ⟨c3 θ hs'.mod (h2.trans h1.symm), (var_cong h hx).2 hs'.var, (Sat.cong h h.sok.rr hx).2 hs'.row, by rw [hc1, h.next1]; exact h3⟩
  ·obtain ⟨d1, d2⟩ := c4 θ hs'.mod
   have hv' := (var_cong h hx).1 hs'.var
   have hp := hs'.pend
   rw [hc1, h.next1] at hp
   exact ⟨d1, hv', (Sat.cong h h.sok.rr hx).1 hs'.row, pend_cons.2 ⟨by simp only [Tm.sub]; rw [d2]; exact hv' j v r hv hr, hp⟩⟩
theorem act_getInt (n a : Int) (hb : -2147483647 ≤ n ∧ n ≤ 2147483647) (h : Inv m0 Ts N s ((.i n, a) :: row) [] known done (k + 1) m) : Deed m0 Ts N m { op := 3, a := a, n := n } fun m' => Inv m0 Ts N (s.emit { op := 3, a := a, n := n }) row [] known done k m' := by
 have ha := fitR h (h.sok.rr (.i n, a) (by simp))
 refine ⟨⟨h.mok, by simp, fun _ => ha, fun h => by simp at h, fun h => by simp at h, fun h => by simp at h, fun h => by simp at h, fun _ => hb, fun h => by simp at h⟩, ?_⟩
 show match m.number (m.reg a) n with | .ok m' => _ | .err e => _
 have hc := number_core h.mok (h.mok.reg ha.1 ha.2) hb
 cases hu : m.number (m.reg a) n with
 | err e =>
  rw [hu] at hc
  rcases hc with ⟨c1, c2⟩ | ⟨c1, c2⟩
  ·exact .inl ⟨c1, no_ori h fun θ σ hs => c2 θ hs.mod (hs.row (.i n, a) (by simp))⟩
  ·exact .inr ⟨c1, no_room h (by omega) c2⟩
 | ok m' =>
  rw [hu] at hc
  obtain ⟨⟨k1, k2, k3, k4, k5, d', k6⟩, c1, c2, c3, c4⟩ := hc
  have hx : m'.regs = m.regs ++ [] := by rw [k2, List.append_nil]
  have hp := h.mok.nx
  refine h.go_ [] hx k3 (h.sok.tail.emit _) (by rw [k2]; exact h.len) k1 (by rw [c1]; simp; omega) k4 (by omega) (fun d hd => ⟨_, hd.trans k6⟩) (fun q hq => hq) (fun θ σ hs' => ?_) (fun θ σ hs' => ?_) (fun _ _ _ q hq => .inl hq)
  ·obtain ⟨θ', a1, a2⟩ := c3 θ hs'.mod (hs'.row (.i n, a) (by simp))
   obtain ⟨m1, m2⟩ := h.var_move hs' a1 hx
   exact ⟨θ', a1, a2, m1, (row_cons.1 m2).2, by simp⟩
  ·obtain ⟨d1, d2⟩ := c4 θ hs'.mod
   exact ⟨d1, (var_cong h hx).1 hs'.var, row_cons.2 ⟨d2, (Sat.cong h h.sok.tail.rr hx).1 hs'.row⟩, by simp⟩
theorem act_uniInt (n : Int) (hb : -2147483647 ≤ n ∧ n ≤ 2147483647) (h : Inv m0 Ts N s row (.i n :: pend) known done (k + 1) m) : Deed m0 Ts N m { op := 7, n := n } fun m' => Inv m0 Ts N (s.emit { op := 7, n := n }) row pend known done k m' := by
 have hpn := h.pn
 have hnx := h.mok.nx
 simp only [List.length_cons] at hpn
 refine ⟨⟨h.mok, by simp, fun h => by simp at h, fun h => by simp at h, fun h => by simp at h, fun h => by simp at h, fun _ => by omega, fun _ => hb, fun h => by simp at h⟩, ?_⟩
 show match m.pass.number m.next n with | .ok m' => _ | .err e => _
 have hmp : McOk m.pass := ⟨h.mok.ok, h.mok.pl, by simp only [Mc.pass]; omega⟩
 have hc := number_core hmp (a := m.next) ⟨hnx.1, by simp only [Mc.pass]; omega⟩ hb
 cases hu : m.pass.number m.next n with
 | err e =>
  rw [hu] at hc
  rcases hc with ⟨c1, c2⟩ | ⟨c1, c2⟩
  ·exact .inl ⟨c1, no_ori h fun θ σ hs => c2 θ hs.mod (pend_cons.1 hs.pend).1⟩
  ·exact .inr ⟨c1, no_room h (by omega) c2⟩
 | ok m' =>
  rw [hu] at hc
  obtain ⟨⟨k1, k2, k3, k4, k5, d', k6⟩, c1, c2, c3, c4⟩ := hc
  have hx : m'.regs = m.regs ++ [] := by rw [k2, List.append_nil]; rfl
  have hc1 : m'.next = m.next + 1 := c1
  have hc2 : m'.l.length ≤ m.l.length + 1 := c2
  have hc5 : m.l.length ≤ m'.l.length := k5
  refine h.go_ [] hx k3 (h.sok.emit _) (by rw [k2]; exact h.len) k1 (by rw [hc1]; omega) k4 (by omega) (fun d hd => ⟨_, hd.trans k6⟩) (fun q hq => hq) (fun θ σ hs' => ?_) (fun θ σ hs' => ?_) (fun _ _ _ q hq => .inl hq)
  ·obtain ⟨h2, h3⟩ := pend_cons.1 hs'.pend
   obtain ⟨θ', a1, a2⟩ := c3 θ hs'.mod h2
   obtain ⟨m1, m2⟩ := h.var_move hs' a1 hx
   refine ⟨θ', a1, a2, m1, m2, fun j u hj => ?_⟩
   have hjl : j < pend.length := (List.getElem?_eq_some_iff.1 hj).1
   rw [hc1, h.next1, a1 _ (by show m.next.toNat + 1 + j < m.l.length; omega)]
   exact h3 j u hj
  ·obtain ⟨d1, d2⟩ := c4 θ hs'.mod
   have hp := hs'.pend
   rw [hc1, h.next1] at hp
   exact ⟨d1, (var_cong h hx).1 hs'.var, (Sat.cong h h.sok.rr hx).1 hs'.row, pend_cons.2 ⟨d2, hp⟩⟩
theorem subs_get {σ : Int → Tm} {us : List Tm} {j : Nat} {u : Tm} (h : us[j]? = some u) : (subs σ us)[j]? = some (u.sub σ) := by rw [subs_map, List.getElem?_map, h]; rfl
theorem act_getFun (nm : ByteArray) (us : List Tm) (a : Int) (hs : okName nm = true) (hl : us.length ≤ 6) (h : Inv m0 Ts N s ((.f nm us, a) :: row) [] known done (k + (us.length + 1)) m) :
  Deed m0 Ts N m { op := 4, a := a, name := nm, n := us.length } fun m' => Inv m0 Ts N (s.emit { op := 4, a := a, name := nm, n := us.length }) row us known done k m' := by
 have ha := fitR h (h.sok.rr (.f nm us, a) (by simp))
 refine ⟨⟨h.mok, by simp, fun _ => ha, fun h => by simp at h, fun h => by simp at h, fun h => by simp at h, fun h => by simp at h, fun h => by simp at h, fun _ => ⟨hs, by simp only; omega, by simp only; omega⟩⟩, ?_⟩
 show match m.fun_ (m.reg a) nm ((us.length : Nat) : Int).toNat with | .ok m' => _ | .err e => _
 rw [Int.toNat_natCast]
 have hc := fun_core h.mok (h.mok.reg ha.1 ha.2) hs hl
 have hsl : ∀ σ, (subs σ us).length = us.length := fun σ => by rw [subs_map]; simp
 cases hu : m.fun_ (m.reg a) nm us.length with
 | err e =>
  rw [hu] at hc
  rcases hc with ⟨c1, c2⟩ | ⟨c1, c2⟩
  ·exact .inl ⟨c1, no_ori h fun θ σ hs' => c2 θ (subs σ us) (hsl σ) hs'.mod (hs'.row (.f nm us, a) (by simp))⟩
  ·exact .inr ⟨c1, no_room h (by omega) c2⟩
 | ok m' =>
  rw [hu] at hc
  obtain ⟨⟨k1, k2, k3, k4, k5, d', k6⟩, c1, c2, c3, c4⟩ := hc
  have hx : m'.regs = m.regs ++ [] := by rw [k2, List.append_nil]
  refine h.go_ [] hx k3 (h.sok.tail.emit _) (by rw [k2]; exact h.len) k1 c1 k4 (by omega) (fun d hd => ⟨_, hd.trans k6⟩) (fun q hq => hq) (fun θ σ hs' => ?_) (fun θ σ hs' => ?_) (fun _ _ _ q hq => .inl hq)
  ·obtain ⟨θ', a1, a2, a3⟩ := c3 θ (subs σ us) (hsl σ) hs'.mod (hs'.row (.f nm us, a) (by simp))
   obtain ⟨m1, m2⟩ := h.var_move hs' a1 hx
   exact ⟨θ', a1, a2, m1, (row_cons.1 m2).2, fun j u hj => a3 j _ (subs_get hj)⟩
  ·obtain ⟨d1, d2⟩ := c4 θ hs'.mod
   refine ⟨d1, (var_cong h hx).1 hs'.var, row_cons.2 ⟨?_, (Sat.cong h h.sok.tail.rr hx).1 hs'.row⟩, by simp⟩
   simp only [Tm.sub]
   rw [d2]
   congr 1
   apply List.ext_getElem?
   intro j
   rw [List.getElem?_map, subs_map, List.getElem?_map]
   by_cases hj : j < us.length
   ·rw [List.getElem?_range hj, List.getElem?_eq_getElem hj, Option.map_some, Option.map_some, hs'.pend j _ (List.getElem?_eq_getElem hj)]
   ·rw [List.getElem?_eq_none (by simpa using hj), List.getElem?_eq_none (by omega)]; rfl
end
end Go.Proofs.YtgipiplklaeplaaDoor
