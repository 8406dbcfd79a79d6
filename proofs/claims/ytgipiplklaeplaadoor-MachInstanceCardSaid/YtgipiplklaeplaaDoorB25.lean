/- Texts of this proof that belong together: words of memory, plain laws, walks. -/
import Derived.StillTailTactics
import Derived.Test.YtgipiplklaeplaaDoorB24
set_option linter.unusedVariables false
set_option linter.unusedSimpArgs false
namespace Go.Proofs.YtgipiplklaeplaaDoor
open Go.RowKit
theorem reg_old {m m' : Mc} {x : List Int} (h : m'.regs = m.regs ++ x) {r : Int} (h0 : 0 ≤ r) (h1 : r < (m.regs.length : Int)) : m'.reg r = m.reg r := by
 unfold Mc.reg
 rw [h, List.getElem?_append_left (by omega)]
theorem reg_new {m m' : Mc} {p : Int} (h : m'.regs = m.regs ++ [p]) {r : Int} (hr : r = (m.regs.length : Int)) : m'.reg r = p := by
 unfold Mc.reg
 rw [h, hr, Int.toNat_natCast, List.getElem?_append_right (Nat.le_refl _)]
 simp
theorem McOk.reg {m : Mc} (h : McOk m) {r : Int} (h0 : 0 ≤ r) (h1 : r < (m.regs.length : Int)) : 0 ≤ m.reg r ∧ m.reg r < (m.l.length : Int) := by
 have hlt : r.toNat < m.regs.length := by omega
 have : m.reg r ∈ m.regs := by
  unfold Mc.reg
  rw [List.getElem?_eq_getElem hlt]
  exact List.getElem_mem hlt
 exact h.pl _ this
structure Ori (m0 : Mc) (Ts : List Tm) (θ : Nat → Tm) (σ : Int → Tm) : Prop where
 mod : Mod m0.l θ
 arg : ∀ (j : Nat) (T : Tm), Ts[j]? = some T → θ (m0.reg j).toNat = T.sub σ
structure Sat (m : Mc) (s : St) (row : List (Tm × Int)) (pend : List Tm) (θ : Nat → Tm) (σ : Int → Tm) : Prop where
 mod : Mod m.l θ
 var : ∀ (j : Nat) (v r : Int), s.vars[j]? = some v → s.regs[j]? = some r → θ (m.reg r).toNat = σ v
 row : ∀ q ∈ row, θ (m.reg q.2).toNat = q.1.sub σ
 pend : ∀ (j : Nat) (u : Tm), pend[j]? = some u → θ (m.next.toNat + j) = u.sub σ
structure StOk (s : St) (row known : List (Tm × Int)) : Prop where
 nd : s.vars.Nodup
 vl : s.regs.length = s.vars.length
 vr : ∀ r ∈ s.regs, 0 ≤ r ∧ r < (s.next : Int)
 rr : ∀ q ∈ row, 0 ≤ q.2 ∧ q.2 < (s.next : Int)
 kr : ∀ q ∈ known, 0 ≤ q.2 ∧ q.2 < (s.next : Int)
def Gl (m : Mc) (known : List (Tm × Int)) (done : List Ltl) : Prop := m.goals.length = done.length ∧ ∀ (j : Nat) (l : Ltl), done[j]? = some l → ∃ r : Int, m.goals[j]? = some (l.neg, m.reg r) ∧ (l.t, r) ∈ known
structure Inv (m0 : Mc) (Ts : List Tm) (N : Nat) (s : St) (row : List (Tm × Int)) (pend : List Tm) (known : List (Tm × Int)) (done : List Ltl) (k : Nat) (m : Mc) : Prop where
 sok : StOk s row known
 len : m.regs.length = s.next
 mok : McOk m
 pn : m.next + pend.length ≤ (m.l.length : Int)
 r : m.r = m0.r
 room : m.l.length + k ≤ N
 hst : ∃ d, Hst m0.l m0.tr m.l m.tr d
 go : Gl m known done
 fwd : ∀ θ σ, Ori m0 Ts θ σ → ∃ θ', Agr m0.l.length θ' θ ∧ Sat m s row pend θ' σ
 bwd : ∀ θ σ, Sat m s row pend θ σ → Ori m0 Ts θ σ ∧ ∀ q ∈ known, θ (m.reg q.2).toNat = q.1.sub σ
section
variable {m0 : Mc} {Ts : List Tm} {N k k' : Nat} {s s' : St} {row row' : List (Tm × Int)} {pend pend' : List Tm} {known known' : List (Tm × Int)} {done : List Ltl} {m m' : Mc}
theorem Inv.go_ (h : Inv m0 Ts N s row pend known done k m) (x : List Int) (hx : m'.regs = m.regs ++ x) (hg : m'.goals = m.goals) (sok : StOk s' row' known') (len : m'.regs.length = s'.next) (mok : McOk m')
  (pn : m'.next + pend'.length ≤ (m'.l.length : Int)) (hr : m'.r = m.r) (room : m'.l.length + k' ≤ m.l.length + k) (hst : ∀ d, Hst m0.l m0.tr m.l m.tr d → ∃ d', Hst m0.l m0.tr m'.l m'.tr d') (kn : ∀ q ∈ known, q ∈ known')
  (f : ∀ θ σ, Sat m s row pend θ σ → ∃ θ', Agr m.l.length θ' θ ∧ Sat m' s' row' pend' θ' σ) (b : ∀ θ σ, Sat m' s' row' pend' θ σ → Sat m s row pend θ σ)
  (kb : ∀ θ σ, Sat m' s' row' pend' θ σ → ∀ q ∈ known', q ∈ known ∨ θ (m'.reg q.2).toNat = q.1.sub σ) : Inv m0 Ts N s' row' pend' known' done k' m' := by
 obtain ⟨d, hd⟩ := h.hst
 have hle := hd.le
 refine ⟨sok, len, mok, pn, hr.trans h.r, by have := h.room; omega, hst d hd, ?_, fun θ σ ho => ?_, fun θ σ hs => ?_⟩
 ·obtain ⟨g1, g2⟩ := h.go
  refine ⟨by rw [hg]; exact g1, fun j l hj => ?_⟩
  obtain ⟨r, e1, e2⟩ := g2 j l hj
  have hkr := h.sok.kr _ e2
  exact ⟨r, by rw [hg, e1, reg_old hx hkr.1 (by rw [h.len]; exact hkr.2)], kn _ e2⟩
 ·obtain ⟨θ1, a1, s1⟩ := h.fwd θ σ ho
  obtain ⟨θ2, a2, s2⟩ := f θ1 σ s1
  exact ⟨θ2, a2.trans a1 hle, s2⟩
 ·obtain ⟨o1, o2⟩ := h.bwd θ σ (b θ σ hs)
  refine ⟨o1, fun q hq => ?_⟩
  rcases kb θ σ hs q hq with hq' | hq'
  ·have hkr := h.sok.kr _ hq'
   rw [reg_old hx hkr.1 (by rw [h.len]; exact hkr.2)]
   exact o2 q hq'
  ·exact hq'
theorem Inv.var_move (h : Inv m0 Ts N s row pend known done k m) {θ θ' : Nat → Tm} {σ : Int → Tm} (hs : Sat m s row pend θ σ) (ha : Agr m.l.length θ' θ) {x : List Int} (hx : m'.regs = m.regs ++ x) :
  (∀ (j : Nat) (v r : Int), s.vars[j]? = some v → s.regs[j]? = some r → θ' (m'.reg r).toNat = σ v) ∧ (∀ q ∈ row, θ' (m'.reg q.2).toNat = q.1.sub σ) := by
 refine ⟨fun j v r hv hr => ?_, fun q hq => ?_⟩
 ·have h1 := h.sok.vr r (List.mem_of_getElem? hr)
  have h2 : r < (m.regs.length : Int) := by rw [h.len]; exact h1.2
  have h3 := h.mok.reg h1.1 h2
  rw [reg_old hx h1.1 h2, ha _ (by omega)]
  exact hs.var j v r hv hr
 ·have h1 := h.sok.rr q hq
  have h2 : q.2 < (m.regs.length : Int) := by rw [h.len]; exact h1.2
  have h3 := h.mok.reg h1.1 h2
  rw [reg_old hx h1.1 h2, ha _ (by omega)]
  exact hs.row q hq
def Deed (m0 : Mc) (Ts : List Tm) (N : Nat) (m : Mc) (i : In) (P : Mc → Prop) : Prop :=
 Fit m i ∧ match stepF m i with
  | .ok m' => P m'
  | .err e => (e = 3 ∧ ∀ θ σ, ¬ Ori m0 Ts θ σ) ∨ (e = 80 ∧ m0.r < (N : Int))
def Safe (m0 : Mc) (Ts : List Tm) (N : Nat) (P : Mc → Prop) (o : McO) : Prop := match o with
 | .ok m _ => P m
 | .err e _ => (e = 3 ∧ ∀ θ σ, ¬ Ori m0 Ts θ σ) ∨ (e = 80 ∧ m0.r < (N : Int))
 | .bad => False
theorem Safe.step {P Q : Mc → Prop} {o : McO} {i : In} (h : Safe m0 Ts N P o) (ha : ∀ m, P m → Deed m0 Ts N m i Q) : Safe m0 Ts N Q (stepO o i) := by
 cases o with
 | bad => exact h
 | err e k => exact h
 | ok m k =>
  obtain ⟨hf, hr⟩ := ha m h
  rw [stepO_yes hf]
  cases hs : stepF m i with
  | ok m' => rw [hs] at hr; exact hr
  | err e => rw [hs] at hr; exact hr
theorem Safe.mono {P Q : Mc → Prop} {o : McO} (h : Safe m0 Ts N P o) (ha : ∀ m, P m → Q m) : Safe m0 Ts N Q o := by
 cases o with
 | bad => exact h
 | err e k => exact h
 | ok m k => exact ha m h
theorem StOk.emit (h : StOk s row known) (i : In) : StOk (s.emit i) row known := ⟨h.nd, h.vl, h.vr, h.rr, h.kr⟩
theorem StOk.tail {p : Tm × Int} (h : StOk s (p :: row) known) : StOk s row known := ⟨h.nd, h.vl, h.vr, fun q hq => h.rr q (by simp [hq]), h.kr⟩
theorem StOk.bump (h : StOk s row known) : StOk s.bump row known :=
 ⟨h.nd, h.vl, fun r hr => by have := h.vr r hr; simp [St.bump]; omega, fun q hq => by have := h.rr q hq; simp [St.bump]; omega, fun q hq => by have := h.kr q hq; simp [St.bump]; omega⟩
theorem StOk.addv (h : StOk s row known) {v : Int} (hv : v ∉ s.vars) : StOk (s.bump.addv v s.next) row known := by
 refine ⟨by simp only [St.addv, St.bump]; rw [List.nodup_append]; exact ⟨h.nd, by simp, fun a ha b hb => by simp at hb; subst hb; rintro rfl; exact hv ha⟩, by simp [St.addv, St.bump, h.vl], fun r hr => ?_, h.bump.rr, h.bump.kr⟩
 simp only [St.addv, St.bump, List.mem_append, List.mem_singleton] at hr ⊢
 rcases hr with hr | rfl
 ·have := h.vr r hr; omega
 ·omega
theorem StOk.snoc (h : StOk s row known) {t : Tm} {r : Int} (h0 : 0 ≤ r) (h1 : r < (s.next : Int)) : StOk s (row ++ [(t, r)]) known :=
 ⟨h.nd, h.vl, h.vr, fun q hq => by
  rcases List.mem_append.1 hq with hq | hq
  ·exact h.rr q hq
  ·simp at hq; subst hq; exact ⟨h0, h1⟩, h.kr⟩
theorem StOk.know (h : StOk s row known) {t : Tm} {r : Int} (h0 : 0 ≤ r) (h1 : r < (s.next : Int)) : StOk s row (known ++ [(t, r)]) :=
 ⟨h.nd, h.vl, h.vr, h.rr, fun q hq => by
  rcases List.mem_append.1 hq with hq | hq
  ·exact h.kr q hq
  ·simp at hq; subst hq; exact ⟨h0, h1⟩⟩
theorem idx_at {l : List Int} {x : Int} : ∀ k : Nat, (idxF (fun y => y == x) k l = -1 ∧ x ∉ l) ∨ ∃ j : Nat, idxF (fun y => y == x) k l = ((k + j : Nat) : Int) ∧ l[j]? = some x := by
 induction l with
 | nil => exact fun k => .inl ⟨rfl, by simp⟩
 | cons a l ih =>
  intro k
  by_cases ha : a = x
  ·subst ha
   exact .inr ⟨0, by simp [idxF], rfl⟩
  ·rcases ih (k + 1) with h | ⟨j, h1, h2⟩
   ·exact .inl ⟨by simp [idxF, ha, h.1], by simp only [List.mem_cons, not_or]; exact ⟨fun e => ha e.symm, h.2⟩⟩
   ·exact .inr ⟨j + 1, by simp [idxF, ha, h1]; omega, by simpa using h2⟩
theorem regF_is (s : St) (v : Int) (hl : s.regs.length = s.vars.length) : (∃ (j : Nat) (r : Int), s.vars[j]? = some v ∧ s.regs[j]? = some r ∧ regF s v = (s, r, false)) ∨ (v ∉ s.vars ∧ regF s v = (s.bump.addv v s.next, (s.next : Int), true)) := by
 rcases idx_at (l := s.vars) (x := v) 0 with ⟨h, hn⟩ | ⟨j, h1, h2⟩
 ·refine .inr ⟨hn, ?_⟩
  unfold regF placeI
  rw [h]
  have : decide (0 ≤ (-1 : Int)) = false := rfl
  rw [this]
  cases s.regs[(-1 : Int).toNat]? <;> rfl
 ·left
  have hj : j < s.vars.length := (List.getElem?_eq_some_iff.1 h2).1
  have hr : s.regs[j]? = some (s.regs[j]'(by omega)) := List.getElem?_eq_getElem (by omega)
  refine ⟨j, _, h2, hr, ?_⟩
  unfold regF placeI
  rw [h1]
  have : decide (0 ≤ ((0 + j : Nat) : Int)) = true := by simp
  rw [this, show (((0 + j : Nat) : Int)).toNat = j by omega, hr]
end
end Go.Proofs.YtgipiplklaeplaaDoor
namespace Go.Proofs.YtgipiplklaeplaaDoor
open Go.RowKit
theorem bytes_inj {a b : ByteArray} (h : a.toList = b.toList) : a = b := by
 rw [ByteArray.toList_eq, ByteArray.toList_eq] at h
 cases a; cases b
 simp only at h
 rw [Array.toList_inj.1 h]
structure BxK (w X : World) (base bm : Nat) (m : Mc) (A : Option Addr) (c : Nat) (B : Option Addr) (d : Nat) (R : Option Addr) (e : Nat) (G : Option Addr) (f : Nat) (v0 v1 v2 v3 v4 v5 : Value) : Prop where
 mx : Mx X base bm m A c B d R e G f
 low : Below w.heap.size w X
 box : X.heap[w.heap.size]? = some (.cells #[v0, v1, v2, v3, v4, v5] 88 (0, 0))
theorem BxK.mk' {w : World} {base bm : Nat} {m : Mc} {A B R G : Option Addr} {c d e f : Nat} {v0 v1 v2 v3 v4 v5 : Value} (h : Mx w base bm m A c B d R e G f) : BxK w (w.alloc (.cells #[v0, v1, v2, v3, v4, v5] 88)) base bm m A c B d R e G f v0 v1 v2 v3 v4 v5 := ⟨h.below (basM _ _), basM _ _, alloc_at rfl⟩
theorem BxK.drew {w X : World} {base bm : Nat} {m : Mc} {A B R G : Option Addr} {c d e f : Nat} {v0 v1 v2 v3 v4 v5 : Value} (h : BxK w X base bm m A c B d R e G f v0 v1 v2 v3 v4 v5) : BxK w X.drew base bm m A c B d R e G f v0 v1 v2 v3 v4 v5 := ⟨h.mx.below (Below.refl _ _).drew, h.low.drew, h.box⟩
theorem Mx.regAt {w : World} {base bm : Nat} {m : Mc} {A B R G : Option Addr} {c d e f a : Nat} (h : Mx w base bm m A c B d R e G f) (ha : a < m.regs.length) : ∃ b off, R = some ⟨b, off, none⟩ ∧ b < w.heap.size ∧ w.cell? ⟨b, off + a, none⟩ = some (.int .i64 (m.reg a)) ∧ m.regs.length ≤ e ∧ e ≤ 9223372036854775807 := by
 have hx : m.regs[a]? = some (m.reg a) := by
  unfold Mc.reg
  rw [Int.toNat_natCast, List.getElem?_eq_getElem ha]; rfl
 obtain ⟨b, off, h1, h2, h3, h4⟩ := h.isR.at_ hx
 have h5 := h.isR.sl.hmax
 unfold maxLen at h5
 exact ⟨b, off, h1, h2, h4, h.isR.sl.hcap, h5⟩
set_option maxRecDepth 100000 in
set_option maxHeartbeats 2000000 in
theorem kGetVar_any (base bm : Nat) (m : Mc) (i : In) (a : Nat) (w : World) (h : Mm w base bm m) (hm : McOk m) (ha : i.a = (a : Int)) (hal : a < m.regs.length) (hx : i.x = (m.regs.length : Int)) (hl : m.regs.length ≤ 100000) (hb0 : base ≤ w.heap.size) :
  Calls Tryd.prog 151 #[.pointer (some ⟨bm, 0, none⟩), i.val] w (RetS w base bm (.ok (m.set (m.reg i.a)))) := by
 obtain ⟨A, c, B, d, R, e, G, f, hM⟩ := h
 have HM := Lib.hid hM
 have hlo := hM.lo
 clear hM
 unfold In.val
 rw [ha, hx]
 have hreg := hm.reg (r := (a : Int)) (by omega) (by omega)
 have hfit := hm.ok.tr_len11
 have hp : i64 (m.reg a) := i64_near (by omega) (by omega)
 clear hm hreg hfit ha hx
 go_enter Tryd.func151, Tryd.ntmps151
 go_upto_region 1 with fail
 refine wp_world' (Φ := fun X => BxK w X base bm m A c B d R e G f (.int .i64 i.op) (.int .i64 (m.regs.length : Int)) (.int .i64 (a : Int)) (.string i.name) (.int .i64 i.n) (.bool i.neg)) (BxK.mk' HM.out) ?_
 intro X hBx
 obtain ⟨y0, y1, y2, y3, y4, y5, yl⟩ := open6 hBx.mx.blk
 obtain ⟨z0, z1, z2, z3, z4, z5, zl⟩ := open6 hBx.box
 obtain ⟨b, off, hR, hb, hc, hcap, hmax⟩ := hBx.mx.regAt hal
 rw [hR] at y3
 have HBx := Lib.hid hBx.drew
 clear hBx hR
 go_still_tail 11, (by kernel_rfl)
 change wpList _ _ _ _ _ X.drew
 clear y0 y1 y2 y3 y4 y5 yl z0 z1 z2 z3 z4 z5 zl hc hb
 generalize X.drew = V at *
 have hbV : base ≤ V.heap.size := by have := HBx.out.low.size; omega
 have HbV := Lib.hid (HBx.out.low.mono hb0)
 have HkV := Lib.hid (MKept.below (bm := bm) HBx.out.low)
 have HMV := Lib.hid (show Mm V base bm m from ⟨_, _, _, _, _, _, _, _, HBx.out.mx⟩)
 have HboxV := Lib.hid HBx.out.box
 clear HBx
 go_wp2_with (first
  | (go_at_call 163; go_must (refine (kSet_any base bm m (m.reg a) V HMV.out hbV hp hl).mono ?_); rintro e1 w1 ⟨rfl, hM1, hb1, hk1⟩; have HM1 := Lib.hid hM1; have Hb1 := Lib.hid (HbV.out.trans hb1); have Hk1 := Lib.hid (HkV.out.trans hk1); clear hM1 hb1 hk1))
 go_ret
 exact ⟨rfl, HM1.out, Hb1.out, Hk1.out⟩
theorem RetS.lift {w V w' : World} {base bm : Nat} {s : McR} {e : Ending} (h : RetS V base bm s e w') (hb : Below base w V) (hk : MKept w V bm) : RetS w base bm s e w' := by
 cases s with
 | ok m => exact ⟨h.1, h.2.1, hb.trans h.2.2.1, hk.trans h.2.2.2⟩
 | err n => exact ⟨h.1, hb.trans h.2.1, hk.trans h.2.2⟩
theorem RetS.val {V w' : World} {base bm : Nat} {s : McR} {e : Ending} (h : RetS V base bm s e w') : ∃ v, e = .returned v ∧ RetS V base bm s (.returned v) w' := by
 cases s with
 | ok m => exact ⟨_, h.1, rfl, h.2⟩
 | err n => exact ⟨_, h.1, rfl, h.2⟩
set_option maxRecDepth 100000 in
set_option maxHeartbeats 2000000 in
theorem kGetVal_any (base bm : Nat) (m : Mc) (i : In) (a x : Nat) (w : World) (h : Mm w base bm m) (hm : McOk m) (ha : i.a = (a : Int)) (hal : a < m.regs.length) (hx : i.x = (x : Int)) (hxl : x < m.regs.length) (hl : m.regs.length ≤ 100000) (hb0 : base ≤ w.heap.size) :
  Calls Tryd.prog 152 #[.pointer (some ⟨bm, 0, none⟩), i.val] w (RetS w base bm (m.unify (m.reg i.x) (m.reg i.a))) := by
 obtain ⟨A, c, B, d, R, e, G, f, hM⟩ := h
 have HM := Lib.hid hM
 have hlo := hM.lo
 clear hM
 unfold In.val
 rw [ha, hx]
 have Hok := Lib.hid hm.ok
 clear hm ha hx
 go_enter Tryd.func152, Tryd.ntmps152
 go_upto_region 1 with fail
 refine wp_world' (Φ := fun X => BxK w X base bm m A c B d R e G f _ _ _ _ _ _) (BxK.mk' HM.out) ?_
 intro X hBx
 obtain ⟨y0, y1, y2, y3, y4, y5, yl⟩ := open6 hBx.mx.blk
 obtain ⟨z0, z1, z2, z3, z4, z5, zl⟩ := open6 hBx.box
 obtain ⟨b, off, hR, hb, hc, hcap, hmax⟩ := hBx.mx.regAt hal
 obtain ⟨b', off', hR', hb', hc', _, _⟩ := hBx.mx.regAt hxl
 rw [hR] at hR'
 injection hR' with hR'
 injection hR' with q1 q2 q3
 subst q1 q2
 rw [hR] at y3
 have HBx := Lib.hid hBx.drew
 clear hBx hR
 go_still_tail 17, (by kernel_rfl)
 clear hb' hc'
 change wpList _ _ _ _ _ X.drew
 clear y0 y1 y2 y3 y4 y5 yl z0 z1 z2 z3 z4 z5 zl hc hb
 generalize X.drew = V at *
 have hbV : base ≤ V.heap.size := by have := HBx.out.low.size; omega
 have HbV := Lib.hid (HBx.out.low.mono hb0)
 have HkV := Lib.hid (MKept.below (bm := bm) HBx.out.low)
 have HMV := Lib.hid (show Mm V base bm m from ⟨_, _, _, _, _, _, _, _, HBx.out.mx⟩)
 have HboxV := Lib.hid HBx.out.box
 clear HBx
 go_wp2_with (first
  | (go_at_call 164; go_must (refine (kUnify_any base bm m (m.reg x) (m.reg a) V HMV.out Hok.out hbV).mono ?_); rintro e1 w1 h1; obtain ⟨v, rfl, h2⟩ := h1.val; have H2 := Lib.hid (h2.lift HbV.out HkV.out); clear h1 h2))
 go_ret
 exact H2.out
set_option maxRecDepth 100000 in
set_option maxHeartbeats 2000000 in
theorem kGetInt_any (base bm : Nat) (m : Mc) (i : In) (a : Nat) (w : World) (h : Mm w base bm m) (hm : McOk m) (ha : i.a = (a : Int)) (hal : a < m.regs.length) (hn : -2147483647 ≤ i.n ∧ i.n ≤ 2147483647) (hb0 : base ≤ w.heap.size) :
  Calls Tryd.prog 153 #[.pointer (some ⟨bm, 0, none⟩), i.val] w (RetS w base bm (m.number (m.reg i.a) i.n)) := by
 obtain ⟨A, c, B, d, R, e, G, f, hM⟩ := h
 have HM := Lib.hid hM
 have hlo := hM.lo
 clear hM
 unfold In.val
 rw [ha]
 have hreg := hm.reg (r := (a : Int)) (by omega) (by omega)
 obtain ⟨p, hp⟩ : ∃ p : Nat, m.reg a = (p : Int) := ⟨(m.reg a).toNat, by omega⟩
 have hpl : p < m.l.length := by omega
 have Hm := Lib.hid hm
 have Hn := Lib.hid hn
 rw [hp]
 have Hp := Lib.hid hp
 clear hm ha hn hreg hp
 go_enter Tryd.func153, Tryd.ntmps153
 go_upto_region 1 with fail
 refine wp_world' (Φ := fun X => BxK w X base bm m A c B d R e G f _ _ _ _ _ _) (BxK.mk' HM.out) ?_
 intro X hBx
 obtain ⟨y0, y1, y2, y3, y4, y5, yl⟩ := open6 hBx.mx.blk
 obtain ⟨z0, z1, z2, z3, z4, z5, zl⟩ := open6 hBx.box
 obtain ⟨b, off, hR, hb, hc, hcap, hmax⟩ := hBx.mx.regAt hal
 rw [hR] at y3
 have HBx := Lib.hid hBx.drew
 clear hBx hR
 rw [Hp.out] at hc
 go_still_tail 11, (by kernel_rfl)
 change wpList _ _ _ _ _ X.drew
 clear y0 y1 y2 y3 y4 y5 yl z0 z1 z2 z3 z4 z5 zl hc hb
 generalize X.drew = V at *
 have hbV : base ≤ V.heap.size := by have := HBx.out.low.size; omega
 have HbV := Lib.hid (HBx.out.low.mono hb0)
 have HkV := Lib.hid (MKept.below (bm := bm) HBx.out.low)
 have HMV := Lib.hid (show Mm V base bm m from ⟨_, _, _, _, _, _, _, _, HBx.out.mx⟩)
 have HboxV := Lib.hid HBx.out.box
 clear HBx
 go_wp2_with (first
  | (go_at_call 165; go_must (refine (kNumber_any base bm m p i.n V HMV.out Hm.out hpl Hn.out hbV).mono ?_); rintro e1 w1 h1; obtain ⟨v, rfl, h2⟩ := h1.val; have H2 := Lib.hid (h2.lift HbV.out HkV.out); clear h1 h2))
 go_ret
 exact H2.out
set_option maxRecDepth 100000 in
set_option maxHeartbeats 4000000 in
theorem kGetFun_any (base bm : Nat) (m : Mc) (i : In) (a n : Nat) (w : World) (h : Mm w base bm m) (hm : McOk m) (ha : i.a = (a : Int)) (hal : a < m.regs.length) (hn : i.n = (n : Int)) (hn6 : n ≤ 6) (hs : i.name.size ≤ maxLen) (hb0 : base ≤ w.heap.size) :
  Calls Tryd.prog 154 #[.pointer (some ⟨bm, 0, none⟩), i.val] w (RetS w base bm (m.fun_ (m.reg i.a) i.name i.n.toNat)) := by
 have hnn := nil_nil
 have hen := err_nil
 obtain ⟨j, hj⟩ : ∃ j : In, j = ⟨i.op, i.x, i.a, i.name, i.n, i.neg⟩ := ⟨_, rfl⟩
 have Hj := Lib.hid hj
 clear hj
 obtain ⟨A, c, B, d, R, e, G, f, hM⟩ := h
 have HM := Lib.hid hM
 have hlo := hM.lo
 clear hM
 unfold In.val
 rw [ha, hn]
 have hreg := hm.reg (r := (a : Int)) (by omega) (by omega)
 obtain ⟨p, hp⟩ : ∃ p : Nat, m.reg a = (p : Int) := ⟨(m.reg a).toNat, by omega⟩
 have hpl : p < m.l.length := by omega
 have hg := hm.ok.good
 simp only at hg
 obtain ⟨hl1, hl2⟩ := hm.ok.tr_len11
 obtain ⟨he, hq⟩ := hg.fol_end hpl
 have hr1 := hm.ok.room1
 have hr2 := hm.ok.room2
 simp only at hr1 hr2
 have Hg := Lib.hid hg
 rw [hp, Int.toNat_natCast]
 unfold Mc.fun_
 rw [Int.toNat_natCast]
 have hfo := fun (wz : World) (h : Mm wz base bm m) => kFollow_any base bm m p wz h Hg.out hpl (by omega)
 have hkq := hg.fol_kind hpl
 generalize fol m.l p = q at *
 have Hfo := Lib.hid hfo
 have Hp := Lib.hid hp
 have Hm := Lib.hid hm
 have Hb0 := Lib.hid hb0
 have Hs := Lib.hid hs
 have Hn := Lib.hid hn
 have Ha := Lib.hid ha
 obtain ⟨x, hx⟩ : ∃ x, m.l[q]? = some x := ⟨_, List.getElem?_eq_getElem hq⟩
 rw [sAt_get hx] at hkq ⊢
 have Hx := Lib.hid hx
 clear hm ha hn hreg hp hg he hfo hs hx
 generalize hR : RetS w base bm _ = Ret
 have HR := Lib.hid hR
 clear hR
 go_enter Tryd.func154, Tryd.ntmps154
 go_upto_region 1 with fail
 refine wp_world' (Φ := fun X => BxK w X base bm m A c B d R e G f _ _ _ _ _ _) (BxK.mk' HM.out) ?_
 intro X hBx
 obtain ⟨y0, y1, y2, y3, y4, y5, yl⟩ := open6 hBx.mx.blk
 obtain ⟨z0, z1, z2, z3, z4, z5, zl⟩ := open6 hBx.box
 obtain ⟨b, off, hR, hb, hc, hcap, hmax⟩ := hBx.mx.regAt hal
 rw [hR] at y3
 have HBx := Lib.hid hBx.drew
 clear hBx hR
 rw [Hp.out] at hc
 go_still_tail 9, (by kernel_rfl)
 change wpList _ _ _ _ _ X.drew
 clear y0 y1 y2 y3 y4 y5 yl z0 z1 z2 z3 z4 z5 zl hc hb
 generalize X.drew = V at *
 have hbV : base ≤ V.heap.size := by have := HBx.out.low.size; omega
 have HbV := Lib.hid (HBx.out.low.mono hb0)
 have HkV := Lib.hid (MKept.below (bm := bm) HBx.out.low)
 have HMV := Lib.hid (show Mm V base bm m from ⟨_, _, _, _, _, _, _, _, HBx.out.mx⟩)
 have HboxV := Lib.hid HBx.out.box
 clear HBx
 go_upto_region 3 with (first
  | (go_at_call 166; go_must (refine (Hfo.out V HMV.out).mono ?_); rintro e1 w1 ⟨rfl, hb1⟩; obtain ⟨A1, c1, B1, d1, R1, e1, G1, f1, hM1⟩ := HMV.out.below hb1; obtain ⟨y0, y1, y2, y3, y4, y5, yl⟩ := open6 hM1.blk; obtain ⟨b1, off1, hA1, hbb1, hwf1, k0, k1, k2⟩ := hM1.isC.at_ Hx.out; rw [hA1] at y0; have hcap1 := hM1.isC.sl.hcap; have hmax1 := hM1.isC.sl.hmax; unfold maxLen at hmax1; have Hb1 := Lib.hid hb1; have HM1 := Lib.hid hM1; have hsz1 := hb1.size; clear hM1 hb1))
 refine wp_world' (Φ := fun X => Mm X base bm m ∧ Below V.heap.size V X ∧ X.heap[w1.heap.size]? = some (.cells #[.int .i64 x.kind, .string x.name, .int .i64 x.n] 90 (0, 0))) ⟨⟨_, _, _, _, _, _, _, _, HM1.out.below (basM _ _)⟩, Hb1.out.alloc hsz1 _, alloc_at rfl⟩ ?_
 rintro Y ⟨hY, hbY, hg⟩
 have HY := Lib.hid hY
 have HbY := Lib.hid (HbV.out.trans (hbY.mono hbV))
 have HkY := Lib.hid (HkV.out.trans (MKept.below (bm := bm) hbY))
 obtain ⟨t0, t1, t2, tl⟩ := open3 hg
 have hbox := (hbY.block _ (block_lt HboxV.out)).trans HboxV.out
 obtain ⟨z0, z1, z2, z3, z4, z5, zl⟩ := open6 hbox
 have Hbox := Lib.hid hbox
 have hszY := hbY.size
 clear y0 y1 y2 y3 y4 y5 yl k0 k1 k2 HM1 Hb1 hY hbY hg Hfo hA1 hbb1 hbox HboxV HMV HbV HkV
 have hbase : base ≤ Y.heap.size := by omega
 by_cases k1 : x.kind = 1
 ·have kb4 : (x.kind == 4) = false := by simp [k1]
  have kb1 : (x.kind == 1) = true := by simp [k1]
  have kb2 : (x.kind != 1) = false := by simp [k1]
  rw [if_neg (fun h => by omega), if_neg (fun h => h k1)] at HR
  clear k1 hkq
  have hst := kStruct_any base bm m ⟨i.op, i.x, (a : Int), i.name, (n : Int), i.neg⟩ n Y HY.out rfl Hs.out hn6 hbase (by omega) hr2 (by omega)
  unfold In.val RetT at hst
  simp only at hst
  by_cases hf : m.fits (n + 1)
  ·rw [if_pos hf] at HR
   simp only [if_pos hf] at hst
   unfold Mc.fits at hf
   have Hst := Lib.hid hst
   have hbd := fun (wz : World) (hbz : Below base Y wz) (hM : Mm wz base bm { m with l := m.l ++ topL m.l.length i.name n, next := ((m.l.length + 1 : Nat) : Int) }) => kBind_any base bm { m with l := m.l ++ topL m.l.length i.name n, next := ((m.l.length + 1 : Nat) : Int) } q m.l.length wz hM (by have := hbz.size; omega) (by simp only [List.length_append]; omega) (by omega) (by simp only [List.length_append, topL_len]; omega) (by simp only; omega)
   have Hbd := Lib.hid hbd
   clear hbd hf hst
   go_upto_region 9 with (first
    | (go_at_call 167; go_must (refine Hst.out.mono ?_); rintro e3 w3 ⟨rfl, hM3, hb3, hk3⟩; have HM3 := Lib.hid hM3; have Hb3 := Lib.hid hb3; have Hk3 := Lib.hid hk3; clear hM3 hb3 hk3))
   clear t0 t1 t2 tl z0 z1 z2 z3 z4 z5 zl Hst
   go_wp2_with (first
    | (go_at_call 168; go_must (refine (Hbd.out _ Hb3.out HM3.out).mono ?_); rintro e4 w4 ⟨rfl, hM4, hb4, hk4⟩; have HM4 := Lib.hid hM4; have Hb4 := Lib.hid hb4; have Hk4 := Lib.hid hk4; clear hM4 hb4 hk4))
   change Ret (.returned .nilIface) _
   rw [← HR.out]
   exact ⟨rfl, HM4.out, HbY.out.trans (Hb3.out.trans Hb4.out), HkY.out.trans (Hk3.out.trans Hk4.out)⟩
  ·rw [if_neg hf] at HR
   simp only [if_neg hf] at hst
   have Hst := Lib.hid hst
   clear hf hst
   go_upto_region 9 with (first
    | (go_at_call 167; go_must (refine Hst.out.mono ?_); rintro e3 w3 ⟨rfl, hb3, hk3⟩; have Hb3 := Lib.hid hb3; have Hk3 := Lib.hid hk3; clear hb3 hk3))
   clear t0 t1 t2 tl z0 z1 z2 z3 z4 z5 zl Hst
   go_wp2
   change Ret (.returned (errV 80)) _
   rw [← HR.out]
   exact ⟨rfl, HbY.out.trans Hb3.out, HkY.out.trans Hk3.out⟩
 ·have kb1 : (x.kind == 1) = false := by simp [k1]
  have kb2 : (x.kind != 1) = true := by simp [k1]
  by_cases hall : x.kind = 4 ∧ x.name = i.name ∧ x.n = (n : Int)
  ·rw [if_pos hall] at HR
   obtain ⟨k4, hnm, hxn⟩ := hall
   have kb4 : (x.kind == 4) = true := by simp [k4]
   rw [hnm] at t1
   rw [hxn] at t2
   obtain ⟨A2, c2, B2, d2, R2, e2, G2, f2, hM2⟩ := HY.out
   obtain ⟨y0, y1, y2, y3, y4, y5, yl⟩ := open6 hM2.blk
   have yf := frozen_of hM2.blk 4
   have HM2 := Lib.hid hM2
   clear k1 k4 hnm hxn hkq hM2
   go_wp2
   change Ret (.returned .nilIface) _
   rw [← HR.out]
   exact ⟨rfl, ⟨_, _, _, _, _, _, _, _, HM2.out.next _⟩, HbY.out.setCell hlo _, HkY.out.trans (MKept.set _ _ _ _)⟩
  ·rw [if_neg hall, if_pos k1] at HR
   by_cases k4 : x.kind = 4
   ·have kb4 : (x.kind == 4) = true := by simp [k4]
    by_cases hnm : x.name = i.name
    ·have hxn : (x.n == (n : Int)) = false := by
      have : ¬ x.n = (n : Int) := fun h => hall ⟨k4, hnm, h⟩
      simp [this]
     rw [hnm] at t1
     clear k1 k4 hkq hall hnm
     go_wp2
     change Ret (.returned (errV 3)) _
     rw [← HR.out]
     exact ⟨rfl, HbY.out, HkY.out⟩
    ·have hL0 : ¬ x.name.toList = i.name.toList := fun h => hnm (bytes_inj h)
     have hL1 : (x.name.toList == i.name.toList) = false := by simp [hL0]
     clear k1 k4 hkq hall
     go_wp2
     change Ret (.returned (errV 3)) _
     rw [← HR.out]
     exact ⟨rfl, HbY.out, HkY.out⟩
   ·have kb4 : (x.kind == 4) = false := by simp [k4]
    clear k1 k4 hkq hall
    go_wp2
    change Ret (.returned (errV 3)) _
    rw [← HR.out]
    exact ⟨rfl, HbY.out, HkY.out⟩
end Go.Proofs.YtgipiplklaeplaaDoor
