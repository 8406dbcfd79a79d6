/- Texts of this proof that belong together: words of memory, plain laws, walks. -/
import Derived.Deep.DeepCutAuto
import Derived.Deep.RegionHeld3
import Derived.Deep.RegionLaw
import Derived.Deep.RegionWith
import Derived.IntWalk
import Derived.StillTailTactics
import Derived.Test.YtgipiplklaeplaaDoorA06
import Derived.Test.YtgipiplklaeplaaDoorA28
import Derived.Test.YtgipiplklaeplaaDoorA29
import Derived.Test.YtgipiplklaeplaaDoorA33
import Derived.Test.YtgipiplklaeplaaDoorA37
set_option linter.unusedVariables false
set_option linter.unusedSimpArgs false
namespace Go.Proofs.YtgipiplklaeplaaDoor
open Go.RowKit
theorem good_nil8 : Good [] := ⟨rfl, fun _ => 0, fun p q hq => by rw [leads_past (by simp)] at hq; cases hq⟩
theorem okH_nil {r : Int} (h1 : 1 ≤ r) (h2 : r ≤ 4096) : OkH ⟨[], [], r⟩ := ⟨h1, h2, by simp; omega, good_nil8, ⟨by simp, by simp⟩⟩
theorem ok_has {T : Tm} (ho : T.ok = true) {n : Int} (h : T.has n) : 0 ≤ n ∧ n ≤ 999 := ok_var8 T ho n h
theorem putA_len8 (T : Tm) (l : List C) (a : List Int) : (putA l T a).1.length ≤ l.length + 2 * T.size := by
  cases T with
  | f s us => have := hs_size (.f s us); simp only [putA, List.length_append, layA_len]; omega
  | i n => simp [putA, Tm.size]
  | v n => simp only [putA]; split <;> simp [Tm.size]
end Go.Proofs.YtgipiplklaeplaaDoor
namespace Go.Proofs.YtgipiplklaeplaaDoor
open Go.RowKit
mutual
theorem sub_turn (f : Int → Int) : ∀ T : Tm, (T.sub (fun n => .v (f n))).flat = turnF f T.flat
  | .v n => by simp [Tm.sub, Tm.flat, turnF_map, turnC]
  | .i n => by simp [Tm.sub, Tm.flat, turnF_map, turnC]
  | .f s us => by
    have h := subs_turn f us
    have hl : (subs (fun n => .v (f n)) us).length = us.length := by rw [subs_map]; simp
    simp only [Tm.sub, Tm.flat, turnF_map, List.map_cons] at h ⊢
    rw [h, hl]
    rfl
theorem subs_turn (f : Int → Int) : ∀ us : List Tm, flats (subs (fun n => .v (f n)) us) = turnF f (flats us)
  | [] => rfl
  | u :: us => by
    rw [subs, flats_cons, flats_cons, sub_turn f u, subs_turn f us, turnF_map, turnF_map, turnF_map, List.map_append]
end
mutual
theorem flat_vn8 : ∀ (T : Tm) (c : C), c ∈ T.flat → c.kind = 1 → c = ⟨1, ⟨#[]⟩, c.n⟩
  | .v m, c, h, _ => by simp [Tm.flat] at h; subst h; rfl
  | .i m, c, h, hk => by simp [Tm.flat] at h; subst h; simp at hk
  | .f s us, c, h, hk => by
    simp only [Tm.flat, List.mem_cons] at h
    rcases h with rfl | h
    · simp at hk
    · exact flats_vn8 us c h hk
theorem flats_vn8 : ∀ (us : List Tm) (c : C), c ∈ flats us → c.kind = 1 → c = ⟨1, ⟨#[]⟩, c.n⟩
  | u :: us, c, h, hk => by
    rw [flats_cons] at h
    rcases List.mem_append.1 h with h | h
    · exact flat_vn8 u c h hk
    · exact flats_vn8 us c h hk
end
mutual
theorem sub_inj {S R : Int → Tm} : ∀ T : Tm, T.sub S = T.sub R → ∀ n, T.has n → S n = R n
  | .v m, h, n, hn => by
    simp [Tm.has, Tm.flat] at hn
    subst hn
    exact h
  | .i m, _, n, hn => by simp [Tm.has, Tm.flat] at hn
  | .f s us, h, n, hn => by
    simp only [Tm.sub, Tm.f.injEq, true_and] at h
    exact subs_inj us h n (by simpa [Tm.has, Tm.flat] using hn)
theorem subs_inj {S R : Int → Tm} : ∀ us : List Tm, subs S us = subs R us → ∀ n, (⟨1, ⟨#[]⟩, n⟩ : C) ∈ flats us → S n = R n
  | u :: us, h, n, hn => by
    simp only [subs, List.cons.injEq] at h
    rw [flats_cons] at hn
    rcases List.mem_append.1 hn with hn | hn
    · exact sub_inj u h.1 n hn
    · exact subs_inj us h.2 n hn
end
mutual
theorem sub_v : ∀ T : Tm, T.sub Tm.v = T
  | .v n => rfl
  | .i n => rfl
  | .f s us => by simp only [Tm.sub]; rw [subs_v us]
theorem subs_v : ∀ us : List Tm, subs Tm.v us = us
  | [] => rfl
  | u :: us => by simp only [subs]; rw [sub_v u, subs_v us]
end
end Go.Proofs.YtgipiplklaeplaaDoor
namespace Go.Proofs.YtgipiplklaeplaaDoor
open Go.RowKit
/-- a term stands in a heap -/
structure Put1 (A : Tm) (L : List C) (P : Nat) (b : List Int) : Prop where
  good : Good L
  ltP : P < L.length
  denP : den L P = A.sub (stand L b)
  inj : AtInj b
  free : AtOk L 0 b
  has : ∀ n, A.has n → 0 ≤ n ∧ 0 ≤ atA b n.toNat
theorem Put1.place {A : Tm} {L : List C} {P : Nat} {b : List Int} (h : Put1 A L P b) {n : Int} (hn : A.has n) : ∃ p : Nat, atA b n.toNat = (p : Int) ∧ Free1 L p ∧ stand L b n = .v p := by
  obtain ⟨h0, h1⟩ := h.has n hn
  rcases h.free n.toNat with h2 | ⟨p, h2, h3, h4⟩
  · omega
  · rcases h4 with h4 | h4
    · omega
    · refine ⟨p, h2, h4, ?_⟩
      unfold stand
      rw [h2, Int.toNat_natCast]
      exact h.good.den_free h4
theorem put1_ok {A : Tm} (hA : A.ok = true) (sA : A.size ≤ 200) : Put1 A (putA [] A []).1 (putA [] A []).2.1 (putA [] A []).2.2 := by
  have l1 := putA_len8 A [] []
  simp only [List.length_nil] at l1
  have hat0 : AtOk ([] : List C) ([] : List C).length [] := (show AtL ([] : List C).length [] from atL_nil 0).ok
  have p1 := put_ok good_nil8 hA hat0 (by omega)
  have i1 := putA_inj [] A (a := []) (fun v u hv he => by simp [atA] at hv) (fun v => by simp [atA])
  have f1 := putA_free (l := []) hA (a := []) (by have := hat0; exact this)
  have v1 := fun n hn => putA_place [] A [] n hn
  exact ⟨p1.good, p1.lt, p1.den, i1.1, f1, fun n hn => ⟨(ok_has hA hn).1, v1 n hn⟩⟩
/-- an assignment of the heap for whatever is put for the variables -/
theorem Put1.mod {A : Tm} {L : List C} {P : Nat} {b : List Int} (h : Put1 A L P b) (R : Int → Tm) : Mod L (modF L b R) ∧ modF L b R P = A.sub R ∧ ∀ n, A.has n → modF L b R (atA b n.toNat).toNat = R n := by
  have hv : ∀ n, A.has n → (stand L b n).sub (fun x => R (invA b x)) = R n := fun n hn => by
    obtain ⟨p, h1, h2, h3⟩ := h.place hn
    obtain ⟨h4, h5⟩ := h.has n hn
    rw [h3]
    show R (invA b p) = R n
    rw [← h1, invA_at h.inj h5]
    congr 1
    omega
  refine ⟨h.good.mod _, ?_, hv⟩
  unfold modF
  rw [h.denP, sub_sub]
  exact sub_congr A (fun n hn => hv n hn)
/-- any assignment of the heap puts something for the variables -/
theorem Put1.back {A : Tm} {L : List C} {P : Nat} {b : List Int} (h : Put1 A L P b) {θ : Nat → Tm} (m : Mod L θ) : θ P = A.sub (fun n => θ (atA b n.toNat).toNat) := by
  rw [m.den h.good _ h.ltP, h.denP, sub_sub]
  refine sub_congr A (fun n hn => ?_)
  obtain ⟨p, h1, h2, h3⟩ := h.place hn
  rw [h3, h1]
  rfl
theorem mod_den {l : List C} (h : Good l) : Mod l (den l) := ⟨fun p ho => h.den_step ho, fun p k => h.den_num k, fun p k => h.den_top k⟩
/-- the machine at the beginning of resolving -/
def resM (A : Tm) (r : Int) : Mc := ⟨(putA [] A []).1, [], r, (List.range A.args.length).map fun i => ((i + 1 : Nat) : Int), 0, []⟩
theorem f_top {A : Tm} {s : ByteArray} {us : List Tm} (hA : A = .f s us) : sAt (putA [] A []).1 0 = ⟨4, s, us.length⟩ := by
  subst hA
  show sAt ([] ++ (layA (.f s us) 0 []).1) 0 = _
  rfl
theorem resM_ok {A : Tm} {s : ByteArray} {us : List Tm} (hf : A = .f s us) (hA : A.ok = true) (sA : A.size ≤ 200) {r : Int} (h1 : 1 ≤ r) (h2 : r ≤ 4096) (hfit : ((putA [] A []).1.length : Int) ≤ r) : McOk (resM A r) := by
  obtain ⟨k1, k2, k3, k4⟩ := put_okH (okH_nil h1 h2) hA (atL_nil 0) hfit
  refine ⟨k1, fun x hx => ?_, by simp [resM]⟩
  have ht := ok_top (shp_at k1.good.shp (p := 0) (by simp only; omega)) (by simp only; rw [f_top hf])
  simp only at ht
  rw [f_top hf] at ht
  simp only [resM] at hx ⊢
  obtain ⟨i, hi, rfl⟩ := List.mem_map.1 hx
  have hi' : i < us.length := by rw [hf] at hi; simpa [Tm.args] using hi
  have := ht.2.2.1
  simp only at this
  omega
theorem resM_reg {A : Tm} {r : Int} {j : Nat} (hj : j < A.args.length) : (resM A r).reg j = ((j + 1 : Nat) : Int) := by
  unfold Mc.reg resM
  simp only [Int.toNat_natCast]
  rw [List.getElem?_map, List.getElem?_range hj]
  rfl
/-- what is asked of the atom's arguments: that it is the head -/
theorem ori_iff {A H : Tm} {s : ByteArray} {us Ts : List Tm} (hA : A = .f s us) (hH : H = .f s Ts) (hl : us.length = Ts.length) {r : Int} {θ : Nat → Tm} {σ : Int → Tm} : Ori (resM A r) H.args θ σ ↔ Mod (putA [] A []).1 θ ∧ θ 0 = H.sub σ := by
  have hj : ∀ (m : Mod (putA [] A []).1 θ), θ 0 = .f s ((List.range us.length).map fun i => θ (0 + 1 + i)) := fun m => by
    have := m.top 0 (by rw [f_top hA])
    rw [f_top hA] at this
    simpa using this
  have hargs : A.args = us := by rw [hA]; rfl
  constructor
  · intro h
    refine ⟨h.mod, ?_⟩
    rw [hj h.mod, hH]
    simp only [Tm.sub]
    congr 1
    apply List.ext_getElem?
    intro i
    rw [List.getElem?_map, subs_map, List.getElem?_map]
    by_cases hi : i < Ts.length
    · rw [List.getElem?_range (by omega), List.getElem?_eq_getElem hi, Option.map_some, Option.map_some]
      have := h.arg i _ (by rw [hH]; exact List.getElem?_eq_getElem hi)
      rw [resM_reg (by rw [hargs]; omega), Int.toNat_natCast] at this
      rw [show 0 + 1 + i = i + 1 by omega, this]
    · rw [List.getElem?_eq_none (by simp; omega), List.getElem?_eq_none (by omega)]; rfl
  · rintro ⟨m, h0⟩
    refine ⟨m, fun j T hT => ?_⟩
    rw [hH] at hT
    simp only [Tm.args] at hT
    have hjl := (List.getElem?_eq_some_iff.1 hT).1
    rw [hj m, hH] at h0
    simp only [Tm.sub] at h0
    injection h0 with _ h0
    have := congrArg (fun q : List Tm => q[j]?) h0
    simp only [List.getElem?_map, subs_map, List.getElem?_range (show j < us.length by omega), hT, Option.map_some] at this
    injection this with this
    rw [resM_reg (by rw [hargs]; omega), Int.toNat_natCast, show j + 1 = 0 + 1 + j by omega]
    exact this
/-- what resolving makes: of the atom, and of the body's terms; an instance, as general as may be -/
structure Rsd (A H : Tm) (Bs : List Tm) (t : Tm) (ts : List Tm) (ρ σ : Int → Tm) : Prop where
  atom : t = A.sub ρ
  head : t = H.sub σ
  len : ts.length = Bs.length
  body : ∀ (j : Nat) (b : Tm), Bs[j]? = some b → ts[j]? = some (b.sub σ)
  most : ∀ ρ' σ' : Int → Tm, A.sub ρ' = H.sub σ' → ∃ K : Int → Tm, A.sub ρ' = t.sub K ∧ ∀ (j : Nat) (b u : Tm), Bs[j]? = some b → ts[j]? = some u → b.sub σ' = u.sub K
open Classical in
/-- what is put for a clause's variables at the end -/
noncomputable def finS (m : Mc) (s : St) (v : Int) : Tm := if h : ∃ j : Nat, s.vars[j]? = some v then den m.l (m.reg ((s.regs[Classical.choose h]?).getD 0)).toNat else .v v
theorem finS_at {m : Mc} {s : St} (hn : s.vars.Nodup) {j : Nat} {v r : Int} (hv : s.vars[j]? = some v) (hr : s.regs[j]? = some r) : finS m s v = den m.l (m.reg r).toNat := by
  unfold finS
  have hex : ∃ j : Nat, s.vars[j]? = some v := ⟨j, hv⟩
  rw [dif_pos hex]
  have h2 := Classical.choose_spec hex
  have e : Classical.choose hex = j := by
    obtain ⟨l1, e1⟩ := List.getElem?_eq_some_iff.1 h2
    obtain ⟨l2, e2⟩ := List.getElem?_eq_some_iff.1 hv
    exact (List.getElem_inj hn).1 (e1.trans e2.symm)
  rw [e, hr]
  rfl
section
variable {A : Tm} {c : Cls} {s : ByteArray} {us Ts : List Tm} {r : Int} {N k : Nat} {st : St} {kn : List (Tm × Int)} {m : Mc}
/-- THE LAW OF RESOLVING -/
theorem rsd_of (hA : A = .f s us) (hH : c.head = .f s Ts) (hl : us.length = Ts.length) (ho : A.ok = true) (sA : A.size ≤ 200) (h : Inv (resM A r) c.head.args N st [] [] kn c.body k m) :
    ∃ σ : Int → Tm, Rsd A c.head (c.body.map (·.t)) (den m.l 0) (m.goals.map fun g => den m.l g.2.toNat) (fun n => den m.l (atA (putA [] A []).2.2 n.toNat).toNat) σ := by
  have hp := put1_ok ho sA
  rw [show (putA [] A []).2.1 = 0 by rw [hA]; rfl] at hp
  have hg := h.mok.ok.good
  simp only at hg
  obtain ⟨d, hd⟩ := h.hst
  have hle := hd.le
  have hm := mod_den hg
  have hs : Sat m st [] [] (den m.l) (finS m st) := ⟨hm, fun j v r hv hr => (finS_at h.sok.nd hv hr).symm, by simp, by simp⟩
  obtain ⟨ho1, hk1⟩ := h.bwd _ _ hs
  obtain ⟨m1, e1⟩ := (ori_iff hA hH hl).1 ho1
  have lt0 : 0 < m.l.length := by have := hp.ltP; simp only [resM] at hle; omega
  obtain ⟨g1, g2⟩ := h.go
  have goal : ∀ (j : Nat) (b : Tm), (c.body.map (·.t))[j]? = some b → ∃ r : Int, (m.goals.map fun g => den m.l g.2.toNat)[j]? = some (den m.l (m.reg r).toNat) ∧ (b, r) ∈ kn := fun j b hb => by
    rw [List.getElem?_map] at hb
    cases hc : c.body[j]? with
    | none => rw [hc] at hb; cases hb
    | some l =>
      rw [hc] at hb
      simp only [Option.map_some, Option.some.injEq] at hb
      obtain ⟨r, q1, q2⟩ := g2 j l hc
      exact ⟨r, by rw [List.getElem?_map, q1]; rfl, by rw [← hb]; exact q2⟩
  refine ⟨finS m st, hp.back m1, e1, by simp [g1], fun j b hb => ?_, fun ρ' σ' hu => ?_⟩
  · obtain ⟨r, q1, q2⟩ := goal j b hb
    rw [q1, hk1 _ q2]
  · obtain ⟨a1, a2, a3⟩ := hp.mod ρ'
    obtain ⟨θ', t1, t2⟩ := h.fwd (modF (putA [] A []).1 (putA [] A []).2.2 ρ') σ' ((ori_iff hA hH hl).2 ⟨a1, a2.trans hu⟩)
    have hden : ∀ p, p < m.l.length → θ' p = (den m.l p).sub (fun n => θ' n.toNat) := t2.mod.den hg
    refine ⟨fun n => θ' n.toNat, ?_, fun j b u hb hu' => ?_⟩
    · rw [← hden 0 lt0, t1 0 hp.ltP, a2]
    · obtain ⟨r, q1, q2⟩ := goal j b hb
      rw [q1] at hu'
      injection hu' with hu'
      subst hu'
      have hkr := h.sok.kr _ q2
      have hpl := h.mok.reg hkr.1 (by rw [h.len]; exact hkr.2)
      rw [← hden _ (by simp only at hpl; omega)]
      exact ((h.bwd _ _ t2).2 _ q2).symm
/-- there is none, if nothing comes -/
theorem rsd_none (hA : A = .f s us) (hH : c.head = .f s Ts) (hl : us.length = Ts.length) (ho : A.ok = true) (sA : A.size ≤ 200) (h : ∀ θ σ, ¬ Ori (resM A r) c.head.args θ σ) (ρ σ : Int → Tm) : A.sub ρ ≠ c.head.sub σ := fun he => by
  have hp := put1_ok ho sA
  rw [show (putA [] A []).2.1 = 0 by rw [hA]; rfl] at hp
  obtain ⟨a1, a2, _⟩ := hp.mod ρ
  exact h _ σ ((ori_iff hA hH hl).2 ⟨a1, a2.trans he⟩)
end
end Go.Proofs.YtgipiplklaeplaaDoor
namespace Go.Proofs.YtgipiplklaeplaaDoor
open Go.RowKit
section
variable {P : Program} {ops : Array Oper} {rest : List Oper} {o : Oper} {a : Act} {w : World} {Q : Exit → Act → World → Prop}
theorem run_append_zero (t ty e : TypeId) (i : TypeInfo) (ht : P.underlying t = some (.slice e)) (hi : P.info? e = some i) (As A : Option Addr) (n cs c : Nat) (hn : n ≤ cs) (h0 : As = none → n = 0 ∧ cs = 0) :
    (Builtin.append_ #[t, t] ty #[.slice As n cs, .slice A 0 c]).run P w = .ok (.slice As n cs) w := by
  cases As with
  | none =>
    obtain ⟨rfl, rfl⟩ := h0 rfl
    cases A <;> simp [Builtin.append_, run_underlying ht, sizeOf, typeInfo, hi, Builtin.lenOf, Builtin.firstCells, loadCells, loadCellsFrom]
  | some b =>
    cases A <;> simp [Builtin.append_, run_underlying ht, sizeOf, typeInfo, hi, Builtin.lenOf, Builtin.firstCells, loadCells, loadCellsFrom, hn, storeCells]
/-- what an append leaves -/
def AppZ (w : World) (base : Nat) (e : TypeId) (size n : Nat) (xs : List Value) (As : Option Addr) (v : Value) (w' : World) : Prop :=
  ∃ A' cap', v = .slice A' n cap' ∧ Tail w' base e size A' n cap' xs ∧ Below base w w' ∧ Apart w w' As A'
theorem run_append_any (s x : Operand) (t : TypeId) (ho : o.op = .call { callee := .builtin .append, args := #[s, x], argTypes := #[t, t] })
    (base : Nat) (e : TypeId) {z : Value} {size bytes : Nat} (ht : P.underlying t = some (.slice e)) (hinfo : (P.info? e).map (fun i => (i.zero, i.size, i.bytes)) = some (some z, size, bytes))
    (hzs : z.cells.size = size) (hsz : 0 < size) {As : Option Addr} {n cs : Nat} {xs : List Value} (hs : a.eval s = .slice As n cs) (hown : Tail w base e size As n cs xs) (hAs : ∀ b, As = some b → b.block < w.heap.size)
    {A : Option Addr} {m c : Nat} {news : List Value} (hx : a.eval x = .slice A m c) (hr : Sl w size A m c news) (h1 : ∀ u ∈ news, u.oneCell' = true)
    (h63 : n + m ≤ 1000000000000) (hbyt : bytes ≤ 64) (hbase : base ≤ w.heap.size) (h0 : As = none → cs = 0) :
    ∃ v w', (execOp a.eval o).run P w = .ok (.value v) w' ∧ AppZ w base e size (n + m) (xs ++ news) As v w' := by
  rcases Nat.eq_zero_or_pos m with hm | hm
  · subst hm
    obtain ⟨i, hi, hz, hsize, hby⟩ := info_parts hinfo
    have hn0 : news = [] := List.eq_nil_of_length_eq_zero (by simpa using hr.len)
    subst hn0
    have hrun := run_append_zero (P := P) (w := w) t o.type e i ht hi As A n cs c hown.hcap (fun h => ⟨by have := h0 h; have := hown.hcap; omega, h0 h⟩)
    refine ⟨.slice As n cs, w, by simp only [execOp, ho, resolve, invoke, builtin, Sem.run_bind, Sem.run_pure, Result.andThen_ok, List.map_toArray, List.map_cons, List.map_nil, hs, hx, hrun], As, cs, rfl, by simpa using hown, Below.refl _ _, ⟨Nat.le_refl _, fun _ _ _ => rfl, fun a ha => ⟨hAs a ha, .inl ⟨a, ha, rfl⟩⟩⟩⟩
  · obtain ⟨v, w', h2, A', cap', h3, _, h5⟩ := run_append_tail s x t ho base e ht hinfo hzs hsz hs hown hx hr h1 hm h63 hbyt hbase
    exact ⟨v, w', h2, A', cap', h3, h5⟩
theorem wpList_append_any (hw : Region.wanted o (yielded ops a.tmps) = true) (s x : Operand) (t : TypeId) (ho : o.op = .call { callee := .builtin .append, args := #[s, x], argTypes := #[t, t] })
    (base : Nat) (e : TypeId) {z : Value} {size bytes : Nat} (ht : P.underlying t = some (.slice e)) (hinfo : (P.info? e).map (fun i => (i.zero, i.size, i.bytes)) = some (some z, size, bytes))
    (hzs : z.cells.size = size) (hsz : 0 < size) {As : Option Addr} {n cs : Nat} {xs : List Value} (hs : a.eval s = .slice As n cs) (hown : Tail w base e size As n cs xs) (hAs : ∀ b, As = some b → b.block < w.heap.size)
    {A : Option Addr} {m c : Nat} {news : List Value} (hx : a.eval x = .slice A m c) (hr : Sl w size A m c news) (h1 : ∀ u ∈ news, u.oneCell' = true)
    (h63 : n + m ≤ 1000000000000) (hbyt : bytes ≤ 64) (hbase : base ≤ w.heap.size) (h0 : As = none → cs = 0)
    (k : ∀ A' cap' w', Tail w' base e size A' (n + m) cap' (xs ++ news) → Below base w w' → Apart w w' As A' → wpList P ops Q rest (a.put o.dst (.slice A' (n + m) cap')) w') :
    wpList P ops Q (o :: rest) a w :=
  wpList_run hw (run_append_any s x t ho base e ht hinfo hzs hsz hs hown hAs hx hr h1 h63 hbyt hbase h0) fun v w' ⟨A', cap', hv, h2, h3, h4⟩ => by
    subst hv
    exact k A' cap' w' h2 h3 h4
theorem step_append_any {K : Act → World → Prop} {E : Prop} (hw : Region.wanted o (yielded ops a.tmps) = true) (s x : Operand) (t : TypeId) (ho : o.op = .call { callee := .builtin .append, args := #[s, x], argTypes := #[t, t] })
    (base : Nat) (e : TypeId) {z : Value} {size bytes : Nat} (ht : P.underlying t = some (.slice e)) (hinfo : (P.info? e).map (fun i => (i.zero, i.size, i.bytes)) = some (some z, size, bytes))
    (hzs : z.cells.size = size) (hsz : 0 < size) {As : Option Addr} {n cs : Nat} {xs : List Value} (hs : a.eval s = .slice As n cs) (hown : Tail w base e size As n cs xs) (hAs : ∀ b, As = some b → b.block < w.heap.size)
    {A : Option Addr} {m c : Nat} {news : List Value} (hx : a.eval x = .slice A m c) (hr : Sl w size A m c news) (h1 : ∀ u ∈ news, u.oneCell' = true)
    (h63 : n + m ≤ 1000000000000) (hbyt : bytes ≤ 64) (hbase : base ≤ w.heap.size) (h0 : As = none → cs = 0)
    (k : ∀ A' cap' w', Tail w' base e size A' (n + m) cap' (xs ++ news) → Below base w w' → Apart w w' As A' → K (a.put o.dst (.slice A' (n + m) cap')) w') :
    if Region.wanted o (yielded ops a.tmps) = true then o.wp P a w K Q else E :=
  step_of_runA hw (run_append_any s x t ho base e ht hinfo hzs hsz hs hown hAs hx hr h1 h63 hbyt hbase h0) fun v w' ⟨A', cap', hv, h2, h3, h4⟩ => by
    subst hv
    exact k A' cap' w' h2 h3 h4
end
theorem Tail.none_cap {w : World} {base : Nat} {e : TypeId} {size n cap : Nat} {A : Option Addr} {xs : List Value} (h : Tail w base e size A n cap xs) : A = none → cap = 0 := by
  intro hA
  rcases h.form with h0 | ⟨g, off, cur, h1, _⟩
  · exact h0
  · rw [hA] at h1; cases h1
end Go.Proofs.YtgipiplklaeplaaDoor
namespace Go.Proofs.YtgipiplklaeplaaDoor
open Go.RowKit
/-- w' is w but for block b, and new blocks -/
structure But (w w' : World) (b : Nat) : Prop where
  os : w'.os = w.os
  tape : w'.tape = w.tape
  output : w'.output = w.output
  size : w.heap.size ≤ w'.heap.size
  block : ∀ k, k < w.heap.size → k ≠ b → w'.heap[k]? = w.heap[k]?
theorem But.trans {w w' w'' : World} {b : Nat} (h : But w w' b) (h' : But w' w'' b) : But w w'' b :=
  ⟨h'.os.trans h.os, h'.tape.trans h.tape, h'.output.trans h.output, Nat.le_trans h.size h'.size, fun k hk hne => (h'.block k (Nat.lt_of_lt_of_le hk h.size) hne).trans (h.block k hk hne)⟩
theorem But.set (w : World) (b k : Nat) (v : Value) : But w (w.setCell ⟨b, k, none⟩ v) b := ⟨rfl, rfl, rfl, by simp, fun _ _ hne => set_other hne v⟩
theorem But.setB {w w' : World} {b k : Nat} (h : But w w' b) (v : Value) : But w (w'.setCell ⟨b, k, none⟩ v) b := h.trans (But.set w' b k v)
/-- a slice that does not lie in block b -/
def Off (A : Option Addr) (n b : Nat) : Prop := 0 < n → ∀ a, A = some a → a.block ≠ b
theorem Sl.but' {w w' : World} {b size n c : Nat} {A : Option Addr} {xs : List Value} (h : Sl w size A n c xs) (hb : But w w' b) (hne : Off A n b) : Sl w' size A n c xs := by
  refine ⟨h.len, h.hcap, h.hmax, fun hn => ?_⟩
  obtain ⟨g, off, rfl, hlt, hc⟩ := h.cells hn
  refine ⟨g, off, rfl, Nat.lt_of_lt_of_le hlt hb.size, fun j u hu => ?_⟩
  rw [← hc j u hu]
  exact World.cell?_of_block (hb.block g hlt (hne hn _ rfl))
end Go.Proofs.YtgipiplklaeplaaDoor
namespace Go.Proofs.YtgipiplklaeplaaDoor
open Go.RowKit
/-- a slice that does not lie in the block of another one -/
def Far (T : Option Addr) (A : Option Addr) (n : Nat) : Prop := ∀ a, T = some a → Off A n a.block
theorem Far.app {w w' : World} {T T' A : Option Addr} {n c size : Nat} {xs : List Value} (h : Far T A n) (hap : Apart w w' T T') (hs : Sl w size A n c xs) : Far T' A n := fun a ha hn a' ha' => by
  rcases (hap.blk a ha).2 with ⟨a0, h0, he⟩ | h2
  · rw [he]; exact h a0 h0 hn a' ha'
  · obtain ⟨g, off, h3, hlt, _⟩ := hs.cells hn
    rw [h3] at ha'
    cases ha'
    simp only
    omega
/-- what is read outside a row that grows is read on -/
theorem Sl.far {w w' : World} {T T' A : Option Addr} {n c size : Nat} {xs : List Value} (h : Sl w size A n c xs) (hap : Apart w w' T T') (hf : Far T A n) : Sl w' size A n c xs := by
  refine ⟨h.len, h.hcap, h.hmax, fun hn => ?_⟩
  obtain ⟨g, off, rfl, hlt, hc⟩ := h.cells hn
  refine ⟨g, off, rfl, Nat.lt_of_lt_of_le hlt hap.size, fun j u hu => ?_⟩
  rw [← hc j u hu]
  exact World.cell?_of_block (hap.old g hlt fun a ha he => hf a ha hn _ rfl he.symm)
end Go.Proofs.YtgipiplklaeplaaDoor
