/- Texts of this proof that belong together: words of memory, plain laws, walks. -/
import Derived.Test.YtgipiplklaeplaaDoorB20
import Derived.Test.YtgipiplklaeplaaDoorB21
import Derived.Test.YtgipiplklaeplaaDoorB40
set_option linter.unusedVariables false
set_option linter.unusedSimpArgs false
namespace Go.Proofs.YtgipiplklaeplaaDoor
open Go.RowKit
mutual
def Tm.hw : Tm → Nat
 | .v _ => 0
 | .i _ => 1
 | .f _ us => us.length + 1 + hws us
def hws : List Tm → Nat
 | [] => 0
 | u :: us => u.hw + hws us
end
def rowW : List (Tm × Int) → Nat
 | [] => 0
 | q :: row => q.1.hw + rowW row
def rowZ : List (Tm × Int) → Nat
 | [] => 0
 | q :: row => q.1.size + rowZ row
theorem rowW_app : ∀ a b : List (Tm × Int), rowW (a ++ b) = rowW a + rowW b
 | [], b => by simp [rowW]
 | q :: a, b => by simp only [List.cons_append, rowW, rowW_app a b]; omega
theorem rowZ_app : ∀ a b : List (Tm × Int), rowZ (a ++ b) = rowZ a + rowZ b
 | [], b => by simp [rowZ]
 | q :: a, b => by simp only [List.cons_append, rowZ, rowZ_app a b]; omega
mutual
theorem hw_le : ∀ t : Tm, t.hw + 1 ≤ 2 * t.size
 | .v _ => by simp [Tm.hw, Tm.size]
 | .i _ => by simp [Tm.hw, Tm.size]
 | .f _ us => by have := hws_le us; simp only [Tm.hw, Tm.size]; omega
theorem hws_le : ∀ us : List Tm, hws us + us.length ≤ 2 * sizes us
 | [] => by simp [hws, sizes]
 | u :: us => by have := hw_le u; have := hws_le us; simp only [hws, sizes, List.length_cons]; omega
end
section
variable {m0 : Mc} {Ts : List Tm} {N : Nat} {known : List (Tm × Int)} {done : List Ltl}
theorem Inv.less {s : St} {row : List (Tm × Int)} {pend : List Tm} {k k' : Nat} {m : Mc} (h : Inv m0 Ts N s row pend known done k m) (hk : k' ≤ k) : Inv m0 Ts N s row pend known done k' m :=
 ⟨h.sok, h.len, h.mok, h.pn, h.r, by have := h.room; omega, h.hst, h.go, h.fwd, h.bwd⟩
theorem emit_code (s : St) (i : In) : out m0 (s.emit i).code = stepO (out m0 s.code) i := out_snoc m0 s.code i
theorem unis_inv : ∀ (ts : List Tm) (s : St) (row : List (Tm × Int)) (k : Nat), oks ts = true → Safe m0 Ts N (fun m => Inv m0 Ts N s row ts known done (hws ts + k) m) (out m0 s.code) →
  Safe m0 Ts N (fun m => Inv m0 Ts N (unisF s ts).1 (row ++ (unisF s ts).2) [] known done (rowW (unisF s ts).2 + k) m) (out m0 (unisF s ts).1.code) ∧ rowZ (unisF s ts).2 ≤ sizes ts ∧ ∀ q ∈ (unisF s ts).2, q.1.ok = true
 | [], s, row, k, _, h => by
  refine ⟨h.mono fun m hm => ?_, Nat.le_refl _, by simp [unisF]⟩
  simp only [unisF, List.append_nil, rowW, hws] at hm ⊢
  exact hm
 | .f nm us :: ts, s, row, k, ho, h => by
  rw [oks_cons, Bool.and_eq_true] at ho
  have h1 : Safe m0 Ts N (fun m => Inv m0 Ts N (s.emit { op := 5, x := (s.next : Int) }).bump (row ++ [(.f nm us, (s.next : Int))]) ts known done (hws ts + ((Tm.f nm us).hw + k)) m) (out m0 (s.emit { op := 5, x := (s.next : Int) }).bump.code) := by
   rw [show (s.emit { op := 5, x := (s.next : Int) }).bump.code = (s.emit { op := 5, x := (s.next : Int) }).code from rfl, emit_code]
   refine h.step fun m hm => ?_
   have hm2 := hm.less (k' := hws ts + ((Tm.f nm us).hw + k)) (by simp only [hws]; omega)
   exact act_uniFun _ hm2
  obtain ⟨h2, h3, h4⟩ := unis_inv ts _ _ _ ho.2 h1
  refine ⟨?_, ?_, ?_⟩
  ·simp only [unisF]
   refine h2.mono fun m hm => ?_
   rw [List.append_assoc, List.singleton_append] at hm
   refine hm.less ?_
   simp only [rowW]
   omega
  ·simp only [unisF, rowZ, sizes]
   omega
  ·simp only [unisF]
   intro q hq
   rcases List.mem_cons.1 hq with rfl | hq
   ·exact ho.1
   ·exact h4 q hq
 | .i n :: ts, s, row, k, ho, h => by
  rw [oks_cons, Bool.and_eq_true] at ho
  have hn : -2147483647 ≤ n ∧ n ≤ 2147483647 := by simpa [Tm.ok] using ho.1
  have h1 : Safe m0 Ts N (fun m => Inv m0 Ts N (s.emit { op := 7, n := n }) row ts known done (hws ts + k) m) (out m0 (s.emit { op := 7, n := n }).code) := by
   rw [emit_code]
   refine h.step fun m hm => ?_
   exact act_uniInt n hn (hm.less (k' := hws ts + k + 1) (by simp only [hws, Tm.hw]; omega))
  obtain ⟨h2, h3, h4⟩ := unis_inv ts _ _ _ ho.2 h1
  exact ⟨h2, by have : rowZ (unisF s (.i n :: ts)).2 ≤ sizes ts := h3; simp only [sizes]; omega, h4⟩
 | .v v :: ts, s, row, k, ho, h => by
  rw [oks_cons, Bool.and_eq_true] at ho
  have h1 : Safe m0 Ts N (fun m => Inv m0 Ts N (oneF 5 6 7 s (.v v)) row ts known done (hws ts + k) m) (out m0 (oneF 5 6 7 s (.v v)).code) := by
   simp only [oneF]
   cases ho : out m0 s.code with
   | bad => rw [ho] at h; exact h.elim
   | err e j =>
    rw [ho] at h
    rw [emit_code]
    have : (regF s v).1.code = s.code := by unfold regF; split <;> rfl
    rw [this, ho]
    exact h
   | ok m j =>
    rw [ho] at h
    have hm : Inv m0 Ts N s row (.v v :: ts) known done (hws (.v v :: ts) + k) m := h
    have hm2 := hm.less (k' := hws ts + k) (by simp only [hws]; omega)
    rcases regF_is s v hm.sok.vl with ⟨j, r, hv, hr, e⟩ | ⟨hvn, e⟩
    ·rw [e, emit_code, ho]
     simp only
     exact Safe.step (P := fun m => Inv m0 Ts N s row (.v v :: ts) known done (hws ts + k) m) hm2 (fun m hm => act_uniVal hv hr hm)
    ·rw [e, emit_code, show (s.bump.addv v s.next).code = s.code from rfl, ho]
     simp only
     exact Safe.step (P := fun m => Inv m0 Ts N s row (.v v :: ts) known done (hws ts + k) m) hm2 (fun m hm => act_uniVar v (.inl rfl) hvn hm)
  obtain ⟨h2, h3, h4⟩ := unis_inv ts _ _ _ ho.2 h1
  exact ⟨h2, by have : rowZ (unisF s (.v v :: ts)).2 ≤ sizes ts := h3; simp only [sizes]; omega, h4⟩
theorem head_inv (s : St) (p : Tm × Int) (row : List (Tm × Int)) (k : Nat) (ho : p.1.ok = true) (h : Safe m0 Ts N (fun m => Inv m0 Ts N s (p :: row) [] known done (p.1.hw + k) m) (out m0 s.code)) :
  Safe m0 Ts N (fun m => Inv m0 Ts N (headF s p).1 (row ++ (headF s p).2) [] known done (rowW (headF s p).2 + k) m) (out m0 (headF s p).1.code) ∧ rowZ (headF s p).2 < p.1.size ∧ ∀ q ∈ (headF s p).2, q.1.ok = true := by
 obtain ⟨t, a⟩ := p
 simp only at ho h
 cases t with
 | i n =>
  have hn : -2147483647 ≤ n ∧ n ≤ 2147483647 := by simpa [Tm.ok] using ho
  refine ⟨?_, by simp [headF, rowZ, Tm.size], by simp [headF]⟩
  simp only [headF, List.append_nil, rowW]
  rw [emit_code]
  exact h.step fun m hm => act_getInt n a hn (hm.less (by simp only [Tm.hw]; omega))
 | v v =>
  refine ⟨?_, by simp [headF, rowZ, Tm.size], by simp [headF]⟩
  simp only [headF, List.append_nil, rowW]
  cases ho : out m0 s.code with
  | bad => rw [ho] at h; exact h.elim
  | err e j =>
   rw [ho] at h
   rw [emit_code]
   have : (regF s v).1.code = s.code := by unfold regF; split <;> rfl
   rw [this, ho]
   exact h
  | ok m j =>
   rw [ho] at h
   have hm : Inv m0 Ts N s ((.v v, a) :: row) [] known done ((Tm.v v).hw + k) m := h
   have hm2 := hm.less (k' := 0 + k) (by simp only [Tm.hw]; omega)
   rcases regF_is s v hm.sok.vl with ⟨j, r, hv, hr, e⟩ | ⟨hvn, e⟩
   ·rw [e, emit_code, ho]
    simp only
    exact Safe.step (P := fun m => Inv m0 Ts N s ((.v v, a) :: row) [] known done (0 + k) m) hm2 (fun m hm => act_getVal hv hr hm)
   ·rw [e, emit_code, show (s.bump.addv v s.next).code = s.code from rfl, ho]
    simp only
    exact Safe.step (P := fun m => Inv m0 Ts N s ((.v v, a) :: row) [] known done (0 + k) m) hm2 (fun m hm => act_getVar v a hvn hm)
 | f nm us =>
  simp only [Tm.ok, Bool.and_eq_true, decide_eq_true_eq] at ho
  have h1 : Safe m0 Ts N (fun m => Inv m0 Ts N (s.emit { op := 4, a := a, name := nm, n := us.length }) row us known done (hws us + k) m) (out m0 (s.emit { op := 4, a := a, name := nm, n := us.length }).code) := by
   rw [emit_code]
   exact h.step fun m hm => act_getFun nm us a ho.1 ho.2.1 (hm.less (by simp only [Tm.hw]; omega))
  obtain ⟨h2, h3, h4⟩ := unis_inv us _ row k ho.2.2 h1
  exact ⟨h2, by show rowZ (unisF _ us).2 < (Tm.f nm us).size; simp only [Tm.size]; omega, h4⟩
theorem heads_inv : ∀ (f : Nat) (s : St) (row : List (Tm × Int)) (k : Nat), rowZ row ≤ f → (∀ q ∈ row, q.1.ok = true) → Safe m0 Ts N (fun m => Inv m0 Ts N s row [] known done (rowW row + k) m) (out m0 s.code) →
  Safe m0 Ts N (fun m => Inv m0 Ts N (headsF f s row) [] [] known done k m) (out m0 (headsF f s row).code)
 | f, s, [], k, _, _, h => by
  have : headsF f s [] = s := by cases f <;> rfl
  rw [this]
  exact h.mono fun m hm => hm.less (by omega)
 | 0, s, p :: row, k, hf, _, h => by
  have := p.1.size_pos
  simp only [rowZ] at hf
  omega
 | f + 1, s, p :: row, k, hf, ho, h => by
  obtain ⟨h1, h2, h3⟩ := head_inv s p row (rowW row + k) (ho p (by simp)) (h.mono fun m hm => hm.less (by simp only [rowW]; omega))
  refine heads_inv f (headF s p).1 (row ++ (headF s p).2) k ?_ ?_ (h1.mono fun m hm => hm.less (by rw [rowW_app]; omega))
  ·rw [rowZ_app]
   simp only [rowZ] at hf
   omega
  ·intro q hq
   rcases List.mem_append.1 hq with hq | hq
   ·exact ho q (by simp [hq])
   ·exact h3 q hq
structure BInv (m0 : Mc) (Ts : List Tm) (N : Nat) (s : St) (us : List Tm) (known known0 : List (Tm × Int)) (done : List Ltl) (k : Nat) (own : Int) (m : Mc) : Prop where
 inv : Inv m0 Ts N s [] us known done k m
 vg : Vg m0 m own us.length
 kn : Kn m s known0
 k0 : ∀ q ∈ known0, 0 ≤ q.2 ∧ q.2 < own
 lt : own < (s.next : Int)
 nr : ∀ r ∈ s.regs, r ≠ own
theorem BInv.k1 {s : St} {us : List Tm} {known0 : List (Tm × Int)} {k : Nat} {own : Int} {m : Mc} (h : BInv m0 Ts N s us known known0 done k own m) : ∀ q ∈ known0, 0 ≤ q.2 ∧ q.2 < (s.next : Int) := fun q hq => by
 have := h.k0 q hq
 have := h.lt
 omega
theorem regF_codeO (s : St) (v : Int) : (regF s v).1.code = s.code := by unfold regF; split <;> rfl
theorem sets_inv : ∀ (us : List Tm) (xs : List Int) (s : St) (own : Int) (known0 : List (Tm × Int)) (k : Nat), oks us = true → xs.length = us.length → (∀ (j : Nat) (nm : ByteArray) (bs : List Tm), us[j]? = some (.f nm bs) → ∃ x, xs[j]? = some x ∧ (Tm.f nm bs, x) ∈ known0) →
  Safe m0 Ts N (fun m => BInv m0 Ts N s us known known0 done k own m) (out m0 s.code) → Safe m0 Ts N (fun m => BInv m0 Ts N (setsF s us xs) [] known known0 done k own m) (out m0 (setsF s us xs).code)
 | [], xs, s, own, known0, k, _, _, _, h => by
  have : setsF s [] xs = s := by cases xs <;> rfl
  rw [this]
  exact h
 | u :: us, [], s, own, known0, k, _, hl, _, h => by simp at hl
 | .f nm bs :: us, x :: xs, s, own, known0, k, ho, hl, hk, h => by
  rw [oks_cons, Bool.and_eq_true] at ho
  obtain ⟨x', hx1, hx2⟩ := hk 0 nm bs rfl
  simp at hx1
  subst hx1
  refine sets_inv us xs (s.emit { op := 10, x := x }) own known0 k ho.2 (by simpa using hl) (fun j nm bs hj => by have := hk (j + 1) nm bs (by simpa using hj); simpa using this) ?_
  rw [emit_code]
  refine h.step fun m hm => ?_
  have hb := hm.k0 _ hx2
  have hb1 := hm.k1 _ hx2
  simp only at hb hb1
  obtain ⟨h1, h2⟩ := act_setVal (x := x) (u := .f nm bs) hm.inv hm.vg hb1 (by omega) (fun θ σ m1 v1 => hm.kn θ σ m1 v1 _ hx2)
  refine ⟨h1, ?_⟩
  cases hs : stepF m { op := 10, x := x } with
  | err e => rw [hs] at h2; exact h2
  | ok m' =>
   rw [hs] at h2
   obtain ⟨i1, i2, i3, i4⟩ := h2
   exact ⟨i1, i2, hm.kn.step hm.inv hm.k1 i4 i3 (fun j v r hv hr => ⟨hv, hr⟩), hm.k0, hm.lt, hm.nr⟩
 | .i n :: us, x :: xs, s, own, known0, k, ho, hl, hk, h => by
  rw [oks_cons, Bool.and_eq_true] at ho
  have hn : -2147483647 ≤ n ∧ n ≤ 2147483647 := by simpa [Tm.ok] using ho.1
  show Safe m0 Ts N (fun m => BInv m0 Ts N (setsF (s.emit { op := 11, n := n }) us xs) [] known known0 done k own m) (out m0 (setsF (s.emit { op := 11, n := n }) us xs).code)
  refine sets_inv us xs _ own known0 k ho.2 (by simpa using hl) (fun j nm bs hj => by have := hk (j + 1) nm bs (by simpa using hj); simpa using this) ?_
  rw [emit_code]
  refine h.step fun m hm => ?_
  obtain ⟨h1, h2⟩ := act_setInt n hn hm.inv hm.vg
  refine ⟨h1, ?_⟩
  cases hs : stepF m { op := 11, n := n } with
  | err e => rw [hs] at h2; exact h2
  | ok m' =>
   rw [hs] at h2
   obtain ⟨i1, i2, i3, i4⟩ := h2
   exact ⟨i1, i2, hm.kn.step hm.inv hm.k1 i4 i3 (fun j v r hv hr => ⟨hv, hr⟩), hm.k0, hm.lt, hm.nr⟩
 | .v v :: us, x :: xs, s, own, known0, k, ho, hl, hk, h => by
  rw [oks_cons, Bool.and_eq_true] at ho
  show Safe m0 Ts N (fun m => BInv m0 Ts N (setsF (oneF 9 10 11 s (.v v)) us xs) [] known known0 done k own m) (out m0 (setsF (oneF 9 10 11 s (.v v)) us xs).code)
  refine sets_inv us xs _ own known0 k ho.2 (by simpa using hl) (fun j nm bs hj => by have := hk (j + 1) nm bs (by simpa using hj); simpa using this) ?_
  simp only [oneF]
  cases ho : out m0 s.code with
  | bad => rw [ho] at h; exact h.elim
  | err e j => rw [ho] at h; rw [emit_code, regF_codeO, ho]; exact h
  | ok m j =>
   rw [ho] at h
   have hm : BInv m0 Ts N s (.v v :: us) known known0 done k own m := h
   rcases regF_is s v hm.inv.sok.vl with ⟨j', r, hv, hr, e⟩ | ⟨hvn, e⟩
   ·rw [e, emit_code, ho]
    simp only
    refine Safe.step (P := fun m => BInv m0 Ts N s (.v v :: us) known known0 done k own m) hm (fun m hm => ?_)
    have hrr := hm.inv.sok.vr r (List.mem_of_getElem? hr)
    obtain ⟨h1, h2⟩ := act_setVal (x := r) (u := .v v) hm.inv hm.vg hrr (hm.nr r (List.mem_of_getElem? hr)) (fun θ σ m1 v1 => v1 j' v r hv hr)
    refine ⟨h1, ?_⟩
    have e2 : ({ op := if false = true then 9 else 10, x := r } : In) = { op := 10, x := r } := rfl
    rw [e2]
    cases hs : stepF m { op := 10, x := r } with
    | err e => rw [hs] at h2; exact h2
    | ok m' =>
     rw [hs] at h2
     obtain ⟨i1, i2, i3, i4⟩ := h2
     exact ⟨i1, i2, hm.kn.step hm.inv hm.k1 i4 i3 (fun j v r hv hr => ⟨hv, hr⟩), hm.k0, hm.lt, hm.nr⟩
   ·rw [e, emit_code, show (s.bump.addv v s.next).code = s.code from rfl, ho]
    simp only
    refine Safe.step (P := fun m => BInv m0 Ts N s (.v v :: us) known known0 done k own m) hm (fun m hm => ?_)
    obtain ⟨h1, h2⟩ := act_uniVar v (op := 9) (.inr rfl) hvn hm.inv
    refine ⟨h1, ?_⟩
    simp only [if_true]
    have hst : stepF m { op := 9, x := (s.next : Int) } = .ok ({ m with next := m.next + 1 }.set m.next) := rfl
    rw [hst] at h2 ⊢
    have hx : ({ m with next := m.next + 1 }.set m.next).regs = m.regs ++ [m.next] := rfl
    refine ⟨h2, hm.vg.pass hm.inv.mok.nx.1, hm.kn.step hm.inv hm.k1 hx (fun θ hm => hm) (fun j v' r hv hr => ⟨?_, ?_⟩), hm.k0, by have := hm.lt; simp [St.emit, St.addv, St.bump]; omega, fun r hr => ?_⟩
    ·show (s.vars ++ [v])[j]? = some v'
     rw [List.getElem?_append_left (List.getElem?_eq_some_iff.1 hv).1]; exact hv
    ·show (s.regs ++ [(s.next : Int)])[j]? = some r
     rw [List.getElem?_append_left (List.getElem?_eq_some_iff.1 hr).1]; exact hr
    ·simp only [St.emit, St.addv, St.bump, List.mem_append, List.mem_singleton] at hr
     rcases hr with hr | rfl
     ·exact hm.nr r hr
     ·have := hm.lt; omega
theorem Inv.knows {s : St} {k : Nat} {m : Mc} (h : Inv m0 Ts N s [] [] known done k m) : Kn m s known := fun θ σ m1 v1 => (h.bwd θ σ ⟨m1, v1, by simp, by simp⟩).2
mutual
theorem build_inv : ∀ (t : Tm) (s : St) (known : List (Tm × Int)) (k : Nat), t.ok = true → Safe m0 Ts N (fun m => Inv m0 Ts N s [] [] known done (t.hw + k) m) (out m0 s.code) →
  ∃ kn, Safe m0 Ts N (fun m => Inv m0 Ts N (buildF s t).1 [] [] (known ++ kn) done k m) (out m0 (buildF s t).1.code) ∧ (t.c0.kind = 3 → (t, (buildF s t).2) ∈ known ++ kn)
 | .v _, s, known, k, _, h => ⟨[], by rw [List.append_nil]; exact h.mono fun m hm => hm.less (by omega), fun hk => by simp [Tm.c0] at hk⟩
 | .i _, s, known, k, _, h => ⟨[], by rw [List.append_nil]; exact h.mono fun m hm => hm.less (by omega), fun hk => by simp [Tm.c0] at hk⟩
 | .f nm us, s, known, k, ho, h => by
  simp only [Tm.ok, Bool.and_eq_true, decide_eq_true_eq] at ho
  obtain ⟨kn, h1, h2, h3⟩ := args_inv us s known (k + (us.length + 1)) ho.2.2 (h.mono fun m hm => hm.less (by simp only [Tm.hw]; omega))
  refine ⟨kn ++ [(.f nm us, ((argsF s us).1.next : Int))], ?_, fun _ => by simp [buildF]⟩
  rw [← List.append_assoc]
  simp only [buildF]
  generalize argsF s us = A at *
  have h4 : Safe m0 Ts N (fun m => BInv m0 Ts N (A.1.bump.emit { op := 8, a := (A.1.next : Int), name := nm, n := us.length }) us (known ++ kn ++ [(.f nm us, (A.1.next : Int))]) (known ++ kn) done k (A.1.next : Int) m) (out m0 (A.1.bump.emit { op := 8, a := (A.1.next : Int), name := nm, n := us.length }).code) := by
   rw [emit_code, show A.1.bump.code = A.1.code from rfl]
   refine h1.step fun m hm => ?_
   obtain ⟨f1, f2⟩ := act_putFun nm us ho.1 ho.2.1 hm
   refine ⟨f1, ?_⟩
   cases hs : stepF m { op := 8, a := (A.1.next : Int), name := nm, n := us.length } with
   | err e => rw [hs] at f2; exact f2
   | ok m' =>
    rw [hs] at f2
    obtain ⟨i1, i2, i3, i4⟩ := f2
    have hkr : ∀ q ∈ known ++ kn, 0 ≤ q.2 ∧ q.2 < (A.1.next : Int) := fun q hq => hm.sok.kr q hq
    refine ⟨i1, i2, hm.knows.step hm hkr i4 i3 (fun j v r hv hr => ⟨hv, hr⟩), hkr, by simp [St.emit, St.bump]; omega, fun r hr => ?_⟩
    have := hm.sok.vr r hr
    omega
  exact (sets_inv us A.2 _ _ (known ++ kn) k ho.2.2 h2 h3 h4).mono fun m hm => hm.inv
theorem args_inv : ∀ (ts : List Tm) (s : St) (known : List (Tm × Int)) (k : Nat), oks ts = true → Safe m0 Ts N (fun m => Inv m0 Ts N s [] [] known done (hws ts + k) m) (out m0 s.code) →
  ∃ kn, Safe m0 Ts N (fun m => Inv m0 Ts N (argsF s ts).1 [] [] (known ++ kn) done k m) (out m0 (argsF s ts).1.code) ∧ (argsF s ts).2.length = ts.length ∧
   ∀ (j : Nat) (nm : ByteArray) (bs : List Tm), ts[j]? = some (.f nm bs) → ∃ x, (argsF s ts).2[j]? = some x ∧ (Tm.f nm bs, x) ∈ known ++ kn
 | [], s, known, k, _, h => ⟨[], by rw [List.append_nil]; exact h.mono fun m hm => hm.less (by omega), rfl, fun j nm bs hj => by simp at hj⟩
 | t :: ts, s, known, k, ho, h => by
  rw [oks_cons, Bool.and_eq_true] at ho
  obtain ⟨kn1, h1, h2⟩ := build_inv t s known (hws ts + k) ho.1 (h.mono fun m hm => hm.less (by simp only [hws]; omega))
  obtain ⟨kn2, h3, h4, h5⟩ := args_inv ts (buildF s t).1 (known ++ kn1) k ho.2 h1
  refine ⟨kn1 ++ kn2, ?_, by simp [argsF, h4], fun j nm bs hj => ?_⟩
  ·rw [← List.append_assoc]; exact h3
  ·cases j with
   | zero =>
    simp at hj
    subst hj
    have := h2 rfl
    exact ⟨_, rfl, by rw [← List.append_assoc]; exact List.mem_append.2 (.inl this)⟩
   | succ j =>
    obtain ⟨x, e1, e2⟩ := h5 j nm bs (by simpa using hj)
    exact ⟨x, by simpa [argsF] using e1, by rw [← List.append_assoc]; exact e2⟩
end
def bodyW : List Ltl → Nat
 | [] => 0
 | l :: ls => l.t.hw + bodyW ls
theorem body_inv : ∀ (ls : List Ltl) (s : St) (known : List (Tm × Int)) (done : List Ltl) (k : Nat), (∀ l ∈ ls, l.t.ok = true ∧ l.t.c0.kind = 3) → Safe m0 Ts N (fun m => Inv m0 Ts N s [] [] known done (bodyW ls + k) m) (out m0 s.code) →
  ∃ kn, Safe m0 Ts N (fun m => Inv m0 Ts N (bodyF s ls) [] [] kn (done ++ ls) k m) (out m0 (bodyF s ls).code)
 | [], s, known, done, k, _, h => ⟨known, by rw [List.append_nil]; exact h.mono fun m hm => hm.less (by omega)⟩
 | l :: ls, s, known, done, k, ho, h => by
  obtain ⟨o1, o2⟩ := ho l (by simp)
  obtain ⟨kn, h1, h2⟩ := build_inv l.t s known (bodyW ls + k) o1 (h.mono fun m hm => hm.less (by simp only [bodyW]; omega))
  have h3 : Safe m0 Ts N (fun m => Inv m0 Ts N ((buildF s l.t).1.emit { op := 12, a := (buildF s l.t).2, neg := l.neg }) [] [] (known ++ kn) (done ++ [l]) (bodyW ls + k) m) (out m0 ((buildF s l.t).1.emit { op := 12, a := (buildF s l.t).2, neg := l.neg }).code) := by
   rw [emit_code]
   exact h1.step fun m hm => act_call hm (h2 o2)
  obtain ⟨kn2, h4⟩ := body_inv ls _ (known ++ kn) (done ++ [l]) k (fun x hx => ho x (by simp [hx])) h3
  refine ⟨kn2, ?_⟩
  rw [List.append_assoc, List.singleton_append] at h4
  exact h4
theorem num_mem : ∀ (ts : List Tm) (k : Nat) (q : Tm × Int), q ∈ numbered k ts ↔ ∃ j : Nat, ts[j]? = some q.1 ∧ q.2 = ((k + j : Nat) : Int)
 | [], k, q => by simp [numbered]
 | t :: ts, k, q => by
  rw [numbered, List.mem_cons, num_mem ts (k + 1) q]
  constructor
  ·rintro (rfl | ⟨j, h1, h2⟩)
   ·exact ⟨0, rfl, rfl⟩
   ·exact ⟨j + 1, by simpa using h1, by omega⟩
  ·rintro ⟨j, h1, h2⟩
   cases j with
   | zero =>
    left
    simp at h1
    obtain ⟨a, b⟩ := q
    simp only at h1 h2
    rw [h1, h2]
    rfl
   | succ j => exact .inr ⟨j, by simpa using h1, by omega⟩
theorem rowW_num : ∀ (ts : List Tm) (k : Nat), rowW (numbered k ts) = hws ts
 | [], _ => rfl
 | t :: ts, k => by simp only [numbered, rowW, hws, rowW_num ts (k + 1)]
theorem rowZ_num : ∀ (ts : List Tm) (k : Nat), rowZ (numbered k ts) = sizes ts
 | [], _ => rfl
 | t :: ts, k => by simp only [numbered, rowZ, sizes, rowZ_num ts (k + 1)]
theorem Inv.start (t : Tm) (h : McOk m0) (hr : m0.regs.length = t.args.length) (hg : m0.goals = []) (k : Nat) (hN : m0.l.length + k ≤ N) : Inv m0 t.args N (startF t) (numbered 0 t.args) [] [] [] k m0 := by
 refine ⟨⟨by simp [startF], rfl, by simp [startF], fun q hq => ?_, by simp⟩, hr, h, by simpa using h.nx.2, rfl, hN, ⟨_, Hst.refl _ _⟩, ⟨by simp [hg], by simp⟩, fun θ σ ho => ⟨θ, Agr.refl _ _, ho.mod, by simp [startF], fun q hq => ?_, by simp⟩, fun θ σ hs => ⟨⟨hs.mod, fun j T hj => ?_⟩, by simp⟩⟩
 ·obtain ⟨j, h1, h2⟩ := (num_mem _ _ _).1 hq
  have := (List.getElem?_eq_some_iff.1 h1).1
  simp only [startF]
  omega
 ·obtain ⟨j, h1, h2⟩ := (num_mem _ _ _).1 hq
  have := ho.arg j q.1 h1
  rw [h2, Nat.zero_add]
  exact this
 ·have := hs.row (T, (j : Int)) ((num_mem _ _ _).2 ⟨j, hj, by simp⟩)
  exact this
end
def Cls.need (c : Cls) : Nat := hws c.head.args + bodyW c.body
theorem comp_run {m0 : Mc} (c : Cls) (hh : c.head.ok = true) (hb : ∀ l ∈ c.body, l.t.ok = true ∧ l.t.c0.kind = 3) (h : McOk m0) (hr : m0.regs.length = c.head.args.length) (hg : m0.goals = []) :
  ∃ (s : St) (kn : List (Tm × Int)), Safe m0 c.head.args (m0.l.length + c.need) (fun m => Inv m0 c.head.args (m0.l.length + c.need) s [] [] kn c.body 0 m) (out m0 (compF c)) := by
 have ho : ∀ q ∈ numbered 0 c.head.args, q.1.ok = true := fun q hq => by
  obtain ⟨j, h1, _⟩ := (num_mem _ _ _).1 hq
  have hm := List.mem_of_getElem? h1
  cases hc : c.head with
  | v n => rw [hc] at hm; simp [Tm.args] at hm
  | i n => rw [hc] at hm; simp [Tm.args] at hm
  | f nm us =>
   rw [hc] at hm hh
   simp only [Tm.args] at hm
   simp only [Tm.ok, Bool.and_eq_true, oks_all, List.all_eq_true] at hh
   exact hh.2.2 _ hm
 have h0 := Inv.start c.head h hr hg (rowW (numbered 0 c.head.args) + (bodyW c.body + 0)) (N := m0.l.length + c.need) (by rw [rowW_num]; simp only [Cls.need]; omega)
 have h1 : Safe m0 c.head.args (m0.l.length + c.need) (fun m => Inv m0 c.head.args (m0.l.length + c.need) (startF c.head) (numbered 0 c.head.args) [] [] [] (rowW (numbered 0 c.head.args) + (bodyW c.body + 0)) m) (out m0 (startF c.head).code) := h0
 have h2 := heads_inv (sizes c.head.args) (startF c.head) (numbered 0 c.head.args) (bodyW c.body + 0) (by rw [rowZ_num]; exact Nat.le_refl _) ho h1
 obtain ⟨kn, h3⟩ := body_inv c.body _ [] [] 0 hb h2
 rw [List.nil_append] at h3
 refine ⟨(bodyF (headsF (sizes c.head.args) (startF c.head) (numbered 0 c.head.args)) c.body).emit (lastI c.head), kn, ?_⟩
 unfold compF
 rw [out_snoc]
 exact h3.step fun m hm => act_last rfl hm
end Go.Proofs.YtgipiplklaeplaaDoor
namespace Go.Proofs.YtgipiplklaeplaaDoor
open Go.RowKit
def plB : List (Int × List C) → Int → Nat → Int
 | [], _, _ => -1
 | p :: s, v, k => if p.1 = v then (k : Int) else plB s v (k + 1)
def lkB : List (Int × List C) → Int → Option (List C)
 | [], _ => none
 | p :: s, v => if p.1 = v then some p.2 else lkB s v
theorem plB_lk : ∀ (s : List (Int × List C)) (v : Int) (k : Nat), (plB s v k = -1 ∧ lkB s v = none) ∨ ∃ i p, plB s v k = ((k + i : Nat) : Int) ∧ s[i]? = some p ∧ lkB s v = some p.2
 | [], v, k => .inl ⟨rfl, rfl⟩
 | p :: s, v, k => by
  unfold plB lkB
  by_cases h : p.1 = v
  ·rw [if_pos h, if_pos h]
   exact .inr ⟨0, p, rfl, rfl, rfl⟩
  ·rw [if_neg h, if_neg h]
   rcases plB_lk s v (k + 1) with h1 | ⟨i, q, h1, h2, h3⟩
   ·exact .inl h1
   ·exact .inr ⟨i + 1, q, by rw [h1]; congr 1; omega, by simpa using h2, h3⟩
end Go.Proofs.YtgipiplklaeplaaDoor
namespace Go.Proofs.YtgipiplklaeplaaDoor
open Go.RowKit
theorem slotA_v_place (n : Int) (P q : Nat) (a : List Int) : 0 ≤ atA (slotA (.v n) P q a).2 n.toNat := by
 rw [slotA_v]
 split
 ·simp only
  rw [atA_set (extA_len a _), if_pos rfl]; omega
 ·rename_i h
  simp only
  rw [atA_ext]; omega
theorem ext_nn {b a : List Int} (h : Ext b a) {v : Nat} (hv : 0 ≤ atA a v) : 0 ≤ atA b v := by rw [h v hv]; exact hv
theorem slotsA_place : ∀ (us : List Tm) (P q : Nat) (a : List Int) (n : Int), Tm.v n ∈ us → 0 ≤ atA (slotsA us P q a).2 n.toNat
 | u :: us, P, q, a, n, h => by
  rcases List.mem_cons.1 h with rfl | h
  ·exact ext_nn (slotsA_ext us _ _ _) (slotA_v_place n P q a)
  ·exact slotsA_place us _ _ _ n h
theorem flats_var {n : Int} : ∀ {us : List Tm}, (⟨1, ⟨#[]⟩, n⟩ : C) ∈ flats us → Tm.v n ∈ us ∨ ∃ f vs, Tm.f f vs ∈ us ∧ (⟨1, ⟨#[]⟩, n⟩ : C) ∈ (Tm.f f vs).flat
 | u :: us, h => by
  rw [flats_cons] at h
  rcases List.mem_append.1 h with h | h
  ·cases u with
   | v m => simp [Tm.flat] at h; subst h; exact .inl (by simp)
   | i m => simp [Tm.flat] at h
   | f s vs => exact .inr ⟨s, vs, by simp, h⟩
  ·rcases flats_var h with h | ⟨f, vs, h1, h2⟩
   ·exact .inl (List.mem_cons.2 (.inr h))
   ·exact .inr ⟨f, vs, List.mem_cons.2 (.inr h1), h2⟩
mutual
theorem layA_place : ∀ (T : Tm) (P : Nat) (a : List Int) (n : Int), T.c0.kind = 3 → (⟨1, ⟨#[]⟩, n⟩ : C) ∈ T.flat → 0 ≤ atA (layA T P a).2 n.toNat
 | .f s us, P, a, n, _, h => by
  have h : (⟨1, ⟨#[]⟩, n⟩ : C) ∈ flats us := by simpa [Tm.flat] using h
  rcases flats_var h with h | ⟨f, vs, h1, h2⟩
  ·exact ext_nn (laysA_ext us _ _) (slotsA_place us _ _ a n h)
  ·exact laysA_place us _ _ n f vs h1 h2
 | .i _, _, _, _, hk, _ => by simp [Tm.c0] at hk
 | .v _, _, _, _, hk, _ => by simp [Tm.c0] at hk
theorem laysA_place : ∀ (us : List Tm) (P : Nat) (a : List Int) (n : Int) (f : ByteArray) (vs : List Tm), Tm.f f vs ∈ us → (⟨1, ⟨#[]⟩, n⟩ : C) ∈ (Tm.f f vs).flat → 0 ≤ atA (laysA us P a).2 n.toNat
 | u :: us, P, a, n, f, vs, h, hm => by
  rcases List.mem_cons.1 h with he | h
  ·exact ext_nn (laysA_ext us _ _) (layA_place u P a n (by rw [← he]; rfl) (by rw [← he]; exact hm))
  ·exact laysA_place us _ _ n f vs h hm
end
theorem putA_place (l : List C) (T : Tm) (a : List Int) (n : Int) (h : (⟨1, ⟨#[]⟩, n⟩ : C) ∈ T.flat) : 0 ≤ atA (putA l T a).2.2 n.toNat := by
 cases T with
 | f s us => exact layA_place (.f s us) _ _ n rfl h
 | i m => simp [Tm.flat] at h
 | v m =>
  simp [Tm.flat] at h
  subst h
  have := slotA_v_place n l.length 0 a
  rw [slotA_v] at this
  simp only [putA]
  split
  ·rename_i hh; rw [if_pos hh] at this; exact this
  ·rename_i hh; rw [if_neg hh] at this; exact this
mutual
theorem ok_var8 : ∀ (T : Tm), T.ok = true → ∀ n : Int, (⟨1, ⟨#[]⟩, n⟩ : C) ∈ T.flat → 0 ≤ n ∧ n ≤ 999
 | .v m, h, n, hn => by
  simp [Tm.flat] at hn
  subst hn
  simpa [Tm.ok] using h
 | .i m, _, n, hn => by simp [Tm.flat] at hn
 | .f s us, h, n, hn => by
  simp only [Tm.ok, Bool.and_eq_true] at h
  exact oks_var8 us h.2.2 n (by simpa [Tm.flat] using hn)
theorem oks_var8 : ∀ (us : List Tm), oks us = true → ∀ n : Int, (⟨1, ⟨#[]⟩, n⟩ : C) ∈ flats us → 0 ≤ n ∧ n ≤ 999
 | u :: us, h, n, hn => by
  rw [oks_cons, Bool.and_eq_true] at h
  rw [flats_cons] at hn
  rcases List.mem_append.1 hn with hn | hn
  ·exact ok_var8 u h.1 n hn
  ·exact oks_var8 us h.2 n hn
end
end Go.Proofs.YtgipiplklaeplaaDoor
namespace Go.Proofs.YtgipiplklaeplaaDoor
open Go.RowKit
def AtInj (a : List Int) : Prop := ∀ v u, 0 ≤ atA a v → atA a v = atA a u → v = u
def AtLt (a : List Int) (P : Nat) : Prop := ∀ v, atA a v < (P : Int)
theorem AtLt.mono {a : List Int} {P Q : Nat} (h : AtLt a P) (hPQ : P ≤ Q) : AtLt a Q := fun v => by have := h v; omega
theorem atInj_ext {a : List Int} (h : AtInj a) (v : Nat) : AtInj (extA a v) := fun x y hx he => by
 rw [atA_ext] at hx he
 rw [atA_ext] at he
 exact h x y hx he
theorem atLt_ext {a : List Int} {P : Nat} (h : AtLt a P) (v : Nat) : AtLt (extA a v) P := fun x => by rw [atA_ext]; exact h x
theorem atInj_set {a : List Int} {P : Nat} (h : AtInj a) (hl : AtLt a P) (v : Nat) : AtInj ((extA a v).set v P) ∧ AtLt ((extA a v).set v P) (P + 1) := by
 have e : ∀ u, atA ((extA a v).set v P) u = if u = v then (P : Int) else atA a u := fun u => by rw [atA_set (extA_len a v), atA_ext]
 refine ⟨fun x y hx he => ?_, fun x => ?_⟩
 ·rw [e] at hx he
  rw [e] at he
  by_cases e1 : x = v
  ·by_cases e2 : y = v
   ·rw [e1, e2]
   ·rw [if_pos e1, if_neg e2] at he
    have := hl y
    omega
  ·rw [if_neg e1] at hx he
   by_cases e2 : y = v
   ·rw [if_pos e2] at he
    have := hl x
    omega
   ·rw [if_neg e2] at he
    exact h x y hx he
 ·rw [e]
  split
  ·omega
  ·have := hl x; omega
theorem slotA_inj (u : Tm) (P q : Nat) {a : List Int} (h : AtInj a) (hl : AtLt a P) : AtInj (slotA u P q a).2 ∧ AtLt (slotA u P q a).2 (P + 1) := by
 cases u with
 | i n => exact ⟨h, hl.mono (by omega)⟩
 | f s us => exact ⟨h, hl.mono (by omega)⟩
 | v n =>
  rw [slotA_v]
  split
  ·exact atInj_set h hl _
  ·exact ⟨atInj_ext h _, (atLt_ext hl _).mono (by omega)⟩
theorem slotsA_inj : ∀ (us : List Tm) (P q : Nat) {a : List Int}, AtInj a → AtLt a P → AtInj (slotsA us P q a).2 ∧ AtLt (slotsA us P q a).2 (P + us.length)
 | [], P, q, a, h, hl => ⟨h, hl⟩
 | u :: us, P, q, a, h, hl => by
  obtain ⟨h1, h2⟩ := slotA_inj u P q h hl
  obtain ⟨h3, h4⟩ := slotsA_inj us (P + 1) (q + u.hs) h1 h2
  exact ⟨h3, h4.mono (by simp; omega)⟩
mutual
theorem layA_inj : ∀ (T : Tm) (P : Nat) {a : List Int}, AtInj a → AtLt a P → AtInj (layA T P a).2 ∧ AtLt (layA T P a).2 (P + T.hs)
 | .i _, P, a, h, hl => ⟨h, hl.mono (by omega)⟩
 | .v _, P, a, h, hl => ⟨h, hl.mono (by omega)⟩
 | .f s us, P, a, h, hl => by
  obtain ⟨h1, h2⟩ := slotsA_inj us (P + 1) (P + 1 + us.length) h (hl.mono (by omega))
  obtain ⟨h3, h4⟩ := laysA_inj us (P + 1 + us.length) h1 h2
  exact ⟨h3, h4.mono (by simp [Tm.hs]; omega)⟩
theorem laysA_inj : ∀ (us : List Tm) (P : Nat) {a : List Int}, AtInj a → AtLt a P → AtInj (laysA us P a).2 ∧ AtLt (laysA us P a).2 (P + hss us)
 | [], P, a, h, hl => ⟨h, hl.mono (by omega)⟩
 | u :: us, P, a, h, hl => by
  obtain ⟨h1, h2⟩ := layA_inj u P h hl
  obtain ⟨h3, h4⟩ := laysA_inj us (P + u.hs) h1 h2
  exact ⟨h3, h4.mono (by simp [hss]; omega)⟩
end
theorem putA_inj (l : List C) (T : Tm) {a : List Int} (h : AtInj a) (hl : AtLt a l.length) : AtInj (putA l T a).2.2 ∧ AtLt (putA l T a).2.2 (putA l T a).1.length := by
 cases T with
 | f s us =>
  obtain ⟨h1, h2⟩ := layA_inj (.f s us) l.length h hl
  exact ⟨h1, by simp only [putA, List.length_append, layA_len]; exact h2⟩
 | i n => exact ⟨h, hl.mono (by simp [putA])⟩
 | v n =>
  simp only [putA]
  split
  ·obtain ⟨h1, h2⟩ := atInj_set h hl n.toNat
   exact ⟨h1, by simpa using h2⟩
  ·exact ⟨atInj_ext h _, atLt_ext hl _⟩
theorem atF_pre {l L : List C} {a : List Int} (h : AtOk l 0 a) (hp : Pre l L) : AtOk L 0 a := fun v => by
 rcases h v with h | ⟨p, h1, h2, h3⟩
 ·exact .inl h
 ·rcases h3 with h3 | h3
  ·omega
  ·exact .inr ⟨p, h1, Nat.lt_of_lt_of_le h2 hp.le, .inr ⟨Nat.lt_of_lt_of_le h2 hp.le, by rw [hp.sAt h2]; exact h3.kind, by rw [hp.sAt h2]; exact h3.own⟩⟩
theorem putA_free {l : List C} {T : Tm} (ho : T.ok = true) {a : List Int} (h : AtOk l 0 a) : AtOk (putA l T a).1 0 (putA l T a).2.2 := by
 cases T with
 | f s us =>
  have h2 : AtOk (l ++ (layA (.f s us) l.length a).1) 0 a := atF_pre h (Pre.append _ _)
  exact (lay_ok (.f s us) l.length a (seg_append _ _) ho h2 (Nat.zero_le _)).1
 | i n => exact atF_pre h (Pre.append _ _)
 | v n =>
  simp only [putA]
  split
  ·have h2 : AtOk (l ++ [⟨1, emp, (l.length : Int)⟩]) 0 a := atF_pre h (Pre.append _ _)
   have hs : sAt (l ++ [(⟨1, emp, (l.length : Int)⟩ : C)]) l.length = ⟨1, emp, (l.length : Int)⟩ := sAt_get (by simp)
   exact atOk_set h2 ⟨by simp, by rw [hs], by rw [hs]⟩
  ·exact atOk_ext h _
def Tm.has (T : Tm) (n : Int) : Prop := (⟨1, ⟨#[]⟩, n⟩ : C) ∈ T.flat
mutual
theorem sub_congr {S R : Int → Tm} : ∀ T : Tm, (∀ n, T.has n → S n = R n) → T.sub S = T.sub R
 | .v n, h => h n (by simp [Tm.has, Tm.flat])
 | .i n, _ => rfl
 | .f s us, h => by
  simp only [Tm.sub]
  rw [subs_congr us (fun n hn => h n (by simp only [Tm.has, Tm.flat, List.mem_cons]; exact .inr hn))]
theorem subs_congr {S R : Int → Tm} : ∀ us : List Tm, (∀ n, (⟨1, ⟨#[]⟩, n⟩ : C) ∈ flats us → S n = R n) → subs S us = subs R us
 | [], _ => rfl
 | u :: us, h => by
  simp only [subs]
  rw [sub_congr u (fun n hn => h n (by rw [flats_cons]; exact List.mem_append.2 (.inl hn))), subs_congr us (fun n hn => h n (by rw [flats_cons]; exact List.mem_append.2 (.inr hn)))]
end
mutual
theorem sub_sub (S R : Int → Tm) : ∀ T : Tm, (T.sub S).sub R = T.sub (fun n => (S n).sub R)
 | .v n => rfl
 | .i n => rfl
 | .f s us => by simp only [Tm.sub]; rw [subs_subs S R us]
theorem subs_subs (S R : Int → Tm) : ∀ us : List Tm, subs R (subs S us) = subs (fun n => (S n).sub R) us
 | [] => rfl
 | u :: us => by simp only [subs]; rw [sub_sub S R u, subs_subs S R us]
end
open Classical in
noncomputable def invA (b : List Int) (x : Int) : Int := if h : ∃ n : Nat, atA b n = x then ((Classical.choose h : Nat) : Int) else 0
theorem invA_at {b : List Int} (h : AtInj b) {n : Nat} (hn : 0 ≤ atA b n) : invA b (atA b n) = (n : Int) := by
 unfold invA
 have hex : ∃ k : Nat, atA b k = atA b n := ⟨n, rfl⟩
 rw [dif_pos hex]
 have := h n _ hn (Classical.choose_spec hex).symm
 rw [← this]
noncomputable def modF (L : List C) (b : List Int) (R : Int → Tm) (p : Nat) : Tm := (den L p).sub (fun x => R (invA b x))
end Go.Proofs.YtgipiplklaeplaaDoor
