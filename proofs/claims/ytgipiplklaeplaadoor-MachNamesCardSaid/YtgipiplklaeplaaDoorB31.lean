/- Texts of this proof that belong together: words of memory, plain laws, walks. -/
import Derived.Test.YtgipiplklaeplaaDoorB30
set_option linter.unusedVariables false
set_option linter.unusedSimpArgs false
namespace Go.Proofs.YtgipiplklaeplaaDoor
open Go.RowKit
def Em (s s' : St) (P : List In → Prop) : Prop := ∃ u, s'.code = s.code ++ u ∧ P u
theorem Em.refl {s : St} {P : List In → Prop} (h : P []) : Em s s P := ⟨[], by simp, h⟩
theorem Em.trans {a b c : St} {P Q R : List In → Prop} (h : Em a b P) (h' : Em b c Q) (hr : ∀ u v, P u → Q v → R (u ++ v)) : Em a c R := by
 obtain ⟨u, h, hu⟩ := h
 obtain ⟨v, h', hv⟩ := h'
 exact ⟨u ++ v, by rw [h', h, List.append_assoc], hr u v hu hv⟩
theorem em_emit (s : St) (i : In) : Em s (s.emit i) (fun u => u = [i]) := ⟨[i], rfl, rfl⟩
theorem em_one (a b c : Int) (s : St) (t : Tm) (h : t.c0.kind ≠ 3) : Em s (oneF a b c s t) (fun u => ∃ i, u = [i] ∧ (i.op = a ∨ i.op = b ∨ i.op = c)) := by
 cases t with
 | v n =>
  refine ⟨[_], by simp only [oneF, St.emit, regF_code]; rfl, _, rfl, ?_⟩
  simp only
  split
  ·exact .inl rfl
  ·exact .inr (.inl rfl)
 | i n => exact ⟨[_], rfl, _, rfl, .inr (.inr rfl)⟩
 | f nm us => exact absurd rfl h
def isUni (i : In) : Prop := i.op = 5 ∨ i.op = 6 ∨ i.op = 7
def isSet (i : In) : Prop := i.op = 9 ∨ i.op = 10 ∨ i.op = 11
theorem em_unis : ∀ (ts : List Tm) (s : St), Em s (unisF s ts).1 (fun u => u.length = ts.length ∧ ∀ i ∈ u, isUni i)
 | [], s => Em.refl ⟨rfl, by simp⟩
 | t :: ts, s => by
  by_cases hk : t.c0.kind = 3
  ·rw [unisF_fun s t ts hk]
   have h := em_unis ts (s.emit { op := 5, x := (s.next : Int) }).bump
   obtain ⟨u, h1, h2, h3⟩ := h
   refine ⟨{ op := 5, x := (s.next : Int) } :: u, by rw [h1]; simp [St.bump, St.emit], by simp [h2], ?_⟩
   intro i hi
   rcases List.mem_cons.1 hi with rfl | hi
   ·exact .inl rfl
   ·exact h3 i hi
  ·rw [unisF_one s t ts hk]
   refine (em_one 5 6 7 s t hk).trans (em_unis ts _) ?_
   rintro u v ⟨i, rfl, hi⟩ ⟨h2, h3⟩
   refine ⟨by simp [h2], ?_⟩
   intro j hj
   simp at hj
   rcases hj with rfl | hj
   ·exact hi
   ·exact h3 j hj
theorem em_sets : ∀ (ts : List Tm) (xs : List Int) (s : St), xs.length = ts.length → Em s (setsF s ts xs) (fun u => u.length = ts.length ∧ ∀ i ∈ u, isSet i)
 | [], [], s, _ => Em.refl ⟨rfl, by simp⟩
 | t :: ts, x :: xs, s, hl => by
  have hl' : xs.length = ts.length := by simpa using hl
  by_cases hk : t.c0.kind = 3
  ·rw [setsF_fun _ _ _ _ _ hk]
   refine (em_emit s _).trans (em_sets ts xs _ hl') ?_
   rintro u v rfl ⟨h2, h3⟩
   refine ⟨by simp [h2], fun j hj => ?_⟩
   simp at hj
   rcases hj with rfl | hj
   ·exact .inr (.inl rfl)
   ·exact h3 j hj
  ·rw [setsF_one _ _ _ _ _ hk]
   refine (em_one 9 10 11 s t hk).trans (em_sets ts xs _ hl') ?_
   rintro u v ⟨i, rfl, hi⟩ ⟨h2, h3⟩
   refine ⟨by simp [h2], fun j hj => ?_⟩
   simp at hj
   rcases hj with rfl | hj
   ·exact hi
   ·exact h3 j hj
 | [], _ :: _, _, h => by simp at h
 | _ :: _, [], _, h => by simp at h
def BG (u : List In) : Prop := ∃ i us, u = i :: us ∧ i.op = 8 ∧ i.n = us.length ∧ ∀ x ∈ us, isSet x
def BGs (u : List In) : Prop := ∃ gs : List (List In), u = gs.flatten ∧ ∀ g ∈ gs, BG g
theorem BGs.append {u v : List In} (h : BGs u) (h' : BGs v) : BGs (u ++ v) := by
 obtain ⟨a, rfl, h⟩ := h
 obtain ⟨b, rfl, h'⟩ := h'
 exact ⟨a ++ b, by simp, fun g hg => (List.mem_append.1 hg).elim (h g) (h' g)⟩
theorem BGs.one {u : List In} (h : BG u) : BGs u := ⟨[u], by simp, by simpa using h⟩
mutual
theorem em_build : ∀ (t : Tm) (s : St), Em s (buildF s t).1 BGs
 | .v n, s => Em.refl ⟨[], rfl, by simp⟩
 | .i n, s => Em.refl ⟨[], rfl, by simp⟩
 | .f nm us, s => by
  rw [buildF_fun s _ rfl]
  have h1 := em_args us s
  have h2 := em_sets us (argsF s us).2 ((argsF s us).1.bump.emit { op := 8, a := (argsF s us).1.next, name := nm, n := us.length }) (argsF_len us s)
  refine h1.trans (R := BGs) (Q := BG) ?_ fun u v hu hv => hu.append (BGs.one hv)
  obtain ⟨u, h3, h4, h5⟩ := h2
  exact ⟨{ op := 8, a := (argsF s us).1.next, name := nm, n := us.length } :: u, by simp only [Tm.args, Tm.c0]; rw [h3]; simp [St.bump, St.emit], _, u, rfl, rfl, by rw [h4], h5⟩
theorem em_args : ∀ (ts : List Tm) (s : St), Em s (argsF s ts).1 BGs
 | [], s => Em.refl ⟨[], rfl, by simp⟩
 | t :: ts, s => by
  rw [argsF_cons]
  exact (em_build t s).trans (em_args ts _) fun u v hu hv => hu.append hv
end
theorem bodyF_cons' (s : St) (l : Ltl) (ls : List Ltl) : bodyF s (l :: ls) = bodyF ((buildF s l.t).1.emit { op := 12, a := (buildF s l.t).2, neg := l.neg }) ls := rfl
def funsC : List C → Nat
 | [] => 0
 | c :: cs => (if c.kind = 3 then 1 else 0) + funsC cs
theorem funsC_append : ∀ a b : List C, funsC (a ++ b) = funsC a + funsC b
 | [], b => by simp [funsC]
 | c :: a, b => by rw [List.cons_append, funsC, funsC, funsC_append a b, Nat.add_assoc]
def isF (t : Tm) : Nat := if t.c0.kind = 3 then 1 else 0
def nF' : List Tm → Nat
 | [] => 0
 | t :: ts => isF t + nF' ts
theorem funs_flat (t : Tm) : funsC t.flat = isF t + funsC (flats t.args) := by
 rw [flat_cons, funsC]; rfl
theorem funs_flats_cons (t : Tm) (ts : List Tm) : funsC (flats (t :: ts)) = isF t + funsC (flats t.args) + funsC (flats ts) := by
 rw [flats_cons, funsC_append, funs_flat]
def hwt (t : Tm) : Nat := 1 + sizes t.args + funsC (flats t.args)
def hwts : List (Tm × Int) → Nat
 | [] => 0
 | p :: r => hwt p.1 + hwts r
theorem hwts_append : ∀ a b : List (Tm × Int), hwts (a ++ b) = hwts a + hwts b
 | [], b => by simp [hwts]
 | p :: a, b => by rw [List.cons_append, hwts, hwts, hwts_append a b, Nat.add_assoc]
theorem one_len (a b c : Int) (s : St) (t : Tm) (h : t.c0.kind ≠ 3) : (oneF a b c s t).code.length = s.code.length + 1 := by
 obtain ⟨u, h1, i, rfl, _⟩ := em_one a b c s t h
 rw [h1]; simp
theorem unis_len : ∀ (ts : List Tm) (s : St), (unisF s ts).1.code.length + hwts (unisF s ts).2 = s.code.length + sizes ts + funsC (flats ts)
 | [], s => by simp [unisF, hwts, sizes, flats, funsC]
 | t :: ts, s => by
  rw [sizes_cons, size_args, funs_flats_cons]
  by_cases hk : t.c0.kind = 3
  ·rw [unisF_fun s t ts hk]
   have := unis_len ts (s.emit { op := 5, x := (s.next : Int) }).bump
   have e : (s.emit { op := 5, x := (s.next : Int) }).bump.code.length = s.code.length + 1 := by simp [St.bump, St.emit]
   simp only [hwts, hwt, isF, if_pos hk]
   omega
  ·rw [unisF_one s t ts hk]
   have := unis_len ts (oneF 5 6 7 s t)
   have e := one_len 5 6 7 s t hk
   have ha : t.args = [] := by cases t <;> first | rfl | exact absurd rfl hk
   simp only [isF, if_neg hk, ha, sizes, flats, funsC]
   omega
theorem head_len (s : St) (p : Tm × Int) : (headF s p).1.code.length + hwts (headF s p).2 = s.code.length + hwt p.1 := by
 obtain ⟨t, r⟩ := p
 cases t with
 | v n => simp [headF, St.emit, regF_code, hwts, hwt, Tm.args, sizes, flats, funsC]
 | i n => simp [headF, St.emit, hwts, hwt, Tm.args, sizes, flats, funsC]
 | f nm us =>
  rw [headF_fun s _ r rfl]
  have := unis_len (Tm.f nm us).args (s.emit { op := 4, a := r, name := (Tm.f nm us).c0.name, n := (Tm.f nm us).c0.n })
  rw [this]
  simp only [St.emit, hwt, List.length_append, List.length_singleton]
  omega
theorem heads_len : ∀ (f : Nat) (s : St) (row : List (Tm × Int)), rsz row ≤ f → (headsF f s row).code.length = s.code.length + hwts row
 | 0, s, [], _ => by simp [headsF, hwts]
 | 0, s, p :: row, h => by have := p.1.size_pos; simp only [rsz] at h; omega
 | f + 1, s, [], _ => by simp [headsF, hwts]
 | f + 1, s, p :: row, h => by
  rw [headsF_cons]
  have h1 := headF_rsz s p
  have h2 := head_len s p
  rw [heads_len f _ _ (by rw [rsz_append]; simp only [rsz] at h; omega), hwts_append]
  simp only [hwts]
  omega
theorem sets_len (ts : List Tm) (xs : List Int) (s : St) (h : xs.length = ts.length) : (setsF s ts xs).code.length = s.code.length + ts.length := by
 obtain ⟨u, h1, h2, _⟩ := em_sets ts xs s h
 rw [h1, List.length_append, h2]
def swt (t : Tm) : Nat := if t.c0.kind = 3 then sizes t.args + 1 + funsC (flats t.args) else 0
def swts : List Tm → Nat
 | [] => 0
 | t :: ts => swt t + swts ts
theorem swts_sum : ∀ ts : List Tm, swts ts + ts.length = sizes ts + funsC (flats ts)
 | [] => rfl
 | t :: ts => by
  have := swts_sum ts
  rw [sizes_cons, size_args, funs_flats_cons]
  simp only [swts, swt, isF, List.length_cons]
  split
  ·omega
  ·rename_i hk
   have ha : t.args = [] := by cases t <;> first | rfl | exact absurd rfl hk
   simp only [ha, sizes, flats, funsC]
   omega
mutual
theorem build_len : ∀ (t : Tm) (s : St), (buildF s t).1.code.length = s.code.length + swt t
 | .v n, s => rfl
 | .i n, s => rfl
 | .f nm us, s => by
  rw [buildF_fun s _ rfl]
  simp only [Tm.args]
  rw [sets_len us _ _ (argsF_len us s)]
  have h1 := args_len' us s
  have h2 := swts_sum us
  have e : swt (.f nm us) = sizes us + 1 + funsC (flats us) := rfl
  rw [e]
  simp only [St.emit, St.bump, List.length_append, List.length_singleton]
  omega
theorem args_len' : ∀ (ts : List Tm) (s : St), (argsF s ts).1.code.length = s.code.length + swts ts
 | [], s => rfl
 | t :: ts, s => by
  rw [argsF_cons]
  simp only
  rw [args_len' ts, build_len t s]
  simp only [swts]
  omega
end
def lwtC : List Ltl → Nat
 | [] => 0
 | l :: ls => (sizes l.t.args + funsC l.t.flat + 1) + lwtC ls
theorem body_len : ∀ (ls : List Ltl) (s : St), (∀ l ∈ ls, l.t.c0.kind = 3) → (bodyF s ls).code.length = s.code.length + lwtC ls
 | [], s, _ => rfl
 | l :: ls, s, h => by
  have hk := h l (by simp)
  rw [bodyF_cons', body_len ls _ fun x hx => h x (by simp [hx])]
  have h1 := build_len l.t s
  simp only [St.emit, List.length_append, List.length_singleton, lwtC]
  rw [h1]
  have h2 := funs_flat l.t
  simp only [swt, if_pos hk, isF] at h2 ⊢
  omega
theorem hwts_numbered : ∀ (ts : List Tm) (j : Nat), hwts (numbered j ts) + nF' ts = sizes ts + funsC (flats ts)
 | [], _ => rfl
 | t :: ts, j => by
  have := hwts_numbered ts (j + 1)
  have e : hwts (numbered j (t :: ts)) = hwt t + hwts (numbered (j + 1) ts) := rfl
  rw [e, sizes_cons, size_args, funs_flats_cons]
  simp only [hwt, nF']
  omega
theorem code_many (c : Cls) (hk : ∀ l ∈ c.body, l.t.c0.kind = 3) : (compF c).length + nF' c.head.args = sizes c.head.args + funsC (flats c.head.args) + lwtC c.body + 1 := by
 have h1 := body_len c.body (headsF (sizes c.head.args) (startF c.head) (numbered 0 c.head.args)) hk
 have h2 := heads_len (sizes c.head.args) (startF c.head) (numbered 0 c.head.args) (by rw [rsz_numbered]; exact Nat.le_refl _)
 have h3 := hwts_numbered c.head.args 0
 have e : (startF c.head).code.length = 0 := rfl
 rw [compF, List.length_append, h1, h2, e]
 simp
 omega
end Go.Proofs.YtgipiplklaeplaaDoor
