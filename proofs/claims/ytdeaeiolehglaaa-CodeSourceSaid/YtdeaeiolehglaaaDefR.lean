/- The document's reader of code and the program's gather the same out of a clause's code. No program in sight. -/
import Derived.Test.YtdeaeiolehglaaaDefS
set_option linter.unusedVariables false
set_option linter.unusedSimpArgs false
namespace Go.Proofs.Ytdeaeiolehglaaa
open Go.RowKit

/-! ### each argument is got once -/
def FreshG : Rm → List In → Prop
  | _, [] => True
  | M, i :: l => ((i.op = 1 ∨ i.op = 2 ∨ i.op = 3 ∨ i.op = 4) → Unset M i.a) ∧ FreshG (rdStep M i) l
theorem FreshG.append : ∀ {u v : List In} {M : Rm}, FreshG M u → FreshG (readG M u) v → FreshG M (u ++ v)
  | [], _, _, _, h => h
  | _ :: _, _, _, h, h' => ⟨h.1, FreshG.append h.2 h'⟩
theorem fresh_none : ∀ {u : List In} {M : Rm}, (∀ i ∈ u, ¬ (i.op = 1 ∨ i.op = 2 ∨ i.op = 3 ∨ i.op = 4)) → FreshG M u
  | [], _, _ => trivial
  | i :: u, M, h => ⟨fun hi => absurd hi (h i (by simp)), fresh_none fun j hj => h j (by simp [hj])⟩
theorem head_fresh {s : St} {p : Tm × Int} {row : List (Tm × Int)} {M : Rm} (h : HInv s (p :: row) M) : ∀ u, (headF s p).1.code = s.code ++ u → FreshG M u := by
  have hpu := h.unset p.2 (.inl ⟨p, by simp, rfl⟩)
  obtain ⟨t, g⟩ := p
  intro u hu
  cases t with
  | v n =>
    simp only [headF, St.emit, regF_code] at hu
    have := List.append_cancel_left hu
    subst this
    exact ⟨fun _ => hpu, trivial⟩
  | i n =>
    simp only [headF, St.emit] at hu
    have := List.append_cancel_left hu
    subst this
    exact ⟨fun _ => hpu, trivial⟩
  | f nm us =>
    rw [headF_fun s _ g rfl] at hu
    obtain ⟨w, hw, hl, hun⟩ := em_unis (Tm.f nm us).args (s.emit { op := 4, a := g, name := (Tm.f nm us).c0.name, n := (Tm.f nm us).c0.n })
    rw [hw] at hu
    simp only [St.emit, List.append_assoc] at hu
    have := List.append_cancel_left hu
    subst this
    exact ⟨fun _ => hpu, fresh_none fun i hi => by have := hun i hi; unfold isUni at this; omega⟩
theorem heads_fresh : ∀ (f : Nat) (s : St) (row : List (Tm × Int)) (M : Rm), rsz row ≤ f → HInv s row M → ∀ u, (headsF f s row).code = s.code ++ u → FreshG M u
  | 0, s, p :: row, M, hf, _ => by have := p.1.size_pos; simp only [rsz] at hf; omega
  | f, s, [], M, _, h => by
    rw [headsF_nil]
    intro u hu
    have : u = [] := by simpa using hu
    subst this
    trivial
  | f + 1, s, p :: row, M, hf, h => by
    rw [headsF_cons]
    have hrz := headF_rsz s p
    obtain ⟨u1, c1, i1, a1, l1, left, nw⟩ := head_read h
    have hf' : rsz (row ++ (headF s p).2) ≤ f := by rw [rsz_append]; simp only [rsz] at hf; omega
    obtain ⟨u2, c2, _⟩ := heads_read f (headF s p).1 (row ++ (headF s p).2) (readG M u1) hf' i1
    intro u hu
    rw [c2, c1, List.append_assoc] at hu
    have := List.append_cancel_left hu
    subst this
    exact (head_fresh h u1 c1).append (heads_fresh f _ _ _ hf' i1 u2 c2)
theorem bgs_ops {u : List In} (h : BGs u) : ∀ i ∈ u, ¬ (i.op = 1 ∨ i.op = 2 ∨ i.op = 3 ∨ i.op = 4) := by
  obtain ⟨gs, rfl, hg⟩ := h
  intro i hi
  obtain ⟨g, h1, h2⟩ := List.mem_flatten.1 hi
  have := hg g h1
  unfold BG isSet at this
  obtain ⟨j, us, he, hj, hl, hs⟩ := this
  subst he
  rcases List.mem_cons.1 h2 with rfl | h2
  · omega
  · have := hs i h2; omega
theorem body_ops : ∀ (ns : List Bool) (u : List In), BodyC ns u → ∀ i ∈ u, ¬ (i.op = 1 ∨ i.op = 2 ∨ i.op = 3 ∨ i.op = 4)
  | [], u, h, i, hi => by rw [show u = [] from h] at hi; simp at hi
  | n :: ns, u, h, i, hi => by
    obtain ⟨g, j, v, hu, hg, hj, hn, hv⟩ := h
    subst hu
    rcases List.mem_append.1 hi with hi | hi
    · exact bgs_ops hg i hi
    · rcases List.mem_cons.1 hi with rfl | hi
      · omega
      · exact body_ops ns v hv i hi
/-! ### what both gather -/
def partOf (i : In) : Dp := if i.op = 7 ∨ i.op = 11 then ⟨2, i.n⟩ else ⟨4, i.x⟩
def RelD (M : Rm) (D : List Dd) (N0 : Nat) (r : Int) : Prop :=
  (∃ n, lk M.ints r = some n ∧ getD' D r = { is := 2, n := n }) ∨
  (lk M.ints r = none ∧ ∃ h l, lk M.structs r = some (h :: l) ∧ getD' D r = { is := 3, name := h.name, n := h.n, parts := l.map partOf }) ∨
  (lk M.ints r = none ∧ lk M.structs r = none ∧ ∃ x, lk M.same r = some x ∧ getD' D r = { is := 4, n := x }) ∨
  (Unset M r ∧ ((N0 : Int) ≤ r → getD' D r = { is := 1 }))
theorem RelD.keep {M M' : Rm} {D D' : List Dd} {N0 : Nat} {r : Int} (h : RelD M D N0 r) (hl : Lk M M' r) (hd : getD' D' r = getD' D r) : RelD M' D' N0 r := by
  unfold RelD at h ⊢
  rw [hl.ints, hl.structs, hl.same, hd]
  rcases h with h | h | h | ⟨h1, h2⟩
  · exact .inl h
  · exact .inr (.inl h)
  · exact .inr (.inr (.inl h))
  · exact .inr (.inr (.inr ⟨h1.lk hl, h2⟩))
structure RMD (M : Rm) (D : List Dd) (N0 s : Nat) : Prop where
  le : s ≤ D.length
  hi : ∀ r : Int, (s : Int) ≤ r → Unset M r
  rel : ∀ r : Int, 0 ≤ r → r < s → RelD M D N0 r
  opn : M.opn = -1 ∨ (0 ≤ M.opn ∧ M.opn < s ∧ lk M.ints M.opn = none ∧ ∃ h l, lk M.structs M.opn = some (h :: l))
theorem getD_with (D : List Dd) {r j : Int} (x : Dd) (hr : 0 ≤ r ∧ r < D.length) (hj : 0 ≤ j) : getD' (withF D r x) j = if j = r then x else getD' D j := by
  unfold getD' withF
  rw [if_pos hr, List.getElem?_set]
  by_cases h : j = r
  · subst h
    rw [if_pos rfl, if_pos (by omega), if_pos rfl]; rfl
  · rw [if_neg (by omega), if_neg h]
theorem rmd_build {M M' : Rm} {D D' : List Dd} {N0 s s' : Nat} (h : RMD M D N0 s) (hl : s' ≤ D'.length) (hn0 : s ≤ s') (A : Int) (hkeep : ∀ r : Int, 0 ≤ r → r < s → r ≠ A → Lk M M' r ∧ getD' D' r = getD' D r)
    (hnew : ∀ r : Int, 0 ≤ r → r < s' → (r = A ∨ (s : Int) ≤ r) → RelD M' D' N0 r) (hhi : ∀ r : Int, (s' : Int) ≤ r → Lk M M' r)
    (hopn : M'.opn = -1 ∨ (0 ≤ M'.opn ∧ M'.opn < s' ∧ lk M'.ints M'.opn = none ∧ ∃ h l, lk M'.structs M'.opn = some (h :: l))) : RMD M' D' N0 s' := by
  refine ⟨hl, fun r hr => (h.hi r (by omega)).lk (hhi r hr), fun r h0 h1 => ?_, hopn⟩
  by_cases hA : r = A ∨ (s : Int) ≤ r
  · exact hnew r h0 h1 hA
  · have h2 : r < s := by omega
    obtain ⟨k1, k2⟩ := hkeep r h0 h2 (fun he => hA (.inl he))
    exact (h.rel r h0 h2).keep k1 k2
/-- the open structure's register, when another one is turned -/
theorem opn_keep {M M' : Rm} {s s' : Nat} (h : M.opn = -1 ∨ (0 ≤ M.opn ∧ M.opn < s ∧ lk M.ints M.opn = none ∧ ∃ h l, lk M.structs M.opn = some (h :: l))) (hs : s ≤ s') (ho : M'.opn = M.opn) (hl : 0 ≤ M.opn → lk M'.ints M.opn = lk M.ints M.opn ∧ lk M'.structs M.opn = lk M.structs M.opn) :
    M'.opn = -1 ∨ (0 ≤ M'.opn ∧ M'.opn < s' ∧ lk M'.ints M'.opn = none ∧ ∃ h l, lk M'.structs M'.opn = some (h :: l)) := by
  rw [ho]
  rcases h with h | ⟨h1, h2, h3, h4⟩
  · exact .inl h
  · obtain ⟨k1, k2⟩ := hl h1
    exact .inr ⟨h1, by omega, by rw [k1]; exact h3, by rw [k2]; exact h4⟩
/-- a part behind the open structure -/
theorem part_step {M : Rm} {D : List Dd} {N0 s : Nat} (h : RMD M D N0 s) {i : In} (hp : isPart i) : RMD (rdStep M i) (partF D M.opn (partOf i)) N0 s ∧ (rdStep M i).opn = M.opn := by
  have hp' := hp
  unfold isPart at hp'
  rcases h.opn with ho | ⟨h0, h1, h2, hd, l, h3⟩
  · have e1 : rdStep M i = M := by
      unfold rdStep
      rw [if_neg (by omega), if_neg (by omega), if_neg (by omega), if_neg (by omega)]
    have e2 : partF D M.opn (partOf i) = D := by unfold partF; rw [if_neg (by omega)]
    rw [e1, e2]
    exact ⟨h, rfl⟩
  · have hle := h.le
    have e1 : rdStep M i = { M with structs := pt M.structs M.opn (hd :: l ++ [i]) } := by
      unfold rdStep
      rw [if_neg (by omega), if_neg (by omega), if_neg (by omega), if_pos ⟨hp, h0⟩, h3]
      rfl
    have hrel := h.rel _ h0 h1
    have hg : getD' D M.opn = { is := 3, name := hd.name, n := hd.n, parts := l.map partOf } := by
      rcases hrel with ⟨n, k, _⟩ | ⟨_, h', l', k, g⟩ | ⟨_, k, _⟩ | ⟨k, _⟩
      · rw [h2] at k; cases k
      · rw [h3] at k; cases k; exact g
      · rw [h3] at k; cases k
      · have := k.structs; rw [h3] at this; cases this
    have hrng : 0 ≤ M.opn ∧ M.opn < D.length := ⟨h0, by omega⟩
    have e2 : partF D M.opn (partOf i) = withF D M.opn { is := 3, name := hd.name, n := hd.n, parts := l.map partOf ++ [partOf i] } := by
      unfold partF; rw [if_pos hrng, hg]
    rw [e1, e2]
    refine ⟨rmd_build h (by rw [withF_len]; exact hle) (Nat.le_refl _) M.opn (fun r r0 r1 r2 => ⟨⟨rfl, rfl, by simp only [lk_pt]; rw [if_neg (fun he => r2 he.symm)]⟩, by rw [getD_with _ _ hrng r0, if_neg r2]⟩) (fun r r0 r1 r2 => ?_) (fun r hr => ⟨rfl, rfl, by simp only [lk_pt]; rw [if_neg (by omega)]⟩) (.inr ⟨h0, h1, h2, hd, l ++ [i], by simp only [lk_pt]; rw [if_pos trivial]; rfl⟩), rfl⟩
    have : r = M.opn := by omega
    subst this
    exact .inr (.inl ⟨h2, hd, l ++ [i], by simp only [lk_pt]; rw [if_pos trivial]; rfl, by rw [getD_with _ _ hrng r0, if_pos rfl]; simp⟩)
/-- a new register -/
theorem new_step {M : Rm} {D : List Dd} {N0 s : Nat} (h : RMD M D N0 s) (hl : s + 1 ≤ D.length) : RMD M (withF D s { is := 1 }) N0 (s + 1) := by
  have hrng : 0 ≤ (s : Int) ∧ (s : Int) < D.length := ⟨by omega, by omega⟩
  refine rmd_build h (by rw [withF_len]; exact hl) (by omega) (s : Int) (fun r r0 r1 r2 => ⟨Lk.refl _ _, by rw [getD_with _ _ hrng r0, if_neg r2]⟩) (fun r r0 r1 r2 => ?_) (fun r hr => Lk.refl _ _) (opn_keep h.opn (by omega) rfl fun _ => ⟨rfl, rfl⟩)
  have : r = s := by omega
  subst this
  exact .inr (.inr (.inr ⟨h.hi _ (Int.le_refl _), fun _ => by rw [getD_with _ _ hrng r0, if_pos rfl]⟩))
/-- an argument that is got -/
theorem got_step {M : Rm} {D : List Dd} {N0 s : Nat} (h : RMD M D N0 s) {i : In} {x : Dd} (hr : 0 ≤ i.a ∧ i.a < s) (hu : Unset M i.a)
    (hx : (i.op = 1 ∨ i.op = 2) ∧ x = { is := 4, n := i.x } ∨ i.op = 3 ∧ x = { is := 2, n := i.n } ∨ i.op = 4 ∧ x = { is := 3, name := i.name, n := i.n }) : RMD (rdStep M i) (withF D i.a x) N0 s ∧ (rdStep M i).opn = if i.op = 4 then i.a else M.opn := by
  have hle := h.le
  have hrng : 0 ≤ i.a ∧ i.a < D.length := ⟨hr.1, by omega⟩
  have hne : 0 ≤ M.opn → M.opn ≠ i.a := fun h0 he => by
    rcases h.opn with ho | ⟨_, _, _, hd, l, h3⟩
    · omega
    · rw [he, hu.structs] at h3; cases h3
  have hkD : ∀ r : Int, 0 ≤ r → r ≠ i.a → getD' (withF D i.a x) r = getD' D r := fun r r0 r2 => by rw [getD_with _ _ hrng r0, if_neg r2]
  have hkA : getD' (withF D i.a x) i.a = x := by rw [getD_with _ _ hrng hr.1, if_pos rfl]
  rcases hx with ⟨ho, rfl⟩ | ⟨ho, rfl⟩ | ⟨ho, rfl⟩
  · have e1 : rdStep M i = { M with same := pt M.same i.a i.x } := by unfold rdStep; rw [if_pos ho]
    rw [e1, if_neg (by omega)]
    refine ⟨rmd_build h (by rw [withF_len]; exact hle) (Nat.le_refl _) i.a (fun r r0 r1 r2 => ⟨⟨by simp only [lk_pt]; rw [if_neg (fun he => r2 he.symm)], rfl, rfl⟩, hkD r r0 r2⟩) (fun r r0 r1 r2 => ?_) (fun r hr' => ⟨by simp only [lk_pt]; rw [if_neg (by omega)], rfl, rfl⟩) (opn_keep h.opn (Nat.le_refl _) rfl fun _ => ⟨rfl, rfl⟩), rfl⟩
    have : r = i.a := by omega
    subst this
    exact .inr (.inr (.inl ⟨hu.ints, hu.structs, i.x, by simp only [lk_pt]; rw [if_pos trivial], hkA⟩))
  · have e1 : rdStep M i = { M with ints := pt M.ints i.a i.n } := by unfold rdStep; rw [if_neg (by omega), if_pos ho]
    rw [e1, if_neg (by omega)]
    refine ⟨rmd_build h (by rw [withF_len]; exact hle) (Nat.le_refl _) i.a (fun r r0 r1 r2 => ⟨⟨rfl, by simp only [lk_pt]; rw [if_neg (fun he => r2 he.symm)], rfl⟩, hkD r r0 r2⟩) (fun r r0 r1 r2 => ?_) (fun r hr' => ⟨rfl, by simp only [lk_pt]; rw [if_neg (by omega)], rfl⟩) (opn_keep h.opn (Nat.le_refl _) rfl fun h0 => ⟨by simp only [lk_pt]; rw [if_neg (fun he => hne h0 he.symm)], rfl⟩), rfl⟩
    have : r = i.a := by omega
    subst this
    exact .inl ⟨i.n, by simp only [lk_pt]; rw [if_pos trivial], hkA⟩
  · have e1 : rdStep M i = { M with structs := pt M.structs i.a [i], opn := i.a } := by unfold rdStep; rw [if_neg (by omega), if_neg (by omega), if_pos (.inl ho)]
    rw [e1, if_pos ho]
    refine ⟨rmd_build h (by rw [withF_len]; exact hle) (Nat.le_refl _) i.a (fun r r0 r1 r2 => ⟨⟨rfl, rfl, by simp only [lk_pt]; rw [if_neg (fun he => r2 he.symm)]⟩, hkD r r0 r2⟩) (fun r r0 r1 r2 => ?_) (fun r hr' => ⟨rfl, rfl, by simp only [lk_pt]; rw [if_neg (by omega)]⟩) (.inr ⟨hr.1, hr.2, hu.ints, i, [], by simp only [lk_pt]; rw [if_pos trivial]⟩), rfl⟩
    have : r = i.a := by omega
    subst this
    exact .inr (.inl ⟨hu.ints, i, [], by simp only [lk_pt]; rw [if_pos trivial], hkA⟩)
theorem rmd_step {M : Rm} {D : List Dd} {N0 s s' : Nat} {i : In} (h : RMD M D N0 s) (hs : Sets s i s') (hl : s' ≤ D.length) (hf : (i.op = 1 ∨ i.op = 2 ∨ i.op = 3 ∨ i.op = 4) → Unset M i.a) :
    RMD (rdStep M i) (dfStep (D, M.opn) i).1 N0 s' ∧ (dfStep (D, M.opn) i).2 = (rdStep M i).opn := by
  have hle := h.le
  have e57 : ∀ {op : Int}, i.op = op → (op = 5 ∨ op = 6 ∨ op = 9 ∨ op = 10) → partOf i = ⟨4, i.x⟩ := fun h1 h2 => by unfold partOf; rw [if_neg (by omega)]
  rcases hs.cases with ⟨e, ho, hx, ha⟩ | ⟨e, ho, hx, ha⟩ | ⟨e, ho, ha, hx⟩ | ⟨e, ho, hx0, hx, ha⟩ | ⟨e, ho, hx, ha⟩ | ⟨e, ho, hx, ha⟩ | ⟨e, ho, hx, ha⟩
  · subst e
    have h1 := new_step h hl
    have h2 := got_step (i := i) (x := { is := 4, n := i.x }) h1 ⟨ha.1, by omega⟩ (hf (by omega)) (.inl ⟨.inl ho, rfl⟩)
    rw [if_neg (by omega)] at h2
    have ed : dfStep (D, M.opn) i = (withF (withF D s { is := 1 }) i.a { is := 4, n := i.x }, M.opn) := by unfold dfStep; rw [if_pos ho, hx]
    rw [ed]
    exact ⟨h2.1, h2.2.symm⟩
  · subst e
    have h1 := new_step h hl
    have h2 := part_step h1 (i := i) (by unfold isPart; omega)
    have ed : dfStep (D, M.opn) i = (partF (withF D s { is := 1 }) M.opn (partOf i), M.opn) := by
      unfold dfStep partOf; rw [if_neg (by omega), if_neg (by omega), if_neg (by omega), if_neg (by omega), if_pos ho, if_neg (by omega), hx]
    rw [ed]
    exact ⟨h2.1, h2.2.symm⟩
  · subst e
    have e1 : rdStep M i = { M with structs := pt M.structs i.a [i], opn := i.a } := by unfold rdStep; rw [if_neg (by omega), if_neg (by omega), if_pos (.inr ho)]
    have ed : dfStep (D, M.opn) i = (withF D i.a { is := 3, name := i.name, n := i.n }, i.a) := by
      unfold dfStep; rw [if_neg (by omega), if_neg (by omega), if_neg (by omega), if_pos (.inr ho)]
    rw [e1, ed]
    have hrng : 0 ≤ i.a ∧ i.a < D.length := ⟨by omega, by omega⟩
    have hu := h.hi i.a (by omega)
    refine ⟨rmd_build h (by rw [withF_len]; exact hl) (by omega) i.a (fun r r0 r1 r2 => ⟨⟨rfl, rfl, by simp only [lk_pt]; rw [if_neg (fun he => r2 he.symm)]⟩, by rw [getD_with _ _ hrng r0, if_neg r2]⟩) (fun r r0 r1 r2 => ?_) (fun r hr' => ⟨rfl, rfl, by simp only [lk_pt]; rw [if_neg (by omega)]⟩) (.inr ⟨by simp only; omega, by simp only; omega, hu.ints, i, [], by simp only [lk_pt]; rw [if_pos trivial]⟩), rfl⟩
    have : r = i.a := by omega
    subst this
    exact .inr (.inl ⟨hu.ints, i, [], by simp only [lk_pt]; rw [if_pos trivial], by rw [getD_with _ _ hrng r0, if_pos rfl]; rfl⟩)
  · subst e
    have h2 := got_step (i := i) (x := { is := 4, n := i.x }) h ha (hf (by omega)) (.inl ⟨.inr ho, rfl⟩)
    rw [if_neg (by omega)] at h2
    have ed : dfStep (D, M.opn) i = (withF D i.a { is := 4, n := i.x }, M.opn) := by unfold dfStep; rw [if_neg (by omega), if_pos ho]
    rw [ed]
    exact ⟨h2.1, h2.2.symm⟩
  · subst e
    by_cases h3 : i.op = 3
    · have h2 := got_step (i := i) (x := { is := 2, n := i.n }) h ha (hf (by omega)) (.inr (.inl ⟨h3, rfl⟩))
      rw [if_neg (by omega)] at h2
      have ed : dfStep (D, M.opn) i = (withF D i.a { is := 2, n := i.n }, M.opn) := by unfold dfStep; rw [if_neg (by omega), if_neg (by omega), if_pos h3]
      rw [ed]
      exact ⟨h2.1, h2.2.symm⟩
    · by_cases h4 : i.op = 4
      · have h2 := got_step (i := i) (x := { is := 3, name := i.name, n := i.n }) h ha (hf (by omega)) (.inr (.inr ⟨h4, rfl⟩))
        rw [if_pos h4] at h2
        have ed : dfStep (D, M.opn) i = (withF D i.a { is := 3, name := i.name, n := i.n }, i.a) := by unfold dfStep; rw [if_neg (by omega), if_neg (by omega), if_neg (by omega), if_pos (.inl h4)]
        rw [ed]
        exact ⟨h2.1, h2.2.symm⟩
      · have e1 : rdStep M i = M := by unfold rdStep isPart; rw [if_neg (by omega), if_neg (by omega), if_neg (by omega), if_neg (by omega)]
        have ed : dfStep (D, M.opn) i = (D, M.opn) := by unfold dfStep; rw [if_neg (by omega), if_neg (by omega), if_neg (by omega), if_neg (by omega), if_neg (by omega), if_neg (by omega), if_neg (by omega)]
        rw [e1, ed]
        exact ⟨h, rfl⟩
  · subst e
    have h2 := part_step h (i := i) (by unfold isPart; omega)
    have ed : dfStep (D, M.opn) i = (partF D M.opn (partOf i), M.opn) := by
      unfold dfStep partOf; rw [if_neg (by omega), if_neg (by omega), if_neg (by omega), if_neg (by omega), if_neg (by omega), if_pos ho, if_neg (by omega)]
    rw [ed]
    exact ⟨h2.1, h2.2.symm⟩
  · subst e
    by_cases h13 : i.op = 13
    · have e1 : rdStep M i = M := by unfold rdStep isPart; rw [if_neg (by omega), if_neg (by omega), if_neg (by omega), if_neg (by omega)]
      have ed : dfStep (D, M.opn) i = (D, M.opn) := by unfold dfStep; rw [if_neg (by omega), if_neg (by omega), if_neg (by omega), if_neg (by omega), if_neg (by omega), if_neg (by omega), if_neg (by omega)]
      rw [e1, ed]
      exact ⟨h, rfl⟩
    · have h2 := part_step h (i := i) (by unfold isPart; omega)
      have ed : dfStep (D, M.opn) i = (partF D M.opn (partOf i), M.opn) := by
        unfold dfStep partOf; rw [if_neg (by omega), if_neg (by omega), if_neg (by omega), if_neg (by omega), if_neg (by omega), if_neg (by omega), if_pos (by omega), if_pos (by omega)]
      rw [ed]
      exact ⟨h2.1, h2.2.symm⟩
theorem rmd_all {N0 n : Nat} : ∀ (l : List In) (M : Rm) (D : List Dd) (s : Nat), RMD M D N0 s → Once n s l → n ≤ D.length → FreshG M l → RMD (readG M l) (dfG (D, M.opn) l).1 N0 n
  | [], M, D, s, h, ho, _, _ => by
    rw [Once] at ho
    subst ho
    exact h
  | i :: l, M, D, s, h, ho, hn, hf => by
    rw [Once] at ho
    obtain ⟨_, _, j, hj, hs, hr⟩ := ho
    obtain ⟨h1, h2⟩ := rmd_step h hs (by omega) hf.1
    have := rmd_all l (rdStep M i) (dfStep (D, M.opn) i).1 j h1 hr (by rw [dfStep_len]; exact hn) hf.2
    rw [← h2] at this
    exact this
end Go.Proofs.Ytdeaeiolehglaaa
