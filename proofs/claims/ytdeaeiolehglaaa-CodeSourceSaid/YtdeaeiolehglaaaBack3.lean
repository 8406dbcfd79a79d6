/- What the code of a clause is the code of: the walk of the program's Source at any clause's code. -/
import Derived.Test.YtdeaeiolehglaaaSrc2
import Derived.Test.YtdeaeiolehglaaaM13
import Derived.Test.YtdeaeiolehglaaaM7
import Derived.Test.YtdeaeiolehglaaaNumS
set_option linter.unusedVariables false
set_option linter.unusedSimpArgs false
namespace Go.Proofs.Ytdeaeiolehglaaa
open Go.RowKit

theorem funsC_le2 : ∀ l : List C, funsC l ≤ l.length
  | [] => Nat.le_refl _
  | c :: l => by
    have := funsC_le2 l
    rw [funsC, List.length_cons]
    split <;> omega
theorem lwtC_le2 : ∀ ls : List Ltl, (∀ l ∈ ls, l.t.size ≤ 200) → lwtC ls ≤ 400 * ls.length
  | [], _ => by simp [lwtC]
  | l :: ls, h => by
    have h1 := lwtC_le2 ls (fun x hx => h x (by simp [hx]))
    have h2 := h l (by simp)
    have h3 := size_args l.t
    have h4 := funsC_le2 l.t.flat
    have h5 := flat_size l.t
    rw [lwtC, List.length_cons]
    omega
/-- a clause's code is short -/
theorem compF_len4 {c : Cls} {r : Raw} (h : IsCls c r) : (compF c).length ≤ 4000 := by
  have h1 := code_many c fun l hl => (h.bok l hl).2.2
  have h2 := lwtC_le2 c.body fun l hl => (h.bok l hl).2.1
  have h3 := size_args c.head
  have h4 := funsC_le2 (flats c.head.args)
  have h5 := flats_size c.head.args
  have h6 := h.hok.2.1
  have h7 := h.len
  omega
theorem cls_may {c : Cls} {r : Raw} (h : IsCls c r) : mayB r = true := by
  have key : ∀ T : Tm, T.ok = true → T.size ≤ 200 → T.c0.kind = 3 → atomB T.flat = true := fun T h1 h2 h3 => by
    unfold atomB
    rw [right_flat h1 h2, flat_cons]
    simp [h3]
  obtain ⟨t, b⟩ := r
  obtain ⟨hh, ⟨hok, hsz, hk3⟩, hbody, hbok, hblen⟩ := h
  simp only at hh hbody
  subst hh hbody
  simp only [mayB, Bool.and_eq_true, decide_eq_true_eq, List.all_eq_true]
  refine ⟨key _ hok hsz hk3, by simpa using hblen, ?_⟩
  intro l hl
  obtain ⟨l', hl', rfl⟩ := List.mem_map.1 hl
  obtain ⟨h1, h2, h3⟩ := hbok l' hl'
  exact key _ h1 h2 h3
theorem comp_last {c : Cls} : ∃ u, compF c = u ++ [lastI c.head] := by
  unfold compF
  exact ⟨_, rfl⟩
theorem comp_end {c : Cls} {r : Raw} (h : IsCls c r) : endOk (lastI c.head) := by
  obtain ⟨nm, us, he⟩ := (c0_kind3 c.head).1 h.hok.2.2
  have h6 := args_len h.hok.1
  rw [he] at h6 ⊢
  simp [lastI, endOk, Tm.c0, Tm.args] at h6 ⊢
  omega
theorem comp_at {c : Cls} {l : List In} {e : In} (hc : compF c = l) (he : l[l.length - 1]? = some e) : lastI c.head = e := by
  obtain ⟨u, hu⟩ := comp_last (c := c)
  rw [hc] at hu
  rw [hu] at he
  simpa using he
/-- what the program's Source answers of any code that is not too long -/
def SrcGen (w : World) (l : List In) (e : Ending) (w' : World) : Prop :=
  (e = .returned (.tuple #[.agg #[.slice none 0 0, .slice none 0 0], .bool false]) ∧ (∀ c r, IsCls c r → compF c ≠ l) ∧ Below w.heap.size w w') ∨
  ∃ c A n cp B m d, IsCls c (numC c) ∧ compF c = l ∧ e = .returned (.tuple #[.agg #[.slice A n cp, .slice B m d], .bool true]) ∧ IsC w' A n cp (numC c).1 ∧ IsLs w' B m d (numC c).2 ∧ Below w.heap.size w w'
theorem numC_num {c c' : Cls} {r : Raw} (h : IsCls c r) (h' : IsCls c' (numC c)) (he : compF c' = compF c) : numC c' = numC c := (code_alike h' h).1 he
theorem source_gen (A : Option Addr) (n cap : Nat) (l : List In) (w : World) (h : IsK w A n cap l) (hn : n ≤ 4000) : Calls Try.prog 20 #[.slice A n cap] w (SrcGen w l) := by
  have hl := h.len
  rcases Nat.eq_zero_or_pos n with h0 | hpos
  · subst h0
    refine (source_none A cap w).mono ?_
    rintro e w' ⟨rfl, hb⟩
    refine .inl ⟨rfl, fun c r hc he => ?_, hb⟩
    obtain ⟨u, hu⟩ := comp_last (c := c)
    rw [he] at hu
    rw [hu] at hl
    simp at hl
  · obtain ⟨e, he⟩ : ∃ e, l[n - 1]? = some e := ⟨_, List.getElem?_eq_getElem (by omega)⟩
    have he' : l[l.length - 1]? = some e := by rw [hl]; exact he
    by_cases hok : endOk e
    · refine source_head A n cap l e w h hn he hok (candF l e) rfl _ ?_ ?_ ?_
      · intro hno w' hb
        refine .inl ⟨rfl, fun c r hc hcl => ?_, hb⟩
        have h1 := code_back hc
        rw [comp_at hcl he', hcl] at h1
        rw [h1, cls_may (numCls_is hc)] at hno
        cases hno
      · intro c' hc' hne w' hb
        refine .inl ⟨rfl, fun c r hc hcl => ?_, hb⟩
        have h1 := code_back hc
        rw [comp_at hcl he', hcl] at h1
        rw [h1] at hc'
        exact hne (by rw [hc'.inj (numCls_is hc), comp_num hc]; exact hcl)
      · intro c hc hcl A n c' B m d w' h1 h2 hb
        have h3 := code_back hc
        rw [comp_at hcl he', hcl] at h3
        exact .inr ⟨c, A, n, c', B, m, d, h3 ▸ hc, hcl, rfl, h3 ▸ h1, h3 ▸ h2, hb⟩
    · refine (source_end A n cap l e w h (by omega) he hok).mono ?_
      rintro q w' ⟨rfl, hb⟩
      refine .inl ⟨rfl, fun c r hc hcl => ?_, hb⟩
      exact hok (comp_at hcl he' ▸ comp_end hc)
/-- the program's Source of a clause's code -/
theorem source_comp {c : Cls} {r : Raw} (h : IsCls c r) (A : Option Addr) (n cap : Nat) (w : World) (hK : IsK w A n cap (compF c)) :
    Calls Try.prog 20 #[.slice A n cap] w (RetSrc w (numC c)) := by
  have hl := compF_len4 h
  have hkl := hK.len
  refine (source_gen A n cap _ w hK (by omega)).mono ?_
  rintro e w' (⟨_, hno, _⟩ | ⟨c', A, n, cp, B, m, d, hc', he, rfl, h1, h2, hb⟩)
  · exact absurd rfl (hno c r h)
  · have h3 := (code_alike hc' h).1 he
    rw [h3] at h1 h2
    exact ⟨A, n, cp, B, m, d, rfl, h1, h2, hb⟩
/-- code of which one instruction is left out -/
theorem makes_less {c c' : Cls} {r r' : Raw} (h : IsCls c r) (h' : IsCls c' r') {l : List In} {k : Nat} (hl : compF c = l) (hk : k < l.length) (he : compF c' = l.take k ++ l.drop (k + 1)) : k < l.length - 1 ∧ numC c ≠ numC c' := by
  have hlen : (compF c').length = l.length - 1 := by
    rw [he, List.length_append, List.length_take, List.length_drop]
    omega
  constructor
  · apply Classical.byContradiction
    intro hn
    have hk1 : k = l.length - 1 := by omega
    obtain ⟨u, hu, h13⟩ := code_no13 c
    obtain ⟨v, hv⟩ := comp_last (c := c')
    rw [hl] at hu
    have hul : k = u.length := by rw [hk1, hu]; simp
    rw [hu, hul, List.take_left' rfl, List.drop_of_length_le (by simp), List.append_nil] at he
    rw [hv] at he
    have := h13 (lastI c'.head) (by rw [← he]; simp)
    exact this rfl
  · intro e
    have h1 := congrArg List.length ((code_alike h h').2 e)
    rw [hl, hlen] at h1
    omega
end Go.Proofs.Ytdeaeiolehglaaa
