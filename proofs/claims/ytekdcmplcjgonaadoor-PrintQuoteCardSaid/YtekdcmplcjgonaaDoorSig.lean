/- Which bytes stand in texts. No program in sight. -/
import Derived.Test.YtekdcmplcjgonaaDoorB4
import Derived.Test.YtekdcmplcjgonaaDoorLP3
set_option linter.unusedVariables false
set_option linter.unusedSimpArgs false
namespace Go.Proofs.YtekdcmplcjgonaaDoor
open Go.RowKit

def visB (c : UInt8) : Bool := 32 ≤ c && c ≤ 126
theorem vis_iff (c : UInt8) : visB c = true ↔ 32 ≤ c.toNat ∧ c.toNat ≤ 126 := by
  unfold visB
  simp only [Bool.and_eq_true, decide_eq_true_eq, UInt8.le_iff_toNat_le]
  have e1 : (32 : UInt8).toNat = 32 := rfl
  have e2 : (126 : UInt8).toNat = 126 := rfl
  rw [e1, e2]
theorem vis_dig {c : UInt8} (h : digB c = true) : visB c = true := by
  rw [vis_iff]
  unfold digB at h
  simp only [Bool.and_eq_true, decide_eq_true_eq, UInt8.le_iff_toNat_le] at h
  have e1 : (48 : UInt8).toNat = 48 := rfl
  have e2 : (57 : UInt8).toNat = 57 := rfl
  omega
def Vis (l : List UInt8) : Prop := ∀ c ∈ l, visB c = true
theorem Vis.append {a b : List UInt8} (h1 : Vis a) (h2 : Vis b) : Vis (a ++ b) := fun c hc => by
  rcases List.mem_append.1 hc with h | h
  · exact h1 c h
  · exact h2 c h
theorem Vis.cons {c : UInt8} {l : List UInt8} (h1 : visB c = true) (h2 : Vis l) : Vis (c :: l) := fun d hd => by
  rcases List.mem_cons.1 hd with rfl | h
  · exact h1
  · exact h2 d h
theorem Vis.nil : Vis [] := fun c hc => by cases hc
theorem vis_dec (u : Nat) : Vis (Lib.decDigits u) := fun c hc => vis_dig ((valD_dec u u (Nat.le_refl _)).2 c hc)
theorem vis_name {s : ByteArray} (h : okName s = true) : Vis (bytesOf s) := fun c hc => by
  unfold okName at h
  rw [Bool.and_eq_true, Bool.not_eq_true', ← Bool.not_eq_true, List.any_eq_true] at h
  rw [vis_iff]
  have h1 : oddB c = false := by
    cases ho : oddB c with
    | false => rfl
    | true => exact absurd ⟨c, hc, ho⟩ h.1
  unfold oddB at h1
  simp at h1
  omega
theorem vis_quote {s : ByteArray} (h : okName s = true) : Vis (quoteN (bytesOf s)) := by
  unfold quoteN
  split
  · exact vis_name h
  · exact Vis.cons (by decide) ((vis_name h).append (Vis.cons (by decide) Vis.nil))
theorem vis_var (n : Nat) : Vis (varName n) := by
  refine Vis.cons ?_ ?_
  · rw [vis_iff]
    have hc : (UInt8.ofNat (65 + n % 26)).toNat = 65 + n % 26 := by simp; omega
    omega
  · split
    · exact Vis.nil
    · exact vis_dec _
theorem vis_int (n : Int) : Vis (Lib.itoa n) := by
  unfold Lib.itoa
  split
  · exact Vis.cons (by decide) (vis_dec _)
  · exact vis_dec _
theorem vis_op {s : ByteArray} (h : okName s = true) : Vis (32 :: (bytesOf s ++ [32])) := Vis.cons (by decide) ((vis_name h).append (Vis.cons (by decide) Vis.nil))
theorem vis_all : ∀ N : Nat, (∀ T : Tm, T.size ≤ N → T.ok = true → Vis (prT T) ∧ Vis (prL T)) ∧ (∀ ts : List Tm, sizes ts ≤ N → oks ts = true → Vis (prC ts) ∧ Vis (prA ts)) := by
  intro N
  induction N with
  | zero =>
    refine ⟨fun T h => absurd T.size_pos (by omega), fun ts h _ => ?_⟩
    cases ts with
    | nil => exact ⟨by rw [prC]; exact Vis.nil, Vis.nil⟩
    | cons t ts => rw [sizes_cons] at h; have := t.size_pos; omega
  | succ N ih =>
    obtain ⟨ihT, ihA⟩ := ih
    have hT : ∀ T : Tm, T.size ≤ N + 1 → T.ok = true → Vis (prT T) := by
      intro T hs hok
      match T with
      | .v n => rw [prT]; exact vis_var _
      | .i n => rw [prT]; exact vis_int _
      | .f s [] =>
        have ho : okName s = true := by simp [Tm.ok] at hok; exact hok.1
        rw [prT]
        split
        · exact Vis.cons (by decide) (Vis.cons (by decide) Vis.nil)
        · exact vis_quote ho
      | .f s (a :: ts) =>
        simp only [Tm.ok, oks_cons, Bool.and_eq_true, decide_eq_true_eq] at hok
        obtain ⟨ho, _, hoa, hots⟩ := hok
        have hsz : (Tm.f s (a :: ts)).size = 1 + (a.size + sizes ts) := by rw [Tm.size, sizes_cons]
        have hva := ihT a (by omega) hoa
        by_cases c1 : bytesOf s = [45] ∧ ts = []
        · obtain ⟨c1, rfl⟩ := c1
          rw [prT, if_pos c1]
          exact Vis.cons (by decide) (Vis.cons (by decide) (hva.1.append (Vis.cons (by decide) Vis.nil)))
        by_cases c2 : opN (bytesOf s) = true ∧ ts.length = 1
        · obtain ⟨c2, hl⟩ := c2
          match ts, hl with
          | [b], _ =>
            rw [oks_cons, Bool.and_eq_true] at hots
            rw [sizes_cons] at hsz
            have hvb := ihT b (by omega) hots.1
            rw [prT, if_pos c2]
            refine Vis.cons (by decide) (hva.1.append (Vis.cons (by decide) ((vis_name ho).append (Vis.cons (by decide) (hvb.1.append (Vis.cons (by decide) Vis.nil))))))
        by_cases c3 : bytesOf s = [46] ∧ ts.length = 1
        · obtain ⟨c3, hl⟩ := c3
          match ts, hl with
          | [b], _ =>
            rw [oks_cons, Bool.and_eq_true] at hots
            rw [sizes_cons] at hsz
            have hvb := ihT b (by omega) hots.1
            rw [prT, if_neg (fun h => c2 ⟨h, rfl⟩), if_pos c3]
            exact Vis.cons (by decide) (hva.1.append hvb.2)
        rw [prT_named c1 c2 c3]
        have hA := ihA (a :: ts) (by rw [sizes_cons]; omega) (by rw [oks_cons, hoa, hots]; rfl)
        exact (vis_quote ho).append (Vis.cons (by decide) (hA.2.append (Vis.cons (by decide) Vis.nil)))
    have hL : ∀ T : Tm, T.size ≤ N + 1 → T.ok = true → Vis (prL T) := by
      intro T hs hok
      by_cases e1 : T = .f ⟨#[91, 93]⟩ []
      · subst e1; rw [prL, if_pos (by decide)]; exact Vis.cons (by decide) Vis.nil
      by_cases e2 : ∃ x y, T = .f ⟨#[46]⟩ [x, y]
      · obtain ⟨x, y, rfl⟩ := e2
        simp only [Tm.ok, oks_cons, Bool.and_eq_true] at hok
        have hsz : (Tm.f ⟨#[46]⟩ [x, y]).size = 1 + (x.size + (y.size + 0)) := by rw [Tm.size, sizes_cons, sizes_cons, sizes]
        rw [prL, if_pos (by decide)]
        exact Vis.cons (by decide) ((ihT x (by omega) hok.2.2.1).1.append (ihT y (by omega) hok.2.2.2.1).2)
      · rw [prL_other hok e1 (fun x y h => e2 ⟨x, y, h⟩)]
        exact Vis.cons (by decide) ((hT T hs hok).append (Vis.cons (by decide) Vis.nil))
    refine ⟨fun T h1 h2 => ⟨hT T h1 h2, hL T h1 h2⟩, fun ts hs hok => ?_⟩
    cases ts with
    | nil => exact ⟨by rw [prC]; exact Vis.nil, Vis.nil⟩
    | cons t ts =>
      rw [sizes_cons] at hs
      rw [oks_cons, Bool.and_eq_true] at hok
      have htp := t.size_pos
      have h1 := hT t (by omega) hok.1
      have h2 := ihA ts (by omega) hok.2
      exact ⟨by rw [prC]; exact Vis.cons (by decide) (h1.append h2.1), by rw [prA]; exact h1.append h2.1⟩
theorem vis_term {T : Tm} (h : T.ok = true) : Vis (prT T) := ((vis_all T.size).1 T (Nat.le_refl _) h).1
theorem vis_lits : ∀ (l : List (Bool × Tm)) (k : Nat), (∀ p ∈ l, p.2.ok = true) → Vis (litsTx k l)
  | [], _, _ => by rw [litsTx]; exact Vis.nil
  | p :: l, k, h => by
    rw [litsTx, litTx]
    refine ((Vis.append ?_ ?_).append (vis_term (h p (by simp)))).append (vis_lits l (k + 1) fun q hq => h q (by simp [hq]))
    · split <;> (intro c hc; simp at hc; rcases hc with rfl | rfl | rfl | rfl <;> decide)
    · split
      · intro c hc; simp at hc; rcases hc with rfl | rfl | rfl <;> decide
      · exact Vis.nil
/-- each line feed stands behind a full stop; the other bytes are seen -/
def Lined (S : List UInt8) : Prop := ∀ (i : Nat) (c : UInt8), S[i]? = some c → (c = 10 ∧ 0 < i ∧ S[i - 1]? = some 46) ∨ (c ≠ 10 ∧ visB c = true)
theorem Lined.append {a b : List UInt8} (h1 : Lined a) (h2 : Lined b) : Lined (a ++ b) := by
  intro i c hi
  rw [List.getElem?_append] at hi
  split at hi
  · rename_i hlt
    rcases h1 i c hi with ⟨e, h3, h4⟩ | h3
    · exact .inl ⟨e, h3, by rw [List.getElem?_append_left (by omega)]; exact h4⟩
    · exact .inr h3
  · rename_i hlt
    rcases h2 _ c hi with ⟨e, h3, h4⟩ | h3
    · refine .inl ⟨e, by omega, ?_⟩
      rw [List.getElem?_append_right (by omega), show i - 1 - a.length = i - a.length - 1 by omega]
      exact h4
    · exact .inr h3
theorem vis_not10 {c : UInt8} (h : visB c = true) : c ≠ 10 := by rintro rfl; exact absurd h (by decide)
theorem lined_line {p : List UInt8} (h : Vis p) : Lined (p ++ [46] ++ [10]) := by
  intro i c hi
  rw [List.getElem?_append] at hi
  split at hi
  · rename_i hlt
    have hm := List.mem_of_getElem? hi
    have hv := (h.append (Vis.cons (c := 46) (by decide) Vis.nil)) c hm
    exact .inr ⟨vis_not10 hv, hv⟩
  · rename_i hlt
    have := (List.getElem?_eq_some_iff.1 hi).1
    simp at this hlt
    obtain rfl : i = p.length + 1 := by omega
    simp at hi
    refine .inl ⟨hi.symm, by omega, ?_⟩
    simp
def cnt10 (l : List UInt8) : Nat := (l.filter fun c => c == 10).length
theorem cnt10_append (a b : List UInt8) : cnt10 (a ++ b) = cnt10 a + cnt10 b := by simp [cnt10]
theorem cnt10_vis {l : List UInt8} (h : Vis l) : cnt10 l = 0 := by
  unfold cnt10
  rw [List.length_eq_zero_iff, List.filter_eq_nil_iff]
  intro c hc
  have := vis_not10 (h c hc)
  simpa using this
theorem pr_lined : ∀ (cs : List (Tm × List (Bool × Tm))), (∀ c ∈ cs, c.1.ok = true ∧ ∀ p ∈ c.2, p.2.ok = true) → Lined (prPr cs) ∧ cnt10 (prPr cs) = cs.length
  | [], _ => ⟨fun i c hi => by simp [prPr] at hi, rfl⟩
  | c :: cs, h => by
    obtain ⟨h1, h2⟩ := pr_lined cs fun q hq => h q (by simp [hq])
    obtain ⟨h3, h4⟩ := h c (by simp)
    have hv : Vis (prT c.1 ++ litsTx 0 c.2) := (vis_term h3).append (vis_lits c.2 0 h4)
    have e : prPr (c :: cs) = (prT c.1 ++ litsTx 0 c.2 ++ [46] ++ [10]) ++ prPr cs := by simp [prPr, prCl]
    rw [e]
    refine ⟨(lined_line hv).append h1, ?_⟩
    rw [cnt10_append, cnt10_append, cnt10_append, cnt10_vis hv, h2, List.length_cons]
    have e1 : cnt10 [46] = 0 := by decide
    have e2 : cnt10 [10] = 1 := by decide
    omega
end Go.Proofs.YtekdcmplcjgonaaDoor
