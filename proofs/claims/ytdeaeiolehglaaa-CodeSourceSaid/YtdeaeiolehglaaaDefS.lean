/- What the document's reader of code computes, in plain words; and that it reads a clause's code as that clause. No program in sight. -/
import Derived.Test.YtdeaeiolehglaaaNumS
import Derived.Test.YtdeaeiolehglaaaM7
set_option linter.unusedVariables false
set_option linter.unusedSimpArgs false
namespace Go.Proofs.Ytdeaeiolehglaaa
open Go.RowKit

/-- a part of a structure: a number (2), or a register (4) -/
structure Dp where
  is : Int
  n : Int
/-- what a register holds -/
structure Dd where
  is : Int := 0
  name : ByteArray := noName
  n : Int := 0
  parts : List Dp := []
def withF (d : List Dd) (r : Int) (x : Dd) : List Dd := if 0 ≤ r ∧ r < d.length then d.set r.toNat x else d
def getD' (d : List Dd) (r : Int) : Dd := d[r.toNat]?.getD {}
def partF (d : List Dd) (o : Int) (p : Dp) : List Dd := if 0 ≤ o ∧ o < d.length then withF d o { getD' d o with parts := (getD' d o).parts ++ [p] } else d
def dfStep (s : List Dd × Int) (c : In) : List Dd × Int :=
  if c.op = 1 then (withF (withF s.1 c.x { is := 1 }) c.a { is := 4, n := c.x }, s.2)
  else if c.op = 2 then (withF s.1 c.a { is := 4, n := c.x }, s.2)
  else if c.op = 3 then (withF s.1 c.a { is := 2, n := c.n }, s.2)
  else if c.op = 4 ∨ c.op = 8 then (withF s.1 c.a { is := 3, name := c.name, n := c.n }, c.a)
  else if c.op = 5 ∨ c.op = 9 then (partF (withF s.1 c.x { is := 1 }) s.2 ⟨4, c.x⟩, s.2)
  else if c.op = 6 ∨ c.op = 10 then (partF s.1 s.2 ⟨4, c.x⟩, s.2)
  else if c.op = 7 ∨ c.op = 11 then (partF s.1 s.2 ⟨2, c.n⟩, s.2)
  else s
def dfG : List Dd × Int → List In → List Dd × Int
  | s, [] => s
  | s, i :: l => dfG (dfStep s i) l
def defsF (l : List In) (n : Nat) : List Dd := (dfG (List.replicate n {}, -1) l).1
def toldP (g : Nat → Dp → List C) : List C → List Dp → List C
  | t, [] => t
  | t, p :: ps => if (g t.length p).length = 0 ∨ 200 < t.length + (g t.length p).length then [] else toldP g (t ++ g t.length p) ps
/-- the term of a definition; k is at least the fuel -/
def toldK (D : List Dd) : Nat → Int → Dd → Int → List C
  | 0, _, _, _ => []
  | k + 1, fuel, x, reg =>
    if fuel < 1 then []
    else if x.is = 1 then [⟨1, noName, reg⟩]
    else if x.is = 2 then [⟨2, noName, x.n⟩]
    else if x.is = 3 then toldP (fun len p => toldK D k (fuel - len) { is := p.is, n := p.n } (-1)) [⟨3, x.name, x.parts.length⟩] x.parts
    else if x.is = 4 then (if 0 ≤ x.n ∧ x.n < D.length then toldK D k (fuel - 1) (getD' D x.n) x.n else [])
    else []
def tHead (D : List Dd) : Nat → Nat → List C
  | 0, _ => []
  | k + 1, i => toldK D 400 400 (getD' D i) i ++ tHead D k (i + 1)
def tBody (D : List Dd) : List In → List (Bool × List C)
  | [] => []
  | i :: l => if i.op = 12 ∧ 0 ≤ i.a ∧ i.a < D.length then (i.neg, toldK D 400 400 (getD' D i.a) i.a) :: tBody D l else tBody D l
def candD (l : List In) (n : Nat) (e : In) : Raw := (⟨3, e.name, e.n⟩ :: tHead (defsF l n) (min e.n.toNat n) 0, tBody (defsF l n) l)

/-! ### how long it is -/
theorem withF_len (d : List Dd) (r : Int) (x : Dd) : (withF d r x).length = d.length := by unfold withF; split <;> simp
theorem partF_len (d : List Dd) (o : Int) (p : Dp) : (partF d o p).length = d.length := by unfold partF; split <;> simp [withF_len]
theorem dfStep_len (s : List Dd × Int) (c : In) : (dfStep s c).1.length = s.1.length := by
  unfold dfStep
  repeat' split
  all_goals simp [withF_len, partF_len]
theorem dfG_len : ∀ (l : List In) (s : List Dd × Int), (dfG s l).1.length = s.1.length
  | [], _ => rfl
  | i :: l, s => by rw [dfG, dfG_len l, dfStep_len]
theorem toldP_len (g : Nat → Dp → List C) : ∀ (ps : List Dp) (t : List C), t.length ≤ 200 → (toldP g t ps).length ≤ 200
  | [], t, h => h
  | p :: ps, t, h => by
    rw [toldP]
    split
    · simp
    · rename_i hc
      exact toldP_len g ps _ (by rw [List.length_append]; omega)
theorem toldK_len (D : List Dd) : ∀ (k : Nat) (fuel : Int) (x : Dd) (reg : Int), (toldK D k fuel x reg).length ≤ 200
  | 0, _, _, _ => by simp [toldK]
  | k + 1, fuel, x, reg => by
    rw [toldK]
    repeat' split
    all_goals first | exact toldP_len _ _ _ (by simp) | exact toldK_len D k _ _ _ | simp
theorem tHead_len (D : List Dd) : ∀ (k i : Nat), (tHead D k i).length ≤ 200 * k
  | 0, _ => by simp [tHead]
  | k + 1, i => by
    have := tHead_len D k (i + 1)
    have := toldK_len D 400 400 (getD' D i) i
    rw [tHead, List.length_append]
    omega
theorem tBody_len (D : List Dd) : ∀ l : List In, (tBody D l).length ≤ l.length ∧ ∀ x ∈ tBody D l, x.2.length ≤ 200
  | [] => by simp [tBody]
  | i :: l => by
    obtain ⟨h1, h2⟩ := tBody_len D l
    rw [tBody]
    split
    · refine ⟨by simp; omega, fun x hx => ?_⟩
      rcases List.mem_cons.1 hx with rfl | hx
      · exact toldK_len _ _ _ _ _
      · exact h2 x hx
    · exact ⟨by simp; omega, h2⟩

/-! ### variables are registers -/
theorem toldP_reg (n : Nat) (g : Nat → Dp → List C) (hg : ∀ len p, ∀ c ∈ g len p, c.kind = 1 → 0 ≤ c.n ∧ c.n < n) : ∀ (ps : List Dp) (t : List C), (∀ c ∈ t, c.kind = 1 → 0 ≤ c.n ∧ c.n < (n : Int)) → ∀ c ∈ toldP g t ps, c.kind = 1 → 0 ≤ c.n ∧ c.n < (n : Int)
  | [], t, h => h
  | p :: ps, t, h => by
    rw [toldP]
    split
    · simp
    · exact toldP_reg n g hg ps _ fun c hc => (List.mem_append.1 hc).elim (h c) (hg _ p c)
theorem toldK_reg (D : List Dd) (hp : ∀ x ∈ D, ∀ p ∈ x.parts, p.is ≠ 1) : ∀ (k : Nat) (fuel : Int) (x : Dd) (reg : Int), (x.is = 1 → 0 ≤ reg ∧ reg < D.length) → (x.is = 3 → ∀ p ∈ x.parts, p.is ≠ 1 ∧ p.is ≠ 3) → (∀ x ∈ D, ∀ p ∈ x.parts, p.is ≠ 3) → ∀ c ∈ toldK D k fuel x reg, c.kind = 1 → 0 ≤ c.n ∧ c.n < (D.length : Int)
  | 0, _, _, _, _, _, _ => by simp [toldK]
  | k + 1, fuel, x, reg, h1, h3, hp3 => by
    rw [toldK]
    split
    · simp
    · split
      · rename_i hx
        intro c hc _
        simp at hc
        subst hc
        exact h1 hx
      · split
        · intro c hc hk; simp at hc; subst hc; simp at hk
        · split
          · rename_i hx
            have hgen : ∀ (ps : List Dp) (t : List C), (∀ p ∈ ps, p.is ≠ 1 ∧ p.is ≠ 3) → (∀ c ∈ t, c.kind = 1 → 0 ≤ c.n ∧ c.n < (D.length : Int)) → ∀ c ∈ toldP (fun len p => toldK D k (fuel - len) { is := p.is, n := p.n } (-1)) t ps, c.kind = 1 → 0 ≤ c.n ∧ c.n < (D.length : Int) := by
              intro ps
              induction ps with
              | nil => intro t _ h; exact h
              | cons p ps ih =>
                intro t hps h
                rw [toldP]
                split
                · simp
                · refine ih _ (fun q hq => hps q (by simp [hq])) fun c hc => (List.mem_append.1 hc).elim (h c) ?_
                  intro hc
                  exact toldK_reg D hp k _ _ _ (fun he => absurd he (hps p (by simp)).1) (fun he => absurd he (hps p (by simp)).2) hp3 c hc
            exact hgen x.parts _ (h3 hx) fun c hc hk => by simp at hc; subst hc; simp at hk
          · split
            · split
              · rename_i hr
                have hm : ∀ q ∈ (getD' D x.n).parts, q.is ≠ 1 ∧ q.is ≠ 3 := by
                  intro q hq
                  unfold getD' at hq
                  have hlt : x.n.toNat < D.length := by omega
                  rw [List.getElem?_eq_getElem hlt] at hq
                  exact ⟨hp _ (List.getElem_mem hlt) q hq, hp3 _ (List.getElem_mem hlt) q hq⟩
                exact toldK_reg D hp k _ _ _ (fun _ => hr) (fun _ => hm) hp3
              · simp
            · simp
end Go.Proofs.Ytdeaeiolehglaaa
