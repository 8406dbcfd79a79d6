/- The walk of the document's 'with': definitions with one more. -/
import Derived.Deep.OwnRows
import Derived.Test.YtdeaeiolehglaaaDefS
import Derived.Test.YtdeaeiolehglaaaRB
set_option linter.unusedVariables false
set_option linter.unusedSimpArgs false
namespace Go.Proofs.Ytdeaeiolehglaaa
open Go.RowKit

/-- a part in memory -/
def RPt (_ : World) (p : Dp) (v : List Value) : Prop := v = [.int .i64 p.is, .string noName, .int .i64 p.n, .slice none 0 0] ∧ i64 p.is ∧ i64 p.n
theorem keepsPt : Keeps RPt := fun _ _ _ _ h _ => h
structure Dd.wf (x : Dd) : Prop where
  is : i64 x.is
  n : i64 x.n
  name : x.name.size ≤ maxLen
/-- a definition in memory -/
def RDf (Q : Option Addr → Nat → Prop) (w : World) (x : Dd) (v : List Value) : Prop := ∃ A n c, v = [.int .i64 x.is, .string x.name, .int .i64 x.n, .slice A n c] ∧ IsG RPt 4 w A n c x.parts ∧ x.wf ∧ Q A n
theorem keepsDf (Q : Option Addr → Nat → Prop) : Keeps (RDf Q) := fun _ _ _ _ ⟨A, n, c, h1, h2, h3⟩ hb => ⟨A, n, c, h1, h2.below keepsPt hb, h3⟩
abbrev AnyQ : Option Addr → Nat → Prop := fun _ _ => True
def OffQ (b : Nat) : Option Addr → Nat → Prop := fun A n => Off A n b
theorem df_any {Q : Option Addr → Nat → Prop} {w : World} {A : Option Addr} {n c : Nat} {D : List Dd} (h : IsG (RDf Q) 4 w A n c D) : IsG (RDf AnyQ) 4 w A n c D := by
  obtain ⟨vs, h1, h2, h3, h4⟩ := h.rows
  exact ⟨h.len, vs, h1, h2, h3, fun i x v hx hv => by obtain ⟨P, m, q, k1, k2, k3, _⟩ := h4 i x v hx hv; exact ⟨P, m, q, k1, k2, k3, trivial⟩⟩
theorem df_off {Q : Option Addr → Nat → Prop} {w : World} {A : Option Addr} {n c b : Nat} {D : List Dd} (h : IsG (RDf Q) 4 w A n c D) (hb : w.heap.size ≤ b) : IsG (RDf (OffQ b)) 4 w A n c D ∧ Off A n b := by
  refine ⟨?_, IsG.off h hb⟩
  obtain ⟨vs, h1, h2, h3, h4⟩ := h.rows
  exact ⟨h.len, vs, h1, h2, h3, fun i x v hx hv => by obtain ⟨P, m, q, k1, k2, k3, _⟩ := h4 i x v hx hv; exact ⟨P, m, q, k1, k2, k3, IsG.off k2 hb⟩⟩
theorem df_but {w w' : World} {A : Option Addr} {n c b : Nat} {D : List Dd} (h : IsG (RDf (OffQ b)) 4 w A n c D) (ho : Off A n b) (hb : But w w' b) : IsG (RDf (OffQ b)) 4 w' A n c D := by
  obtain ⟨vs, h1, h2, h3, h4⟩ := h.rows
  exact ⟨h.len, vs, h1, h2, h3.but' hb ho, fun i x v hx hv => by obtain ⟨P, m, q, k1, k2, k3, k4⟩ := h4 i x v hx hv; exact ⟨P, m, q, k1, IsG.but (fun _ _ _ _ h => h) k2 hb k4, k3, k4⟩⟩
def RetDs (Q : Option Addr → Nat → Prop) (w : World) (A0 : Option Addr) (n0 : Nat) (D : List Dd) (e : Ending) (w' : World) : Prop := ∃ A n c, e = .returned (.slice A n c) ∧ IsG (RDf Q) 4 w' A n c D ∧ NewOr w A0 n0 A n ∧ Below w.heap.size w w'
theorem infoDf : (Try.prog.info? 86).map (fun i => (i.zero, i.size, i.bytes)) = some (some (.agg #[.int .i64 0, .string ⟨#[]⟩, .int .i64 0, .slice none 0 0]), 4, 56) := by kernel_rfl
theorem one_df {Q : Option Addr → Nat → Prop} {w : World} {D : List Dd} {vs : List (List Value)} (h1 : vs.length = D.length) (h4 : ∀ (i : Nat) (x : Dd) (v : List Value), D[i]? = some x → vs[i]? = some v → RDf Q w x v) : ∀ u ∈ vs.flatten, u.oneCell' = true := by
  intro u hu
  obtain ⟨v, hv, huv⟩ := List.mem_flatten.1 hu
  obtain ⟨j, hj, rfl⟩ := List.getElem_of_mem hv
  obtain ⟨A, n, c, he, _⟩ := h4 j (D[j]'(by omega)) _ (List.getElem?_eq_getElem _) (List.getElem?_eq_getElem hj)
  rw [he] at huv
  simp at huv
  rcases huv with rfl | rfl | rfl | rfl <;> rfl
theorem flat_set4 : ∀ {vs : List (List Value)} {k : Nat} (a0 a1 a2 a3 : Value), (∀ v ∈ vs, v.length = 4) → k < vs.length → (((vs.flatten.set (k * 4) a0).set (k * 4 + 1) a1).set (k * 4 + 2) a2).set (k * 4 + 3) a3 = (vs.set k [a0, a1, a2, a3]).flatten
  | [], k, _, _, _, _, _, h => by simp at h
  | v :: vs, 0, a0, a1, a2, a3, h, _ => by
    have hv := h v (by simp)
    match v, hv with
    | [b0, b1, b2, b3], _ => simp
  | v :: vs, k + 1, a0, a1, a2, a3, h, hk => by
    have hv := h v (by simp)
    have ih := flat_set4 (vs := vs) (k := k) a0 a1 a2 a3 (fun u hu => h u (by simp [hu])) (by simpa using hk)
    simp only [List.flatten_cons, List.set_cons_succ]
    rw [← ih, List.set_append_right _ _ (by omega), List.set_append_right _ _ (by omega), List.set_append_right _ _ (by omega), List.set_append_right _ _ (by omega), hv]
    congr 1
    rw [show (k + 1) * 4 - 4 = k * 4 by omega, show (k + 1) * 4 + 1 - 4 = k * 4 + 1 by omega, show (k + 1) * 4 + 2 - 4 = k * 4 + 2 by omega, show (k + 1) * 4 + 3 - 4 = k * 4 + 3 by omega]
theorem df_set {Q : Option Addr → Nat → Prop} {w w' : World} {A : Option Addr} {n c k : Nat} {D : List Dd} {vs : List (List Value)} {x : Dd} {v : List Value} (hl : D.length = n) (h1 : vs.length = D.length) (h2 : ∀ v ∈ vs, v.length = 4) (h4 : ∀ (i : Nat) (x : Dd) (v : List Value), D[i]? = some x → vs[i]? = some v → RDf Q w x v)
    (hb : Below w.heap.size w w') (hs : Sl w' 4 A n c (vs.set k v).flatten) (hv : v.length = 4) (hx : RDf Q w' x v) : IsG (RDf Q) 4 w' A n c (D.set k x) := by
  refine ⟨by simpa using hl, vs.set k v, by simpa using h1, fun u hu => ?_, hs, fun i y u hy hu => ?_⟩
  · rcases List.mem_or_eq_of_mem_set hu with h | h
    · exact h2 u h
    · rw [h]; exact hv
  · rw [List.getElem?_set] at hy hu
    rw [h1] at hu
    by_cases hi : k = i
    · rw [if_pos hi] at hy hu
      split at hy
      · rename_i hlt
        rw [if_pos hlt] at hu
        cases hy; cases hu
        exact hx
      · cases hy
    · rw [if_neg hi] at hy hu
      exact keepsDf Q _ _ _ _ (h4 i y u hy hu) hb
set_option maxRecDepth 100000 in
set_option maxHeartbeats 8000000 in
theorem rwith_any (Q : Option Addr → Nat → Prop) (A : Option Addr) (n c : Nat) (D : List Dd) (r : Int) (x : Dd) (P : Option Addr) (m q : Nat) (w : World) (h : IsG (RDf Q) 4 w A n c D) (hx : IsG RPt 4 w P m q x.parts) (hw : x.wf) (hQ : Q P m) (hn : n ≤ 100000) :
    Calls Try.prog 58 #[.slice A n c, .int .i64 r, .agg #[.int .i64 x.is, .string x.name, .int .i64 x.n, .slice P m q]] w (RetDs Q w A n (withF D r x)) := by
  have hl := h.len
  by_cases hin : 0 ≤ r ∧ r < n
  · obtain ⟨k, rfl⟩ : ∃ k : Nat, r = k := ⟨r.toNat, by omega⟩
    have hk : k < n := by omega
    have g1 : ¬ (k : Int) < 0 := by omega
    have g2 : ¬ (n : Int) ≤ (k : Int) := by omega
    have g3 : ¬ n ≤ k := by omega
    go_enter Try.func58, Try.ntmps58
    go_upto_region 3 with fail
    refine on_world (fun X => Below w.heap.size w X ∧ X.heap[w.heap.size]? = some (.cells #[.int .i64 x.is, .string x.name, .int .i64 x.n, .slice P m q] 86 (0, 0))) ⟨(Below.refl _ _).alloc (Nat.le_refl _) _, alloc_at rfl⟩ ?_
    rintro X ⟨hbX, x0⟩
    obtain ⟨b0, hb0⟩ : ∃ b0, b0 = w.heap.size := ⟨_, rfl⟩
    rw [← hb0] at x0 ⊢
    obtain ⟨vs, v1, v2, hsl, v4⟩ := h.rows
    have hone := one_df v1 v4
    have hslX := hsl.below hbX
    have hl0 := block_lt x0
    have hwb : w.heap.size ≤ b0 := by omega
    have hwX : w.heap.size ≤ X.heap.size := hbX.size
    have hpos : 0 < n := by omega
    clear h hsl hb0
    go_wp2_with (first
      | (at_builtin; go_must (refine wpList_append_own0 rfl (.tmp 17) (.tmp 18) 82 rfl X.heap.size 86 Try.underlying82 infoDf rfl (by omega) rfl (.inl ⟨_, rfl, rfl, rfl⟩) rfl (hslX.below (by repeat (first | exact Below.refl _ _ | refine Below.drew ?_ | refine Below.alloc ?_ ?_ _ | (first | omega | (simp; done) | (simp; omega))))) hone hpos (by omega) (by omega) (by first | exact Nat.le_refl _ | (simp; done) | (simp; omega)) ?_); intro A1 cap1 w1 hown1 hb1; simp only [Nat.zero_add, List.nil_append] at hown1 ⊢;
          have hb1' := Below.trans (a := X) (by repeat (first | exact Below.refl _ _ | refine Below.drew ?_ | refine Below.alloc ?_ ?_ _ | (first | omega | (simp; done) | (simp; omega)))) hb1;
          obtain ⟨gg, rfl⟩ : ∃ gg, A1 = some ⟨gg, 0, none⟩ := (by obtain ⟨g, cap', hv, _⟩ := hown1.form hpos; injection hv with hv; exact ⟨g, hv⟩);
          have hfl := (flatten_len v2);
          have hgl := (hown1.lt gg rfl);
          obtain ⟨u0, e0⟩ : ∃ u, vs.flatten[k * 4]? = some u := ⟨_, List.getElem?_eq_getElem (by omega)⟩;
          obtain ⟨u1, e1⟩ : ∃ u, vs.flatten[k * 4 + 1]? = some u := ⟨_, List.getElem?_eq_getElem (by omega)⟩;
          obtain ⟨u2, e2⟩ : ∃ u, vs.flatten[k * 4 + 2]? = some u := ⟨_, List.getElem?_eq_getElem (by omega)⟩;
          obtain ⟨u3, e3⟩ : ∃ u, vs.flatten[k * 4 + 3]? = some u := ⟨_, List.getElem?_eq_getElem (by omega)⟩;
          have h0 := (hown1.cellAt (k * 4) (by omega)).trans e0;
          have h1 := (hown1.cellAt (k * 4 + 1) (by omega)).trans e1;
          have h2 := (hown1.cellAt (k * 4 + 2) (by omega)).trans e2;
          have h3 := (hown1.cellAt (k * 4 + 3) (by omega)).trans e3;
          have z0 := hown1.frozenAt (k * 4);
          have z1 := hown1.frozenAt (k * 4 + 1);
          have z2 := hown1.frozenAt (k * 4 + 2);
          have z3 := hown1.frozenAt (k * 4 + 3);
          have y0 := cells_of ((hb1'.block b0 hl0).trans x0) 0;
          have y1 := cells_of ((hb1'.block b0 hl0).trans x0) 1;
          have y2 := cells_of ((hb1'.block b0 hl0).trans x0) 2;
          have y3 := cells_of ((hb1'.block b0 hl0).trans x0) 3;
          simp at y0 y1 y2 y3))
    have q0 := (hown1.stored (k * 4) (.int .i64 x.is)).1
    have q1 := (q0.stored (k * 4 + 1) (.string x.name)).1
    have q2 := (q1.stored (k * 4 + 2) (.int .i64 x.n)).1
    have q3 := (q2.stored (k * 4 + 3) (.slice P m q)).1
    rw [flat_set4 _ _ _ _ v2 (by omega)] at q3
    have hbY : Below w.heap.size w ((((w1.setCell ⟨gg, k * 4, none⟩ (.int .i64 x.is)).setCell ⟨gg, k * 4 + 1, none⟩ (.string x.name)).setCell ⟨gg, k * 4 + 2, none⟩ (.int .i64 x.n)).setCell ⟨gg, k * 4 + 3, none⟩ (.slice P m q)) :=
      Below.setCell (Below.setCell (Below.setCell (Below.setCell (hbX.trans (hb1'.mono hwX)) (by simp only; omega) _) (by simp only; omega) _) (by simp only; omega) _) (by simp only; omega) _
    have e : withF D k x = D.set k x := by unfold withF; rw [if_pos (by omega)]; simp
    rw [e]
    go_ret
    exact ⟨_, _, _, rfl, df_set hl v1 v2 v4 hbY (Sl.own q3 (by omega)) rfl ⟨P, m, q, rfl, hx.below keepsPt hbY, hw, hQ⟩, .inr fun a ha => by cases ha; simp only; omega, hbY⟩
  · have hno : withF D r x = D := by unfold withF; rw [if_neg (by rw [hl]; exact hin)]
    rw [hno]
    by_cases h0 : r < 0
    · have g1 : decide (r < 0) = true := by simpa using h0
      go_enter Try.func58, Try.ntmps58
      go_wp2
      go_ret
      exact ⟨A, n, c, rfl, h.below (keepsDf Q) (by repeat (first | exact Below.refl _ _ | refine Below.drew ?_ | refine Below.alloc ?_ ?_ _ | (first | omega | (simp; done) | (simp; omega)))), .inl ⟨rfl, rfl⟩, by repeat (first | exact Below.refl _ _ | refine Below.drew ?_ | refine Below.alloc ?_ ?_ _ | (first | omega | (simp; done) | (simp; omega)))⟩
    · have g1 : decide (r < 0) = false := by simpa using h0
      have g2 : (n : Int) ≤ r := by omega
      go_enter Try.func58, Try.ntmps58
      go_wp2
      go_ret
      exact ⟨A, n, c, rfl, h.below (keepsDf Q) (by repeat (first | exact Below.refl _ _ | refine Below.drew ?_ | refine Below.alloc ?_ ?_ _ | (first | omega | (simp; done) | (simp; omega)))), .inl ⟨rfl, rfl⟩, by repeat (first | exact Below.refl _ _ | refine Below.drew ?_ | refine Below.alloc ?_ ?_ _ | (first | omega | (simp; done) | (simp; omega)))⟩
end Go.Proofs.Ytdeaeiolehglaaa
