/- The walk of the document's Bind. -/
import Derived.Test.YtlndjooddkjnoaaHU1
set_option linter.unusedVariables false
set_option linter.unusedSimpArgs false
namespace Go.Proofs.Ytlndjooddkjnoaa
open Go.RowKit

theorem flatC_set3 : ∀ (ls : List C) (i : Nat) (x : C), i < ls.length → (((flatC ls).set (i * 3) (.int .i64 x.kind)).set (i * 3 + 1) (.string x.name)).set (i * 3 + 2) (.int .i64 x.n) = flatC (ls.set i x)
  | [], i, x, h => by simp at h
  | c :: ls, 0, x, h => by simp [flatC, C.flat]
  | c :: ls, i + 1, x, h => by
    have ih := flatC_set3 ls i x (by simpa using h)
    have e0 : (i + 1) * 3 = i * 3 + 3 := by omega
    have e1 : (i + 1) * 3 + 1 = (i * 3 + 1) + 3 := by omega
    have e2 : (i + 1) * 3 + 2 = (i * 3 + 2) + 3 := by omega
    rw [e1, e2, e0]
    simp only [flatC, List.flatMap_cons, C.flat, List.cons_append, List.nil_append, List.set_cons_succ] at ih ⊢
    rw [ih]
/-- a slot of an own row, stored whole -/
theorem own_put3 {w : World} {base n c i : Nat} {A : Option Addr} {ls : List C} (x : C) (h : w.ownsRow base 68 3 (.slice A n c) n (flatC ls)) (hi : i < n) :
    ∃ ga, A = some ⟨ga, 0, none⟩ ∧ base ≤ ga ∧ ga < w.heap.size ∧ n ≤ c ∧ c ≤ maxLen ∧ (∀ v, w.frozen? ⟨ga, v, none⟩ = false) ∧ (∀ j, j < 3 → ∃ u, w.cell? ⟨ga, i * 3 + j, none⟩ = some u) ∧
      (((w.setCell ⟨ga, i * 3, none⟩ (.int .i64 x.kind)).setCell ⟨ga, i * 3 + 1, none⟩ (.string x.name)).setCell ⟨ga, i * 3 + 2, none⟩ (.int .i64 x.n)).ownsRow base 68 3 (.slice A n c) n (flatC (ls.set i x)) := by
  have hl := h.1
  rw [flatC_len] at hl
  obtain ⟨ga, xv, rfl, h1, h2, h3, h4⟩ := Ly.slot (.inr h) (i := i) (by omega)
  have hs := Sl.own h (by omega)
  refine ⟨ga, rfl, (Own0.lt h _ rfl).1, h4, hs.hcap, hs.hmax, fun v => h.frozenAt v, fun j hj => ⟨_, (h.cellAt (i * 3 + j) (by omega)).trans (List.getElem?_eq_getElem (by rw [flatC_len]; omega))⟩, ?_⟩
  rw [← flatC_set3 ls i x (by omega)]
  exact ((((h.stored _ _).1).stored _ _).1.stored _ _).1
theorem set_wf {ls : List C} {i : Nat} {x : C} (h : ∀ c ∈ ls, c.wf) (hx : x.wf) : ∀ c ∈ ls.set i x, c.wf := by
  intro c hc
  rcases List.mem_or_eq_of_mem_set hc with h1 | h1
  · exact h c h1
  · subst h1; exact hx
theorem own_typ8 {w : World} {base size n cap : Nat} {e : TypeId} {a : Addr} {xs : List Value} (h : w.ownsRow base e size (.slice (some a) n cap) n xs) : ∃ cur, w.heap[a.block]? = some (.cells cur e (0, 0)) := by
  rcases h.2 with ⟨h1, _⟩ | ⟨g, cap', cur, h1, hb, h2, _⟩
  · cases h1
  · injection h1 with e1 e2 e3
    injection e1 with e1
    subst e1
    exact ⟨_, h2⟩
def refC (q : Nat) : C := ⟨1, ⟨#[]⟩, (q : Int)⟩
theorem refC_wf {q : Nat} (h : q ≤ 1000000) : (refC q).wf := ⟨by unfold refC i64; simp, by unfold refC i64; simp; omega, (by decide : emp.size ≤ maxLen)⟩
def RetB8 (w : World) (n m : Nat) (r : Int) (l : List C) (tr : List Int) (p q : Nat) (e : Ending) (w' : World) : Prop := ∃ A' c' B' d', e = .returned (.agg #[.slice A' n c', .slice B' (m + 1) d', .int .i64 r]) ∧ IsC w' A' n c' (l.set p (refC q)) ∧ IsI w' B' (m + 1) d' (tr ++ [(p : Int)]) ∧ Below w.heap.size w w' ∧ (∀ a, A' = some a → ∃ cur, w'.heap[a.block]? = some (.cells cur 68 (0, 0))) ∧ (∀ a, B' = some a → ∃ cur, w'.heap[a.block]? = some (.cells cur 3 (0, 0)))
set_option maxRecDepth 100000 in
set_option maxHeartbeats 4000000 in
theorem qBind_any (A B : Option Addr) (n c m d : Nat) (r : Int) (l : List C) (tr : List Int) (p q : Nat) (w : World) (h : IsC w A n c l) (hT : IsI w B m d tr) (hn : n ≤ 100000) (hm : m ≤ 100000) (hp : p < n) (hq : q < n) :
    Calls Try.prog 65 #[.agg #[.slice A n c, .slice B m d, .int .i64 r], .int .i64 p, .int .i64 q] w (RetB8 w n m r l tr p q) := by
  have HC := Lib.hid h
  have HT := Lib.hid hT
  clear h hT
  go_enter Try.func65, Try.ntmps65
  go_upto_region 1 with fail
  refine wp_world' (Φ := fun X => Below w.heap.size w X ∧ X.heap.size = w.heap.size + 2 ∧ X.heap[w.heap.size]? = some (.cells #[.slice A n c, .slice B m d, .int .i64 r] 25 (0, 0)) ∧ X.heap[w.heap.size + 1]? = some (.cells #[.slice none 0 0, .slice none 0 0, .int .i64 0] 25 (0, 0)))
    ⟨((Below.refl _ _).alloc (Nat.le_refl _) _).alloc (by first | omega | (simp; done) | (simp; omega)) _, (by first | omega | (simp; done) | (simp; omega)), (alloc_past (by first | omega | (simp; done) | (simp; omega))).trans (alloc_at rfl), alloc_at (by first | omega | (simp; done) | (simp; omega))⟩ ?_
  rintro X ⟨hbX, hX1, x0, x1⟩
  obtain ⟨g0, hg0⟩ : ∃ g0, g0 = w.heap.size := ⟨_, rfl⟩
  obtain ⟨g1, hg1⟩ : ∃ g1, g1 = w.heap.size + 1 := ⟨_, rfl⟩
  rw [← hg1] at x1 ⊢
  rw [← hg0] at x0 ⊢
  have HbX := Lib.hid hbX
  have hg0b : g0 < X.heap.size := by omega
  have hg1b : g1 < X.heap.size := by omega
  have hg0w' : w.heap.size ≤ g0 := by omega
  have hg1w' : w.heap.size ≤ g1 := by omega
  have hg01' : ¬ g0 = g1 := by omega
  have hwB : w.heap.size ≤ X.heap.size := by omega
  obtain ⟨y0, y1, y2, yl⟩ := open3 x0
  clear hX1 hg0 hg1 hbX
  have hRC := Lib.hid (fun (o : Obj) => HC.out.sl.below (HbX.out.alloc hwB o))
  go_upto_region 2 with (first
    | (at_builtin; go_must (refine wpList_append_sl rfl (.tmp 9) (.tmp 11) 22 rfl X.heap.size 68 Try.underlying22 infoS rfl (by omega) rfl (World.ownsRow_lit X #[] 0 (Nat.le_refl _) (by simp [maxLen]) rfl) rfl (hRC.out _) (oneC l) (by omega) (by omega) (by simp) ?_); intro A1 c1 w1 hown1 hb1' _ _; have ho1 : w1.ownsRow X.heap.size 68 3 (.slice A1 n c1) n (flatC l) := (by simpa using hown1); have hb1 : Below X.heap.size X w1 := ((Below.refl _ _).alloc (Nat.le_refl _) _).trans hb1'; clear hown1 hb1'))
  obtain ⟨ga, rfl, f1, f2, f3, f4, f5, f7, f6⟩ := own_put3 (i := p) (refC q) ho1 hp
  obtain ⟨u0, k0⟩ := f7 0 (by omega)
  obtain ⟨u1, k1⟩ := f7 1 (by omega)
  obtain ⟨u2, k2⟩ := f7 2 (by omega)
  rw [Nat.add_zero] at k0
  clear f7
  unfold maxLen at f4
  have ff0 := f5 (p * 3)
  have ff1 := f5 (p * 3 + 1)
  have ff2 := f5 (p * 3 + 2)
  have F6 := Lib.hid f6
  have Hb1 := Lib.hid hb1
  have hs1 := hb1.size
  clear f5 f6 ho1 y0 y1 y2 yl hb1
  go_upto_region 3 with fail
  refine wp_world' (Φ := fun V => V.ownsRow X.heap.size 68 3 (.slice (some ⟨ga, 0, none⟩) n c1) n (flatC (l.set p (refC q))) ∧ Below X.heap.size X V) ⟨F6.out, (((Hb1.out.setCell f1 _).setCell f1 _).setCell f1 _)⟩ ?_
  rintro V ⟨hov, hbv⟩
  clear ff0 ff1 ff2 F6 Hb1 hs1 f2 k0 k1 k2
  have hsv := hbv.size
  have HbVw := Lib.hid (HbX.out.trans (hbv.mono hwB))
  obtain ⟨y0, y1, y2, yl⟩ := open3 ((hbv.block g0 hg0b).trans x0)
  have HRT := Lib.hid (fun (o : Obj) => HT.out.sl.below (HbVw.out.alloc HbVw.out.size o))
  have Hov := Lib.hid hov
  have Hbv := Lib.hid hbv
  clear hov hbv
  go_upto_region 4 with (first
    | (at_builtin; go_must (refine wpList_append_sl rfl (.tmp 18) (.tmp 20) 23 rfl V.heap.size 3 Try.underlying23 infoI rfl (by omega) rfl (World.ownsRow_lit V #[] 0 (Nat.le_refl _) (by simp [maxLen]) rfl) rfl (HRT.out _) (oneI _ tr) (by omega) (by omega) (by simp) ?_); intro D1 d1 w2 hown2 hb2' _ _; have ho2 : w2.ownsRow V.heap.size 3 1 (.slice D1 m d1) m (tr.map (Value.int .i64)) := (by simpa using hown2); have hb2 : Below V.heap.size V w2 := ((Below.refl _ _).alloc (Nat.le_refl _) _).trans hb2'; clear hown2 hb2'))
  have Ho2 := Lib.hid ho2
  have Hb2 := Lib.hid hb2
  have hs2 := hb2.size
  clear ho2 hb2 y0 y1 y2 yl
  go_upto_region 5 with (first
    | (at_builtin; go_must (refine wpList_append_sl rfl (.tmp 22) (.tmp 24) 23 rfl V.heap.size 3 Try.underlying23 infoI rfl (by omega) rfl (Ho2.out.alloc _) rfl (Sl.lit w2 _ [.int .i64 (p : Int)] 3 1 1 (by simp) rfl (by simp [maxLen])) (one1 rfl) (by omega) (by omega) (by simp; omega) ?_); intro D3 d3 w3 hown3 hb3' _ _; have hb3 : Below V.heap.size V w3 := Hb2.out.trans (((Below.refl V.heap.size w2).alloc hs2 _).trans hb3'); have Hown3 := Lib.hid hown3; clear hown3 hb3'))
  have hs3 := hb3.size
  have z0 := (hb3.block g0 (by omega)).trans ((Hbv.out.block g0 hg0b).trans x0)
  have z1 := (hb3.block g1 (by omega)).trans ((Hbv.out.block g1 hg1b).trans x1)
  have Hov3 := Lib.hid (own_below Hov.out hb3)
  have Hbw := Lib.hid (HbVw.out.trans (hb3.mono HbVw.out.size))
  obtain ⟨y0, y1, y2, yl⟩ := open3 z0
  obtain ⟨v0, v1, v2, vl⟩ := open3 z1
  have vf0 := frozen_of z1 0
  have vf1 := frozen_of z1 1
  have vf2 := frozen_of z1 2
  have Hc1 := Lib.hid (own_ne Hov3.out z1 (by intro cur he; injection he with f1 f2 f3; exact absurd f2 (by decide)))
  have Hi1 := Lib.hid (own_ne Hown3.out z1 (by intro cur he; injection he with f1 f2 f3; exact absurd f2 (by decide)))
  clear hb3 x0 x1 Ho2 Hb2 Hov Hbv HbVw HRT hRC z0 z1
  go_wp2
  refine bodyPost_ret (v := .agg #[.slice (some ⟨ga, 0, none⟩) n c1, .slice D3 (m + 1) d3, .int .i64 r]) (by simp [results, Try.results65, go_sem, *]) rfl ?_
  have ho : ∀ g, g ≠ g1 → (((w3.setCell ⟨g1, 0, none⟩ (.slice (some ⟨ga, 0, none⟩) n c1)).setCell ⟨g1, 1, none⟩ (.slice D3 (m + 1) d3)).setCell ⟨g1, 2, none⟩ (.int .i64 r)).heap[g]? = w3.heap[g]? := fun g hg => (set_other hg _).trans ((set_other hg _).trans (set_other hg _))
  have hovF := own_at Hov3.out (fun a ha => ho _ (Hc1.out a ha))
  have hinF := own_at Hown3.out (fun a ha => ho _ (Hi1.out a ha))
  refine ⟨_, _, _, _, rfl, ⟨Sl.own hovF (by omega), set_wf HC.out.wf (refC_wf (by omega))⟩, ⟨?_, ?_⟩, ((Hbw.out.setCell hg1w' _).setCell hg1w' _).setCell hg1w' _, fun a ha => by cases ha; exact own_typ8 hovF, fun a ha => by cases ha; exact own_typ8 hinF⟩
  · rw [List.map_append]
    exact Sl.own hinF (by omega)
  · intro x hx
    rcases List.mem_append.1 hx with hx | hx
    · exact HT.out.wf x hx
    · simp at hx; subst hx; unfold i64; omega
end Go.Proofs.Ytlndjooddkjnoaa
