/- The walks of the document's maker: where a variable stands, a slot. -/
import Derived.Test.YtlndjooddkjnoaaB5
set_option linter.unusedVariables false
set_option linter.unusedSimpArgs false
namespace Go.Proofs.Ytlndjooddkjnoaa
open Go.RowKit

/-- .. and the first row is the same one -/
def RetLyZ (w : World) (base bl : Nat) (T : TypeId) (l : List C) (a : List Int) (v : Value) (e : Ending) (w' : World) : Prop := e = .returned v ∧ Ly w' base bl T l a ∧ Below base w w' ∧ LKept w w' bl ∧ w'.cell? ⟨bl, 0, none⟩ = w.cell? ⟨bl, 0, none⟩
set_option maxHeartbeats 2000000 in
theorem mvariable_any (base bl : Nat) (l : List C) (a : List Int) (v : Nat) (w : World) (h : Ly w base bl 83 l a) (hv : v ≤ 999) (hb0 : base ≤ w.heap.size) (ha : a.length ≤ 100000) :
    Calls Try.prog 57 #[.pointer (some ⟨bl, 0, none⟩), .int .i64 v] w (RetLyZ w base bl 83 l (extA a v) (.int .i64 (atA a v))) := by
  have H := Lib.hid h
  have hlt := h.lt.2
  clear h
  go_enter Try.func57, Try.ntmps57
  go_wp2
  go_loopg [] (v + 1 - a.length) (fun k wr => ∃ a' : List Int, Ly wr base bl 83 l a' ∧ Hid (extA a' v = extA a v ∧ atA a' v = atA a v ∧ v + 1 - a'.length = k ∧ a'.length ≤ 100001) ∧ Below base w wr ∧ LKept w wr bl ∧ Hid (wr.cell? ⟨bl, 0, none⟩ = w.cell? ⟨bl, 0, none⟩))
  case atStart => exact ⟨a, H.out, Lib.hid ⟨rfl, rfl, rfl, by omega⟩, Below.refl _ _, LKept.refl _ _, Lib.hid rfl⟩
  case round =>
    obtain ⟨a', hL, heq, hb, hk, hsame⟩ := hrel
    obtain ⟨A, n, c, B, m, d, g1, g2, g3, g4⟩ := hL.has
    have hml := own0_len g4
    simp at hml
    obtain ⟨y0, y1, yl⟩ := open2 g2
    have yf := frozen_of g2 1
    have hsz := hb.size
    have HL := Lib.hid hL
    have Hml := Lib.hid hml
    have G2 := Lib.hid g2
    have hsl := g4.sl (by omega)
    have hcap := hsl.hcap
    have hmax := hsl.hmax
    unfold maxLen at hmax
    clear hL hml
    by_cases hmv : m ≤ v
    · have hmi : decide ((m : Int) ≤ (v : Int)) = true := by simp; omega
      have Hmv := Lib.hid hmv
      clear hmv
      go_wp2_with (first
        | (at_builtin; go_must (refine wpList_append_z rfl (.tmp 16) (.tmp 17) 23 rfl base 3 Try.underlying23 infoI rfl (by omega) rfl (g4.below ((Below.refl _ _).alloc (Nat.le_refl _) _)) rfl (Sl.lit _ _ [.int .i64 (-1)] 3 1 1 (by first | rfl | simp) rfl (by simp [maxLen])) (one1 rfl) (by omega) (by omega) (by omega) (by first | omega | (simp; omega)) ?_); intro B' cap' w1 hown hb1 hap; have e1 := (hap.old bl (by simp; omega) (own0_ne (g4.below ((Below.refl wr.heap.size wr).alloc (Nat.le_refl _) (.cells #[.int .i64 (-1)] 3))) ((alloc_past yl).trans G2.out) (by intro cur he; injection he with e1 e2 e3; exact tLayer_ne.2.2.2.1 e2))).trans ((alloc_past yl).trans G2.out); obtain ⟨z0, z1, zl⟩ := open2 e1; have zf := frozen_of e1 1))
      have hal : Below wr.heap.size wr (wr.alloc (.cells #[.int .i64 (-1)] 3)) := (Below.refl _ _).alloc (Nat.le_refl _) _
      obtain ⟨q1, q2, q3⟩ := Ly.grow1 (x := -1) tLayer_ne.2.2.1 tLayer_ne.2.2.2.1 tLayer_ne.2.2.2.2 ((alloc_past yl).trans G2.out) g1 (g3.below hal) (g4.below hal) HL.out.wfc HL.out.wfi ⟨by decide, by decide⟩ hown hap hb1
      have Q1 := Lib.hid q1
      have Q3 := Lib.hid q3
      have hb2 := hb.trans ((hal.mono (by omega)).trans q2)
      clear q1 q2 q3
      have hlen : a'.length ≤ v := by have := Hml.out; have := Hmv.out; omega
      go_roundg (v + 1 - (a' ++ [(-1 : Int)]).length)
      case measure => obtain ⟨e1, e2, e3, e4⟩ := heq.out; simp; omega
      case rel =>
        obtain ⟨e1, e2, e3, e4⟩ := heq.out
        refine ⟨a' ++ [-1], Q1.out, Lib.hid ⟨(extA_step hlen).trans e1, ?_, rfl, by simp; omega⟩, hb2, hk.trans ((LKept.below hal yl).trans Q3.out), Lib.hid ?_⟩
        · rw [← e2]
          have h1 := atA_ext (a' ++ [-1]) v v
          rw [extA_step hlen, atA_ext] at h1
          exact h1.symm
        · rw [← hsame.out, y0, ← z0]
          have : ∀ (W0 : World) (vv : Value), (W0.setCell ⟨bl, 1, none⟩ vv).cell? ⟨bl, 0, none⟩ = W0.cell? ⟨bl, 0, none⟩ := fun W0 vv => by go_simp
          first | rfl | exact this _ _
    · have hmi : decide ((m : Int) ≤ (v : Int)) = false := by simp; omega
      have hv2 : v < m := by omega
      have hvl : v < a'.length := by have := Hml.out; omega
      have he2 : Hid (extA a' v = a') := Lib.hid (extA_has hvl)
      obtain ⟨bb, ob, hB, hbb, hcells⟩ := hsl.cells (by omega)
      have hx : (a'.map (Value.int .i64))[v]? = some (.int .i64 (atA a' v)) := by
        rw [List.getElem?_map, atA, List.getElem?_eq_getElem hvl]; rfl
      have hc2 := hcells v _ hx
      subst hB
      have Hc := Lib.hid hcells
      clear hx hcells hmv
      go_wp2
      go_ret
      obtain ⟨e1, e2, e3⟩ := heq.out
      exact ⟨ret_int e2, by rw [← e1, he2.out]; exact HL.out, hb, hk, hsame.out⟩
end Go.Proofs.Ytlndjooddkjnoaa
