/- Texts of this proof that belong together: words of memory, plain laws, walks. -/
import Derived.BigQuiet
import Derived.Test.YtgipiplklaeplaaDoorB45
import Derived.Test.YtgipiplklaeplaaDoorB51
set_option linter.unusedVariables false
set_option linter.unusedSimpArgs false
namespace Go.Proofs.YtgipiplklaeplaaDoor
open Go.RowKit
def RM (w0 : World) : World → Int × List C → List Value → Prop := fun _ p v => ∃ A n c, v = [.int .i64 p.1, .slice A n c] ∧ IsC w0 A n c p.2 ∧ i64 p.1
theorem keepsM (w0 : World) : Keeps (RM w0) := fun _ _ _ _ h _ => h
theorem rBound_core {w0 : World} (A : Option Addr) (n c : Nat) (s : List (Int × List C)) (v : Int) (V : Value) (w : World) (h : IsG (RM w0) 2 w A n c s) (hn : n ≤ 100000)
  (hV : (plB s v 0 = -1 ∧ V = .slice none 0 0) ∨ ∃ i b off : Nat, A = some ⟨b, off, none⟩ ∧ plB s v 0 = (i : Int) ∧ w.cell? ⟨b, off + i * 2 + 1, none⟩ = some V) : Calls Tryd.prog 49 #[.slice A n c, .int .i64 v] w (RetB w V) := by
 have hl := h.len
 have Hl := Lib.hid hl
 have Hh := Lib.hid h
 generalize hG : plB s v 0 = G at *
 have HG := Lib.hid hG
 have HV := Lib.hid hV
 have hcap := h.cap_le
 have hc1 := hcap.1
 have hc2 := hcap.2
 unfold maxLen at hc2
 clear hG hl h hV hcap
 go_enter Tryd.func49, Tryd.ntmps49
 go_wp2
 go_loopw [5] (fun iv wr => ∃ k : Nat, k ≤ n ∧ iv = .int .i64 k ∧ Hid (plB (s.drop k) v k = G) ∧ wr = w) (fun iv _ => n - (intOf iv).toNat)
 case atStart => exact ⟨0, Nat.zero_le _, rfl, Lib.hid (by simpa using HG.out), by first | rfl | trivial⟩
 case round =>
  obtain ⟨k, hk, rfl, hres, hwr⟩ := hrel
  try subst hwr
  by_cases hlt : k < n
  ·obtain ⟨p, hp⟩ := Hh.out.get hlt
   obtain ⟨b, off, u, rfl, hbb, _, ⟨A', n', c', rfl, hC, hwp⟩, hcl⟩ := Hh.out.at_ hp
   have e0 := hcl 0 _ rfl
   have e1 := hcl 1 _ rfl
   simp only [Nat.add_zero] at e0
   have hd := drop_get hp
   have hr := hres.out
   rw [hd, plB] at hr
   have Hr := Lib.hid hr
   have hz : (k : Int) < (n : Int) := by omega
   clear hr hd hp hres hC hcl hwp
   by_cases he : p.1 = v
   ·have heb : (p.1 == v) = true := by simp [he]
    have hVe : Hid (V = .slice A' n' c') := Lib.hid (by
     have hr := Hr.out
     rw [if_pos he] at hr
     rcases HV.out with ⟨h1, _⟩ | ⟨i, b', off', h1, h2, h3⟩
     ·omega
     ·simp only [Option.some.injEq, Addr.mk.injEq, and_true] at h1
      obtain ⟨rfl, rfl⟩ := h1
      have : i = k := by omega
      subst this
      rw [e1] at h3
      injection h3 with h3
      exact h3.symm)
    clear he
    go_wp2
    refine bodyPost_ret (v := .slice A' n' c') (by simp [results, Tryd.results49, go_sem, *]) rfl ?_
    exact ⟨by rw [hVe.out], rfl⟩
   ·have heb : (p.1 == v) = false := by simp [he]
    have hG2 : Hid (plB (s.drop (k + 1)) v (k + 1) = G) := Lib.hid (by have := Hr.out; rw [if_neg he] at this; exact this)
    clear he e1
    go_wp2
    go_roundw
    case rel => exact ⟨k + 1, by omega, by go_num, hG2, by first | rfl | trivial⟩
    case measure => simp [intOf]; omega
  ·have hVe : Hid (V = .slice none 0 0) := Lib.hid (by
    have hr := hres.out
    rw [List.drop_eq_nil_of_le (by have := Hl.out; omega)] at hr
    simp only [plB] at hr
    rcases HV.out with ⟨_, h1⟩ | ⟨i, b', off', h1, h2, h3⟩
    ·exact h1
    ·omega)
   go_wp2
   refine bodyPost_ret (v := .slice none 0 0) (by simp [results, Tryd.results49, go_sem, *]) rfl ?_
   exact ⟨by rw [hVe.out], rfl⟩
theorem rBound_at {w0 : World} (A : Option Addr) (n c : Nat) (s : List (Int × List C)) (v : Int) (w : World) (h : IsG (RM w0) 2 w A n c s) (hn : n ≤ 100000) :
  (lkB s v = none ∧ ∀ X, Below w.heap.size w X → Calls Tryd.prog 49 #[.slice A n c, .int .i64 v] X (RetB X (.slice none 0 0))) ∨
   ∃ x B m k, lkB s v = some x ∧ IsC w0 B m k x ∧ ∀ X, Below w.heap.size w X → Calls Tryd.prog 49 #[.slice A n c, .int .i64 v] X (RetB X (.slice B m k)) := by
 rcases plB_lk s v 0 with ⟨h1, h2⟩ | ⟨i, p, h1, h2, h3⟩
 ·exact .inl ⟨h2, fun X hb => rBound_core A n c s v _ _ (IsG.below (keepsM w0) h hb) hn (.inl ⟨h1, rfl⟩)⟩
 ·obtain ⟨b, off, u, rfl, hbb, _, ⟨A', n', c', rfl, hC, hwp⟩, hcl⟩ := h.at_ h2
  refine .inr ⟨p.2, A', n', c', h3, hC, fun X hb => rBound_core _ n c s v _ _ (IsG.below (keepsM w0) h hb) hn (.inr ⟨i, b, off, rfl, by simpa using h1, ?_⟩)⟩
  exact (hb.cell (p := ⟨b, off + i * 2 + 1, none⟩) hbb).trans (hcl 1 _ rfl)
end Go.Proofs.YtgipiplklaeplaaDoor
