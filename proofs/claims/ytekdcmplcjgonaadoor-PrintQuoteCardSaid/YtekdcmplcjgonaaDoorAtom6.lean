/- The walk that makes an atom of any cells. -/
import Derived.Test.YtekdcmplcjgonaaDoorMade2
set_option linter.unusedVariables false
set_option linter.unusedSimpArgs false
namespace Go.Proofs.YtekdcmplcjgonaaDoor
open Go.RowKit

/-- an atom of at most so many cells comes back -/
def RetA (w : World) (A0 : Option Addr) (n0 : Nat) (most : Nat) (e : Ending) (w' : World) : Prop := ∃ (T : Tm) (A : Option Addr) (n c : Nat), e = .returned (.slice A n c) ∧ T.ok = true ∧ T.size ≤ most ∧ T.c0.kind = 3 ∧ IsC w' A n c T.flat ∧ Below w.heap.size w w' ∧ At0 w A0 n0 A
theorem wfA1 : ∀ c ∈ [(⟨3, ⟨#[97]⟩, 0⟩ : C)], c.wf := by
  intro c hc
  rw [List.mem_singleton.1 hc]
  exact wf_small (by omega) (by omega) (by omega) (by omega) (by decide)
set_option maxRecDepth 100000 in
set_option maxHeartbeats 2000000 in
theorem rAtom6_any (A : Option Addr) (n cap : Nat) (cs : List C) (w : World) (h : IsC w A n cap cs) (most : Nat) (hm : 1 ≤ most) (hm2 : most ≤ 200) : Calls Tryd.prog 32 #[.slice A n cap, .int .i64 most] w (RetA w A n most) := by
  have hmade := rMade_any A n cap cs w h most hm hm2
  have Hmade := Lib.hid hmade
  clear hmade h
  go_enter Tryd.func32, Tryd.ntmps32
  go_upto_region 2 with (go_at_call 12; refine Hmade.out.mono ?_; rintro e w1 ⟨T, A1, n1, c1, rfl, hok, hsz, hi, hb, hat⟩)
  obtain ⟨b, off, rfl, hbl, _, k0, k1, k2⟩ := hi.at_ (flat_get0 T)
  have hn1 : 0 < n1 := by have := hi.len; rw [flat_size] at this; have := T.size_pos; omega
  rw [Nat.zero_mul, Nat.add_zero] at k0
  have Hi := Lib.hid hi
  have Hb := Lib.hid hb
  clear hi hb k1 k2
  by_cases hk : T.c0.kind = 3
  · have hk2 : (T.c0.kind == 3) = true := by simpa using hk
    have Hk := Lib.hid hk
    clear hk
    go_wp2
    go_ret
    exact ⟨T, _, n1, c1, rfl, hok, hsz, Hk.out, Hi.out, Hb.out, hat⟩
  · have hk2 : (T.c0.kind == 3) = false := by simpa using hk
    clear hk
    go_wp2
    go_ret
    refine ⟨.f ⟨#[97]⟩ [], _, 1, 1, rfl, by decide, by simpa [Tm.size, sizes] using hm, rfl, isC_lit (l := [⟨3, ⟨#[97]⟩, 0⟩]) (alloc_at rfl) rfl rfl (by omega) wfA1, Hb.out.alloc Hb.out.size _, fun a ha => .inr (by cases ha; exact Hb.out.size)⟩
end Go.Proofs.YtekdcmplcjgonaaDoor
