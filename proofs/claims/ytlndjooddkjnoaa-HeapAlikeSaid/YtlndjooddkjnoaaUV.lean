/- The walk of layer 3's Variant (the document's). -/
import Derived.Test.YtlndjooddkjnoaaUB
import Derived.Test.YtlndjooddkjnoaaTurn
set_option linter.unusedVariables false
set_option linter.unusedSimpArgs false
namespace Go.Proofs.Ytlndjooddkjnoaa
open Go.RowKit

theorem numberF_len8 (t : List C) : (numberF t).length = t.length := by simp [numberF, turnF]
set_option maxRecDepth 100000 in
set_option maxHeartbeats 4000000 in
theorem uVariant_any (A B : Option Addr) (n c m d : Nat) (xs ys : List C) (w : World) (h : IsC w A n c xs) (h2 : IsC w B m d ys) (hn : n ≤ 100000) (hm : m ≤ 100000) :
    Calls Try.prog 38 #[.slice A n c, .slice B m d] w (RetV w (.bool (sameC (numberF xs) (numberF ys)))) := by
  have H1 := Lib.hid (rNumber_any A n c xs w h hn)
  have H2 := Lib.hid (fun wx (hb : Below w.heap.size w wx) => rNumber_any B m d ys wx (h2.below hb) hm)
  have l1 := numberF_len8 xs
  have l2 := numberF_len8 ys
  rw [h.len] at l1
  rw [h2.len] at l2
  generalize numberF xs = X1 at *
  generalize numberF ys = Y1 at *
  have L1 := Lib.hid l1
  have L2 := Lib.hid l2
  clear h h2 l1 l2
  go_enter Try.func38, Try.ntmps38
  go_wp2_with (first
    | (go_at_call 76; have hfirst := H1; go_must (refine H1.out.mono ?_); rintro e w1 ⟨A1, n1, c1, rfl, hi1, hb1⟩; have Hi1 := Lib.hid hi1; have Hb1 := Lib.hid hb1; clear hi1 hb1 H1 hfirst)
    | (go_at_call 76; go_must (refine (H2.out _ Hb1.out).mono ?_); rintro e w2 ⟨A2, n2, c2, rfl, hi2, hb2⟩; have Hi2 := Lib.hid hi2; have Hi1' := Lib.hid (Hi1.out.below hb2); have Hb2 := Lib.hid (Hb1.out.trans (hb2.mono Hb1.out.size)); have Hs := Lib.hid (rSame_any A1 A2 n1 n2 c1 c2 X1 Y1 w2 Hi1'.out Hi2.out (by have := Hi1.out.len; have := L1.out; omega) (by have := hi2.len; have := L2.out; omega)); clear hi2 hb2)
    | (go_at_call 28; go_must (refine Hs.out.mono ?_); intro e w3 hret; obtain ⟨rfl, hb3⟩ := hret.v; have Hb3 := Lib.hid (Hb2.out.trans (hb3.mono Hb2.out.size)); clear hret hb3))
  go_ret
  exact ⟨rfl, Hb3.out⟩
end Go.Proofs.Ytlndjooddkjnoaa
