/- The walk that makes an argument that is a variable, or a number. -/
import Derived.Test.YtdeaeiolehglaaaMk
set_option linter.unusedVariables false
set_option linter.unusedSimpArgs false
namespace Go.Proofs.Ytdeaeiolehglaaa
open Go.RowKit

set_option maxRecDepth 100000 in
set_option maxHeartbeats 4000000 in
theorem mOne_any (base bm bq : Nat) (s : St) (T : Tm) (x y z : Int) (w : World) (hM : Mk w base bm bq s) (hT : T.ok = true) (hk : T.c0.kind ≠ 3) (hr : s.room 1) (hx : i64 x) (hy : i64 y) (hz : i64 z) :
    Calls Try.prog 53 #[.pointer (some ⟨bm, 0, none⟩), T.c0.val, .int .i64 x, .int .i64 y, .int .i64 z] w (RetMk w base bm bq (oneF x y z s T)) := by
  have hfit := hM.fit
  have hb : Below w.heap.size w (w.alloc (.cells #[.int .i64 T.c0.kind, .string T.c0.name, .int .i64 T.c0.n] 45)) := (Below.refl _ _).alloc (Nat.le_refl _) _
  have hM0 := hM.keep hb
  have hbase : base ≤ w.heap.size := by have := hM.lt; omega
  have hr1 := hr.code
  have hr2 := hr.next
  have hr3 := hr.vars
  have hw := c0_wf hT
  cases T with
  | v n =>
    have hvn : i64 n := hw.n
    have hreg := regF_reg hfit n (by omega)
    have hop : i64 (if (regF s n).2.2 then x else y) := by split <;> assumption
    have hvar := mVariable_any base bm bq s n x y _ hM0 hvn (by omega) (by omega)
    have hone : oneF x y z s (.v n) = (regF s n).1.emit { op := if (regF s n).2.2 then x else y, x := (regF s n).2.1 } := rfl
    have hcode := regF_code s n
    rw [hone]
    clear hone
    generalize (if (regF s n).2.2 then x else y) = op at *
    generalize (regF s n).2.1 = rg at *
    generalize (regF s n).1 = s1 at *
    unfold Tm.c0 C.val
    go_enter Try.func53, Try.ntmps53
    go_wp2_with (first
      | (go_at_call 52; go_must (refine hvar.mono ?_); rintro e w1 ⟨rfl, hM1, hb1, hk1⟩)
      | (go_at_call 33; go_must (refine (mEmit_any base bm bq s1 { op := op, x := rg } _ hM1 (wfI hop (i64_small (by omega) (by omega)) i64_0 i64_0 empty_size) (by rw [hcode]; omega)).mono ?_); rintro e w2 ⟨rfl, hM2, hb2, hk2⟩))
    go_end0
    exact ⟨rfl, hM2, Below.trans (hb.mono hbase) (hb1.trans hb2), (Kept.below hb hM.lt.2.1).trans (hk1.trans hk2)⟩
  | i n =>
    unfold Tm.c0 C.val
    go_enter Try.func53, Try.ntmps53
    go_wp2_with (first
      | (go_at_call 33; go_must (refine (mEmit_any base bm bq s { op := z, n := n } _ hM0 (wfI hz i64_0 i64_0 hw.n empty_size) (by omega)).mono ?_); rintro e w2 ⟨rfl, hM2, hb2, hk2⟩))
    go_end0
    exact ⟨rfl, hM2, Below.trans (hb.mono hbase) hb2, (Kept.below hb hM.lt.2.1).trans hk2⟩
  | f s us => exact absurd rfl hk
end Go.Proofs.Ytdeaeiolehglaaa
