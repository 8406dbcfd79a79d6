/- The walk that makes a literal. -/
import Derived.Test.YtdeaeiolehglaaaBuild
set_option linter.unusedVariables false
set_option linter.unusedSimpArgs false
namespace Go.Proofs.Ytdeaeiolehglaaa
open Go.RowKit

def litF (s : St) (l : Ltl) : St := (buildF s l.t).1.emit { op := 12, a := (buildF s l.t).2, neg := l.neg }
theorem bodyF_cons (s : St) (l : Ltl) (ls : List Ltl) : bodyF s (l :: ls) = bodyF (litF s l) ls := rfl
theorem litF_room {s : St} {l : Ltl} {k : Nat} (h : s.room (bwt l.t + (k + 1))) : (litF s l).room k := room_emit _ (buildF_room _ _ _ h)

set_option maxRecDepth 100000 in
set_option maxHeartbeats 8000000 in
theorem mLiteral_any (W : World) (base bm bq : Nat) (hWb : W.heap.size ≤ base) (st : St) (l : Ltl) (A : Option Addr) (n cap : Nat) (w : World) (hk3 : l.t.c0.kind = 3) (hW : IsC W A n cap l.t.flat) (hbW : Below W.heap.size W w)
    (hM : Mk w base bm bq st) (hT : l.t.ok = true) (hTs : l.t.size ≤ 200) (hr : st.room (bwt l.t + 1)) :
    Calls Try.prog 32 #[.pointer (some ⟨bm, 0, none⟩), .agg #[.bool l.neg, .slice A n cap]] w (RetMk w base bm bq (litF st l)) := by
  have hmf : ∀ (fn : Fn) (first cap : Array Value) (w : World), (Instr.makeFunc fn first cap).run Try.prog w = .ok (.func fn first cap) w := fun _ _ _ _ => rfl
  have hMlt := hM.lt
  have hsmall := buildF_small st l.t (hr.le (by omega))
  have hroom := buildF_room l.t st 1 hr
  have hrc := hroom.code
  go_enter Try.func32, Try.ntmps32
  go_wp2_with fail
  refine wp_world (Φ := fun X => Below w.heap.size w X ∧ w.heap.size + 3 ≤ X.heap.size ∧ X.heap[w.heap.size]? = some (.cells #[.pointer (some ⟨bm, 0, none⟩)] 60 (0, 0)) ∧ X.heap[w.heap.size + 1]? = some (.cells #[.bool l.neg, .slice A n cap] 55 (0, 0)) ∧
      X.heap[w.heap.size + 2]? = some (.cells #[.func (.func 55) #[] #[.pointer (some ⟨w.heap.size + 2, 0, none⟩), .pointer (some ⟨w.heap.size, 0, none⟩)]] 51 (0, 0)))
    ⟨(((Below.refl _ _).alloc (Nat.le_refl _) _).alloc (by simp) _).alloc (by simp; omega) _, by simp, (alloc_past (by simp; omega)).trans ((alloc_past (by simp)).trans (alloc_at rfl)), (alloc_past (by simp)).trans (alloc_at (by simp)), alloc_at (by simp)⟩ ?_
  rintro X ⟨hbX, hsX, x0, x1, x2⟩
  have hMX := hM.keep hbX
  have hMd := hMX.keep (Below.refl _ _).drew
  have hKX : Kept w X.drew bm bq := (Kept.below (bm := bm) (bq := bq) hbX hMlt.2.1).trans (Kept.below (Below.refl _ _).drew hMX.lt.2.1)
  have f0 : Free X.drew bm bq w.heap.size := ⟨by simp; omega, by omega, by omega, by rw [cblk_same (show X.drew.heap[bm]? = w.heap[bm]? from hbX.block bm hMlt.2.1)]; exact hM.cblk_lt (Nat.le_refl _)⟩
  have f1 : Free X.drew bm bq (w.heap.size + 1) := ⟨by simp; omega, by omega, by omega, by rw [cblk_same (show X.drew.heap[bm]? = w.heap[bm]? from hbX.block bm hMlt.2.1)]; exact hM.cblk_lt (by omega)⟩
  have f2 : Free X.drew bm bq (w.heap.size + 2) := ⟨by simp; omega, by omega, by omega, by rw [cblk_same (show X.drew.heap[bm]? = w.heap[bm]? from hbX.block bm hMlt.2.1)]; exact hM.cblk_lt (by omega)⟩
  have y0 := cells_of x0 0
  have y10 := cells_of x1 0
  have y11 := cells_of x1 1
  have y2 := cells_of x2 0
  simp at y0 y10 y11 y2
  have hC : Caught X.drew bm bq (w.heap.size + 2) w.heap.size := ⟨f2, f0, y2, y0⟩
  have hbb : Below base w X.drew := (hbX.mono (by omega)).drew
  have hrec := mBuild_any W base bm bq (w.heap.size + 2) w.heap.size hWb l.t.size st l.t A n cap X.drew (Nat.le_refl _) hk3 hW ((hbW.trans (hbX.mono hbW.size)).drew) hMd hT hTs (hr.le (by omega)) hC
  have Hrec := Lib.hid hrec
  have hC5 : ∀ w5, Kept X.drew w5 bm bq → w5.cell? ⟨w.heap.size + 2, 0, none⟩ = some (.func (.func 55) #[] #[.pointer (some ⟨w.heap.size + 2, 0, none⟩), .pointer (some ⟨w.heap.size, 0, none⟩)]) := fun w5 hk => (hC.kept hk).ct
  clear hrec hC
  go_region_held3 (fun w' => w'.cell? ⟨w.heap.size, 0, none⟩ = some (.pointer (some ⟨bm, 0, none⟩)) ∧ w'.cell? ⟨w.heap.size + 1, 0, none⟩ = some (.bool l.neg) ∧ w'.cell? ⟨w.heap.size + 1, 1, none⟩ = some (.slice A n cap) ∧
      (w'.cell? ⟨w.heap.size + 2, 0, none⟩ = some (.func (.func 55) #[] #[.pointer (some ⟨w.heap.size + 2, 0, none⟩), .pointer (some ⟨w.heap.size, 0, none⟩)])))
    (go_keep)
    (first
      | (go_at_call 55; refine Hrec.out.mono ?_; rintro e w5 ⟨rfl, hM5, hb5, hk5⟩; (have q0 := (World.cell?_of_block (a := ⟨w.heap.size, 0, none⟩) (hk5.free _ f0).1).trans y0); (have q10 := (World.cell?_of_block (a := ⟨w.heap.size + 1, 0, none⟩) (hk5.free _ f1).1).trans y10); (have q11 := (World.cell?_of_block (a := ⟨w.heap.size + 1, 1, none⟩) (hk5.free _ f1).1).trans y11); have q2 := hC5 w5 hk5)
      | (go_at_call 33; refine (mEmit_any base bm bq (buildF st l.t).1 { op := 12, a := (buildF st l.t).2, neg := l.neg } w5 hM5 (wfI (i64_small (by decide) (by decide)) i64_0 (i64_small (by omega) (by omega)) i64_0 empty_size) (by omega)).mono ?_; rintro e w7 ⟨rfl, hM7, hb7, hk7⟩; have hk57 := hk5.trans hk7; (have p0 := (World.cell?_of_block (a := ⟨w.heap.size, 0, none⟩) (hk57.free _ f0).1).trans y0); (have p10 := (World.cell?_of_block (a := ⟨w.heap.size + 1, 0, none⟩) (hk57.free _ f1).1).trans y10); (have p11 := (World.cell?_of_block (a := ⟨w.heap.size + 1, 1, none⟩) (hk57.free _ f1).1).trans y11); have p2 := hC5 w7 hk57)
      | fail)
  go_end0
  exact ⟨rfl, hM7, hbb.trans (hb5.trans hb7), hKX.trans (hk5.trans hk7)⟩
end Go.Proofs.Ytdeaeiolehglaaa
