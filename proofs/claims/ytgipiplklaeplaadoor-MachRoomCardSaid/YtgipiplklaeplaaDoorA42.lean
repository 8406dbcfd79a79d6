/- Texts of this proof that belong together: words of memory, plain laws, walks. -/
import Derived.BigQuiet
import Derived.Test.YtgipiplklaeplaaDoorA11
import Derived.Test.YtgipiplklaeplaaDoorA22
import Derived.Test.YtgipiplklaeplaaDoorA27
import Derived.Test.YtgipiplklaeplaaDoorA32
import Derived.Test.YtgipiplklaeplaaDoorA33
import Derived.Test.YtgipiplklaeplaaDoorA41
set_option linter.unusedVariables false
set_option linter.unusedSimpArgs false
namespace Go.Proofs.YtgipiplklaeplaaDoor
open Go.RowKit
theorem may_raw (t : List C) (b : List (Bool × List C)) : mayB (t, b) = (atomB t && (decide (b.length ≤ 8) && b.all fun l => atomB l.2)) := rfl
theorem rMay_any (A : Option Addr) (n cap : Nat) (t : List C) (B : Option Addr) (m d : Nat) (b : List (Bool × List C)) (w : World) (h : IsC w A n cap t) (hB : IsLs w B m d b) (hn : n ≤ 1000) (hm : m ≤ 100) (hs : ∀ x ∈ b, x.2.length ≤ 1000) :
    Calls Tryd.prog 39 #[.agg #[.slice A n cap, .slice B m d]] w (RetV w (.bool (mayB (t, b)))) := by
  have hal : Below w.heap.size w (w.alloc (.cells #[.slice A n cap, .slice B m d] 25)) := (Below.refl _ _).alloc (Nat.le_refl _) _
  have hml := hB.len
  have Hml := Lib.hid hml
  clear hml
  go_enter Tryd.func39, Tryd.ntmps39
  go_upto_region 1 with fail
  refine wp_world (Φ := fun X => Below w.heap.size w X ∧ X.heap[w.heap.size]? = some (.cells #[.slice A n cap, .slice B m d] 25 (0, 0))) ⟨hal, alloc_at rfl⟩ ?_
  rintro X ⟨hbX, x0⟩
  have hl0 := block_lt x0
  obtain ⟨g, hg⟩ : ∃ g, g = w.heap.size := ⟨_, rfl⟩
  rw [← hg] at x0 hl0 ⊢
  have hgw : w.heap.size ≤ g := by omega
  clear hg
  go_wp2
  go_loopw [3] (fun i wr => ∃ k : Nat, k ≤ m ∧ i = .int .i64 k ∧ Hid ((b.drop k).all (fun l => atomB l.2) = b.all (fun l => atomB l.2)) ∧ Below X.heap.size X wr) (fun i _ => m - (intOf i).toNat)
  case atStart => exact ⟨0, Nat.zero_le _, rfl, rfl, Below.refl _ _⟩
  case round =>
    obtain ⟨k, hk, rfl, hres, hb⟩ := hrel
    have y0 := (hb.cell (p := ⟨g, 0, none⟩) hl0).trans (cells_of x0 0)
    have y1 := (hb.cell (p := ⟨g, 1, none⟩) hl0).trans (cells_of x0 1)
    simp at y0 y1
    have hbw := hbX.trans (hb.mono hbX.size)
    have hlg : g < wr.heap.size := Nat.lt_of_lt_of_le hl0 hb.size
    by_cases hlt : k < m
    · obtain ⟨x, hxk⟩ := hB.get hlt
      obtain ⟨bb, off, v, rfl, hbb, _, ⟨A', n', c', rfl, hx⟩, hcells⟩ := hB.at_ hxk
      have h0 := hcells 0 _ rfl
      have h1 := hcells 1 _ rfl
      have hd := drop_get hxk
      have hxs := hs x (List.mem_of_getElem? hxk)
      have hx' := hx.below hbw
      have hxl := hx.len
      have Hd := Lib.hid hd
      obtain ⟨hc, hf⟩ := bcell hbw
      have g1 := (hc bb _ hbb).trans h1
      have hcap := hB.cap_le
      have hbb2 : bb < wr.heap.size := Nat.lt_of_lt_of_le hbb hbw.size
      clear hxk hd hcells h0 h1 hc hf
      cases ho : atomB x.2
      all_goals
        have hg := rAtom_any A' n' c' x.2 wr hx' (by omega)
        rw [ho] at hg
        have Ho := Lib.hid ho
        have Hg := Lib.hid hg
        clear ho hg
        go_wp2_with (first | (go_at_call 38; go_must (refine Hg.out.mono ?_); rintro e w1 ⟨rfl, hb1⟩))
      · go_ret
        have hall : b.all (fun l => atomB l.2) = false := by have := hres.out; rw [Hd.out, List.all_cons, Ho.out, Bool.false_and] at this; exact this.symm
        exact ⟨ret_bool (by rw [may_raw, hall]; simp), hbw.trans (hb1.mono hbw.size)⟩
      · go_roundw
        case rel => exact ⟨k + 1, by omega, by go_num, by have := hres.out; rw [Hd.out, List.all_cons, Ho.out, Bool.true_and] at this; exact this, hb.trans (hb1.mono hb.size)⟩
        case measure => simp [intOf]; omega
    · have hall : b.all (fun l => atomB l.2) = true := by have := hres.out; rw [drop_end Hml.out hlt] at this; simpa using this.symm
      have hg := rAtom_any A n cap t wr (h.below hbw) (by omega)
      have Hall := Lib.hid hall
      clear hall
      cases ho : atomB t
      all_goals
        rw [ho] at hg
        have Ho := Lib.hid ho
        have Hg := Lib.hid hg
        clear ho hg
      · go_wp2_with (first | (go_at_call 38; go_must (refine Hg.out.mono ?_); rintro e w1 ⟨rfl, hb1⟩))
        go_ret
        exact ⟨ret_bool (by rw [may_raw, Ho.out]; simp), hbw.trans (hb1.mono hbw.size)⟩
      · have hq : decide ((m : Int) ≤ 8) = decide (m ≤ 8) := decide_eq_decide.2 (by omega)
        go_wp2_with (first | (go_at_call 38; go_must (refine Hg.out.mono ?_); rintro e w1 ⟨rfl, hb1⟩; have q0 := (hb1.cell (p := ⟨g, 0, none⟩) hlg).trans y0; have q1 := (hb1.cell (p := ⟨g, 1, none⟩) hlg).trans y1; have hlg1 := Nat.lt_of_lt_of_le hlg hb1.size))
        go_ret
        exact ⟨ret_bool (by rw [may_raw, Ho.out, Hall.out, Hml.out]; simp [hq]), hbw.trans (hb1.mono hbw.size)⟩
end Go.Proofs.YtgipiplklaeplaaDoor
namespace Go.Proofs.YtgipiplklaeplaaDoor
open Go.RowKit
/-- a new row of cells -/
def RetCN (w : World) (cs : List C) (e : Ending) (w' : World) : Prop := ∃ A n cap, e = .returned (.slice A n cap) ∧ IsC w' A n cap cs ∧ (∀ a, A = some a → w.heap.size ≤ a.block) ∧ Below w.heap.size w w'
set_option maxHeartbeats 800000 in
theorem rturn_any (A : Option Addr) (n cap : Nat) (t : List C) (A1 : Option Addr) (n1 c1 : Nat) (vs : List Int) (w : World) (h : IsC w A n cap t) (hn : n ≤ 100000) (hv : IsI w A1 n1 c1 vs) (hn1 : n1 ≤ 100000) :
    Calls Tryd.prog 67 #[.slice A n cap, .slice A1 n1 c1] w (RetCN w (turnF (placeI vs) t)) := by
  have hl := h.len
  have Hl := Lib.hid hl
  clear hl
  have hvl := hv.len
  go_enter Tryd.func67, Tryd.ntmps67
  go_wp2_with (first
    | (at_builtin; go_must (refine wpList_append_sl rfl (.tmp 7) (.tmp 8) 22 rfl w.heap.size 66 Tryd.underlying22 infoC rfl (by omega) rfl (World.ownsRow_lit _ #[] 0 (Nat.le_refl _) (by simp [maxLen]) rfl) rfl (h.sl.below ((Below.refl _ _).alloc (Nat.le_refl _) _)) (oneC t) (by omega) (by omega) (by simp) ?_); intro A0 cap0 w0 hown0 hb0 _ _; replace hown0 : w0.ownsRow w.heap.size 66 3 (.slice A0 n cap0) n (flatC t) := by simpa using hown0))
  have hb0' : Below w.heap.size w w0 := Below.trans ((Below.refl _ _).alloc (Nat.le_refl _) _) hb0
  go_loopw [6] (fun i wr => ∃ (k : Nat), k ≤ n ∧ i = .int .i64 k ∧ wr.ownsRow w.heap.size 66 3 (.slice A0 n cap0) n (flatC (turnF (placeI (vs)) (t.take k) ++ t.drop k)) ∧ Below w.heap.size w wr) (fun i _ => n - (intOf i).toNat)
  case atStart => exact ⟨0, Nat.zero_le _, rfl, by simpa [turnF] using hown0, hb0'⟩
  case round =>
    obtain ⟨k, hk, rfl, hown, hb⟩ := hrel
    by_cases hlt : k < n
    · obtain ⟨x, hxk⟩ := h.get hlt
      have hwf := h.wf x (List.mem_of_getElem? hxk)
      obtain ⟨gg, rfl⟩ : ∃ gg, A0 = some ⟨gg, 0, none⟩ := by
        obtain ⟨g, cap', hv, _⟩ := hown.form (by omega)
        injection hv with hv
        exact ⟨g, hv⟩
      have hxk' : (turnF (placeI (vs)) (t.take k) ++ t.drop k)[k]? = some x := by
        rw [List.getElem?_append_right (by simp [turnF]; omega)]
        have := Hl.out
        simp [turnF, hxk, show min k t.length = k by omega]
      obtain ⟨f0, f1, f2⟩ := flatC_get _ _ _ hxk'
      have hkl : k * 3 + 2 < n * 3 := by omega
      have h0 := (hown.cellAt (k * 3) (by omega)).trans f0
      have h1 := (hown.cellAt (k * 3 + 1) (by omega)).trans f1
      have h2 := (hown.cellAt (k * 3 + 2) (by omega)).trans f2
      have hz0 := hown.frozenAt (k * 3 + 2)
      have hgl := (hown.lt gg rfl)
      obtain ⟨hg1, hg2⟩ := hgl
      have hset : x.kind = 1 → (flatC (turnF (placeI (vs)) (t.take k) ++ t.drop k)).set (k * 3 + 2) (.int .i64 ((placeI (vs)) x.n)) = flatC (turnF (placeI (vs)) (t.take (k + 1)) ++ t.drop (k + 1)) := fun hk1 => turn_step (placeI (vs)) hxk hk1
      have hkeep : x.kind ≠ 1 → turnF (placeI (vs)) (t.take k) ++ t.drop k = turnF (placeI (vs)) (t.take (k + 1)) ++ t.drop (k + 1) := fun hk1 => turn_keep (placeI (vs)) hxk hk1
      have Hset := Lib.hid hset
      have Hkeep := Lib.hid hkeep
      clear hset hkeep hxk hxk' f0 f1 f2
      obtain ⟨hc, hf⟩ := bcell hb
      by_cases hk1 : x.kind = 1
      · have hbk : (x.kind == 1) = true := by simp [hk1]
        have Hk1 := Lib.hid hk1
        clear hk1
        have hvr : IsI wr A1 n1 c1 (vs) := hv.below hb
        go_wp2_with (first | (go_at_call 65; go_must (refine (Place_any A1 n1 c1 (vs) x.n _ hvr hn1).mono ?_); rintro e w2 ⟨rfl, rfl⟩))
        go_roundw
        case rel =>
          refine ⟨k + 1, by omega, by go_num, ?_, ?_⟩
          · rw [← Hset.out Hk1.out]
            exact (hown.stored (k * 3 + 2) _).1
          · exact Below.setCell (p := ⟨gg, k * 3 + 2, none⟩) hb hg1 _
        case measure => simp [intOf]; omega
      · have hbk : (x.kind == 1) = false := by simp [hk1]
        have Hk1 := Lib.hid hk1
        clear hk1
        go_wp2
        go_roundw
        case rel => exact ⟨k + 1, by omega, by go_num, by rw [← Hkeep.out Hk1.out]; exact hown, hb⟩
        case measure => simp [intOf]; omega
    · have hkn : k = n := by omega
      subst hkn
      have hfin : turnF (placeI (vs)) (t.take k) ++ t.drop k = turnF (placeI (vs)) t := by rw [drop_end Hl.out (by omega), List.take_of_length_le (by rw [Hl.out]; exact Nat.le_refl _)]; simp
      rw [hfin] at hown
      have hres : IsC wr A0 k cap0 (turnF (placeI (vs)) t) := ⟨Sl.own hown (by omega), turn_wf (fun n => place_i64 (vs) n (by omega)) h.wf⟩
      clear hfin
      go_wp2
      go_ret
      exact ⟨_, _, _, rfl, hres, fun a ha => (Own0.lt hown a ha).1, hb⟩
set_option maxHeartbeats 400000 in
theorem rVarsO_any (A : Option Addr) (n cap : Nat) (t : List C) (w : World) (h : IsC w A n cap t) (hn : n ≤ 100000) :
    Calls Tryd.prog 28 #[.slice A n cap] w fun e w' => ∃ A' n' c', e = .returned (.slice A' n' c') ∧ w'.ownsRow w.heap.size 3 1 (.slice A' n' c') n' ((varsF t).map (Value.int .i64)) ∧ (∀ x ∈ varsF t, i64 x) ∧ Below w.heap.size w w' := by
  go_enter Tryd.func28, Tryd.ntmps28
  go_wp2
  go_loopw [3, 4] (fun o i wr => ∃ (k m c' : Nat) (Ao : Option Addr) (acc : List Int), k ≤ n ∧ i = .int .i64 k ∧ o = .slice Ao m c' ∧ m ≤ k ∧ wr.ownsRow w.heap.size 3 1 (.slice Ao m c') m (acc.map (Value.int .i64)) ∧ (∀ x ∈ acc, i64 x) ∧ Hid (varsA acc (t.drop k) = varsF t) ∧ Below w.heap.size w wr) (fun _ i _ => n - (intOf i).toNat)
  case atStart => exact ⟨0, 0, 0, _, [], Nat.zero_le _, rfl, rfl, Nat.le_refl _, World.ownsRow_lit w #[] 0 (Nat.le_refl _) (by simp [maxLen]) rfl, by simp, rfl, (Below.refl _ _).alloc (Nat.le_refl _) _⟩
  case round =>
    obtain ⟨k, m, c', Ao, acc, hk, rfl, rfl, hm, hown, hwa, hres, hb⟩ := hrel
    have hacc : IsI wr Ao m c' acc := ⟨Sl.own hown (by omega), hwa⟩
    by_cases hlt : k < n
    · obtain ⟨x, hxk⟩ := h.get hlt
      obtain ⟨b, off, rfl, hbb, hwf, h0, h1, h2⟩ := h.at_ hxk
      have hd := drop_get hxk
      have Hd := Lib.hid hd
      clear hxk hd
      obtain ⟨hc, hf⟩ := bcell hb
      by_cases hk1 : x.kind = 1
      · have hbk : (x.kind == 1) = true := by simp [hk1]
        have Hk1 := Lib.hid hk1
        clear hk1
        have hcon := In_any Ao m c' acc x.n
        cases hin : inI acc x.n
        · rw [hin] at hcon
          have Hcon := Lib.hid hcon
          have Hin := Lib.hid hin
          clear hcon hin
          go_wp2_with (first
            | (go_at_call 66; go_must (refine (Hcon.out _ (hacc.below (by repeat (first | assumption | exact Below.refl _ _ | refine Below.drew ?_ | refine below_drewN ?_ _ | refine Below.alloc ?_ ?_ _ | refine Below.setCell ?_ ?_ _ | (apply Below.size; assumption) | (simp; done) | (simp; omega) | (have hz := hb.size; simp; omega) | (have hz := hb.size; omega) | omega))) (by omega)).mono ?_); rintro e w1 ⟨rfl, rfl⟩)
            | (at_builtin; go_must (refine wpList_append_sl rfl (.tmp 28) (.tmp 34) 42 rfl w.heap.size 3 Tryd.underlying42 infoI rfl (by omega) rfl (hown.alloc _) rfl (Sl.lit _ _ [.int .i64 x.n] 3 1 1 (by simp) rfl (by simp [maxLen])) (one1 rfl) (by omega) (by omega) (by have := hb.size; simp; omega) ?_); intro A' cap' w1 hown1 hb1 _ _))
          have hb2 : Below w.heap.size w w1 := Below.trans (by repeat (first | assumption | exact Below.refl _ _ | refine Below.drew ?_ | refine below_drewN ?_ _ | refine Below.alloc ?_ ?_ _ | refine Below.setCell ?_ ?_ _ | (apply Below.size; assumption) | (simp; done) | (simp; omega) | (have hz := hb.size; simp; omega) | (have hz := hb.size; omega) | omega)) hb1
          go_roundw
          case rel =>
            refine ⟨k + 1, m + 1, cap', A', acc ++ [x.n], by omega, by go_num, rfl, by omega, by simpa using hown1, ?_, Lib.hid ?_, hb2⟩
            · intro y hy
              rcases List.mem_append.1 hy with hy | hy
              · exact hwa y hy
              · simp at hy; subst hy; exact hwf.n
            · have := hres.out
              rw [Hd.out, varsA_cons, if_pos ⟨Hk1.out, Hin.out⟩] at this
              exact this
          case measure => simp [intOf]; omega
        · rw [hin] at hcon
          have Hcon := Lib.hid hcon
          have Hin := Lib.hid hin
          clear hcon hin
          go_wp2_with (first
            | (go_at_call 66; go_must (refine (Hcon.out _ (hacc.below (by repeat (first | assumption | exact Below.refl _ _ | refine Below.drew ?_ | refine below_drewN ?_ _ | refine Below.alloc ?_ ?_ _ | refine Below.setCell ?_ ?_ _ | (apply Below.size; assumption) | (simp; done) | (simp; omega) | (have hz := hb.size; simp; omega) | (have hz := hb.size; omega) | omega))) (by omega)).mono ?_); rintro e w1 ⟨rfl, rfl⟩))
          go_roundw
          case rel =>
            refine ⟨k + 1, m, c', Ao, acc, by omega, by go_num, rfl, by omega, hown, hwa, Lib.hid ?_, (by repeat (first | assumption | exact Below.refl _ _ | refine Below.drew ?_ | refine below_drewN ?_ _ | refine Below.alloc ?_ ?_ _ | refine Below.setCell ?_ ?_ _ | (apply Below.size; assumption) | (simp; done) | (simp; omega) | (have hz := hb.size; simp; omega) | (have hz := hb.size; omega) | omega))⟩
            have := hres.out
            rw [Hd.out, varsA_cons, if_neg (by simp [Hin.out])] at this
            exact this
          case measure => simp [intOf]; omega
      · have hbk : (x.kind == 1) = false := by simp [hk1]
        have Hk1 := Lib.hid hk1
        clear hk1
        go_wp2
        go_roundw
        case rel =>
          refine ⟨k + 1, m, c', Ao, acc, by omega, by go_num, rfl, by omega, hown, hwa, Lib.hid ?_, (by repeat (first | assumption | exact Below.refl _ _ | refine Below.drew ?_ | refine below_drewN ?_ _ | refine Below.alloc ?_ ?_ _ | refine Below.setCell ?_ ?_ _ | (apply Below.size; assumption) | (simp; done) | (simp; omega) | (have hz := hb.size; simp; omega) | (have hz := hb.size; omega) | omega))⟩
          have := hres.out
          rw [Hd.out, varsA_cons, if_neg (by simp [Hk1.out])] at this
          exact this
        case measure => simp [intOf]; omega
    · go_wp2
      go_ret
      have hfin : acc = varsF t := by have := hres.out; rw [drop_end h.len hlt] at this; exact this
      exact ⟨_, _, _, rfl, by rw [← hfin]; exact hown, by rw [← hfin]; exact hwa, hb⟩
theorem lits_at {w : World} {B : Option Addr} {m d k : Nat} {b : List (Bool × List C)} {p : Bool × List C} (h : IsLs w B m d b) (hk : b[k]? = some p) :
    ∃ bb off A n c, B = some ⟨bb, off, none⟩ ∧ bb < w.heap.size ∧ IsC w A n c p.2 ∧ w.cell? ⟨bb, off + k * 2, none⟩ = some (.bool p.1) ∧ w.cell? ⟨bb, off + k * 2 + 1, none⟩ = some (.slice A n c) := by
  obtain ⟨bb, off, v, rfl, hbb, _, ⟨A, n, c, rfl, hx⟩, hc⟩ := h.at_ hk
  exact ⟨bb, off, A, n, c, rfl, hbb, hx, hc 0 _ rfl, hc 1 _ rfl⟩
end Go.Proofs.YtgipiplklaeplaaDoor
namespace Go.Proofs.YtgipiplklaeplaaDoor
open Go.RowKit
set_option maxHeartbeats 2000000 in
theorem rLits_any (B : Option Addr) (m d : Nat) (b : List (Bool × List C)) (B' : Option Addr) (m' d' : Nat) (b' : List (Bool × List C)) (X : World) (hB : IsLs X B m d b) (hB' : IsLs X B' m' d' b') (hs : ∀ x ∈ b, x.2.length ≤ 100000) (hs' : ∀ x ∈ b', x.2.length ≤ 100000) :
    Calls Tryd.prog 32 #[.slice B m d, .slice B' m' d'] X (RetV X (.bool (sameBody b b'))) := by
  have hml := hB.len
  have hml' := hB'.len
  have Hml := Lib.hid hml
  have Hml' := Lib.hid hml'
  have hcap := hB.cap_le
  have hm63 : m ≤ 9223372036854775807 := by have h1 := hcap.1; have h2 := hcap.2; simp only [maxLen] at h2; omega
  have hcap' := hB'.cap_le
  clear hml hml'
  by_cases hmm : m = m'
  · subst hmm
    go_enter Tryd.func32, Tryd.ntmps32
    go_wp2
    go_loopw [5] (fun i wr => ∃ k : Nat, k ≤ m ∧ i = .int .i64 k ∧ Hid (sameBody (b.drop k) (b'.drop k) = sameBody b b') ∧ ∃ q, wr = X.drewN q) (fun i _ => m - (intOf i).toNat)
    case atStart => exact ⟨0, Nat.zero_le _, rfl, rfl, 0, rfl⟩
    case round =>
      obtain ⟨k, hk, rfl, hres, q2, rfl⟩ := hrel
      by_cases hlt : k < m
      · obtain ⟨x, hxk⟩ := hB.get hlt
        obtain ⟨y, hyk⟩ := hB'.get hlt
        have hx1 := hs x (List.mem_of_getElem? hxk)
        have hy1 := hs' y (List.mem_of_getElem? hyk)
        obtain ⟨b1, o1, A1, n1, c1, rfl, hb1, i1, u0, u1⟩ := lits_at hB hxk
        obtain ⟨b2, o2, A2, n2, c2, rfl, hb2, i2, v0, v1⟩ := lits_at hB' hyk
        have hdx := drop_get hxk
        have hdy := drop_get hyk
        have Hdx := Lib.hid hdx
        have Hdy := Lib.hid hdy
        rw [i1.len] at hx1
        rw [i2.len] at hy1
        clear hxk hyk hdx hdy hB hB'
        obtain ⟨xb, xt⟩ := x
        obtain ⟨yb, yt⟩ := y
        have hp : (k : Int) < (m : Int) := by omega
        have hcap1 := hcap.1
        have hcap2 := hcap'.1
        simp only at i1 i2 u0 v0 hx1 hy1
        have hR := fun q => rSame_any A1 A2 n1 n2 c1 c2 xt yt (X.drewN q) (i1.drewN q) (i2.drewN q) hx1 hy1
        by_cases hng : xb = yb
        · subst hng
          have hstep : sameBody ((xb, xt) :: b.drop (k + 1)) ((xb, yt) :: b'.drop (k + 1)) = (sameC xt yt && sameBody (b.drop (k + 1)) (b'.drop (k + 1))) := by simp [sameBody]
          have Hstep := Lib.hid hstep
          clear hstep
          cases hsx : sameC xt yt
          all_goals
            rw [hsx] at hR
            have Hsx := Lib.hid hsx
            have HR := Lib.hid hR
            clear hsx hR
            cases xb
            all_goals
              go_wp2
              go_quiet ((go_at_call 31; exact quiet_add (HR.out _)))
              go_wp2
          · go_ret
            exact ⟨ret_bool (by have := hres.out; rw [Hdx.out, Hdy.out, Hstep.out, Hsx.out] at this; rw [← this]; simp), below_drewN (below_drewN (Below.refl _ _) _) _⟩
          · go_ret
            exact ⟨ret_bool (by have := hres.out; rw [Hdx.out, Hdy.out, Hstep.out, Hsx.out] at this; rw [← this]; simp), below_drewN (below_drewN (Below.refl _ _) _) _⟩
          all_goals
            go_roundw
            case rel => exact ⟨k + 1, by omega, by go_num, by have := hres.out; rw [Hdx.out, Hdy.out, Hstep.out, Hsx.out, Bool.true_and] at this; exact Lib.hid this, _, rfl⟩
            case measure => simp [intOf]; omega
        · have hstep : sameBody ((xb, xt) :: b.drop (k + 1)) ((yb, yt) :: b'.drop (k + 1)) = false := by simp [sameBody, hng]
          have Hstep := Lib.hid hstep
          clear hstep
          cases xb <;> cases yb
          all_goals (first | exact absurd rfl hng | skip)
          all_goals
            clear hng
            go_wp2
            go_quiet (fail)
            go_wp2
            go_ret
            exact ⟨ret_bool (by have := hres.out; rw [Hdx.out, Hdy.out, Hstep.out] at this; rw [← this]), below_drewN (below_drewN (Below.refl _ _) _) _⟩
      · go_wp2
        go_ret
        refine ⟨ret_bool ?_, below_drewN (Below.refl _ _) _⟩
        have := hres.out
        rw [List.drop_eq_nil_of_le (by have := Hml.out; omega), List.drop_eq_nil_of_le (by have := Hml'.out; omega), sameBody] at this
        rw [← this]
  · have hne : ((m : Int) == (m' : Int)) = false := by simp; omega
    go_enter Tryd.func32, Tryd.ntmps32
    go_wp2
    go_ret
    refine ⟨ret_bool ?_, Below.refl _ _⟩
    rw [sameBody_len (by rw [Hml.out, Hml'.out]; exact hmm)]
end Go.Proofs.YtgipiplklaeplaaDoor
namespace Go.Proofs.YtgipiplklaeplaaDoor
open Go.RowKit
theorem cells_wfK {l : List C} (h : l.all (fun c => decide (-3000000000 ≤ c.kind) && (decide (c.kind ≤ 3000000000) && (decide (-3000000000 ≤ c.n) && (decide (c.n ≤ 3000000000) && decide (c.name.size ≤ 100))))) = true) : ∀ c ∈ l, c.wf := fun c hc => by
  have := List.all_eq_true.1 h c hc
  simp only [Bool.and_eq_true, decide_eq_true_eq] at this
  obtain ⟨h1, h2, h3, h4, h5⟩ := this
  exact ⟨i64_small h1 h2, i64_small h3 h4, by simp [maxLen]; omega⟩
theorem isC_litK {w : World} {g n : Nat} {l : List C} {cs : Array Value} (h : w.heap[g]? = some (.cells cs 66 (0, 0))) (hc : cs.toList = flatC l) (hl : l.length = n) (hn : n ≤ 1000) (hw : ∀ c ∈ l, c.wf) : IsC w (some ⟨g, 0, none⟩) n n l := by
  have := Sl.blk (size := 3) (n := n) h (by rw [← Array.length_toList, hc, flatC_len, hl]) (by simp [maxLen]; omega)
  rw [hc] at this
  exact ⟨this, hw⟩
theorem ins_wfK {l : List In} (h : l.all (fun i => decide (0 ≤ i.op) && (decide (i.op ≤ 100) && (decide (0 ≤ i.x) && (decide (i.x ≤ 100) && (decide (0 ≤ i.a) && (decide (i.a ≤ 100) && (decide (0 ≤ i.n) && (decide (i.n ≤ 100) && decide (i.name.size ≤ 100))))))))) = true) : ∀ i ∈ l, i.wf := fun i hi => by
  have := List.all_eq_true.1 h i hi
  simp only [Bool.and_eq_true, decide_eq_true_eq] at this
  obtain ⟨h1, h2, h3, h4, h5, h6, h7, h8, h9⟩ := this
  exact ⟨i64_small (by omega) (by omega), i64_small (by omega) (by omega), i64_small (by omega) (by omega), i64_small (by omega) (by omega), by simp [maxLen]; omega⟩
def flatKK (l : List In) : List Value := (l.map In.flat).flatten
/-- a row of instructions out of a block -/
theorem isK_litK {w : World} {g n : Nat} {l : List In} {cs : Array Value} (h : w.heap[g]? = some (.cells cs 88 (0, 0))) (hc : cs.toList = flatKK l) (hl : l.length = n) (hn : n ≤ 1000) (hw : ∀ i ∈ l, i.wf) : IsK w (some ⟨g, 0, none⟩) n n l := by
  have hlen : (flatKK l).length = n * 6 := by
    rw [flatKK, flatten_len (k := 6) (by intro v hv; obtain ⟨i, _, rfl⟩ := List.mem_map.1 hv; rfl), List.length_map, hl]
  refine ⟨hl, l.map In.flat, by simp, (by intro v hv; obtain ⟨i, _, rfl⟩ := List.mem_map.1 hv; rfl), ?_, fun q x v hx hv => ?_⟩
  · have := Sl.blk (size := 6) (n := n) h (by rw [← Array.length_toList, hc, hlen]) (by simp [maxLen]; omega)
    rw [hc] at this
    exact this
  · rw [List.getElem?_map, hx] at hv
    simp at hv
    exact ⟨hv.symm, hw x (List.mem_of_getElem? hx)⟩
theorem f11_any (nm : ByteArray) (k : Int) (w : World) : Calls Tryd.prog 35 #[.string nm, .int .i64 k] w (fun e w' => e = .returned (.agg #[.int .i64 3, .string nm, .int .i64 k]) ∧ w' = w.alloc (.cells #[.int .i64 3, .string nm, .int .i64 k] 66)) := by
  go_enter Tryd.func35, Tryd.ntmps35
  go_wp2
  exact bodyPost_ret (v := .agg #[.int .i64 3, .string nm, .int .i64 k]) (by simp [results, Tryd.results35, go_sem]) rfl ⟨rfl, rfl⟩
theorem v11_any (k : Int) (w : World) : Calls Tryd.prog 36 #[.int .i64 k] w (fun e w' => e = .returned (.agg #[.int .i64 1, .string ⟨#[]⟩, .int .i64 k]) ∧ w' = w.alloc (.cells #[.int .i64 1, .string ⟨#[]⟩, .int .i64 k] 66)) := by
  go_enter Tryd.func36, Tryd.ntmps36
  go_wp2
  exact bodyPost_ret (v := .agg #[.int .i64 1, .string ⟨#[]⟩, .int .i64 k]) (by simp [results, Tryd.results36, go_sem]) rfl ⟨rfl, rfl⟩
theorem n11_any (k : Int) (w : World) : Calls Tryd.prog 37 #[.int .i64 k] w (fun e w' => e = .returned (.agg #[.int .i64 2, .string ⟨#[]⟩, .int .i64 k]) ∧ w' = w.alloc (.cells #[.int .i64 2, .string ⟨#[]⟩, .int .i64 k] 66)) := by
  go_enter Tryd.func37, Tryd.ntmps37
  go_wp2
  exact bodyPost_ret (v := .agg #[.int .i64 2, .string ⟨#[]⟩, .int .i64 k]) (by simp [results, Tryd.results37, go_sem]) rfl ⟨rfl, rfl⟩
def allocs (w : World) (os : List Obj) : World := os.foldl (fun w o => w.alloc o) w
theorem allocs_facts : ∀ (os : List Obj) (w : World), Below w.heap.size w (allocs w os) ∧ (allocs w os).heap.size = w.heap.size + os.length ∧ ∀ (k : Nat) (o : Obj), os[k]? = some o → (allocs w os).heap[w.heap.size + k]? = some o
  | [], w => ⟨Below.refl _ _, rfl, fun k o h => by simp at h⟩
  | o :: os, w => by
    obtain ⟨h1, h2, h3⟩ := allocs_facts os (w.alloc o)
    have hs : (w.alloc o).heap.size = w.heap.size + 1 := by simp
    have e : allocs w (o :: os) = allocs (w.alloc o) os := rfl
    rw [e]
    refine ⟨((Below.refl _ _).alloc (Nat.le_refl _) o).trans (h1.mono (by omega)), by rw [h2, hs]; simp; omega, fun k x hx => ?_⟩
    cases k with
    | zero =>
      simp at hx
      subst hx
      exact (h1.block _ (by omega)).trans (alloc_at rfl)
    | succ k =>
      have := h3 k x (by simpa using hx)
      rw [hs] at this
      rw [show w.heap.size + (k + 1) = w.heap.size + 1 + k by omega]
      exact this
/-- the two clauses of the live questions -/
structure Hq (w : World) (g : Nat) : Prop where
  c : w.heap[g + 12]? = some (.cells #[.slice (some ⟨g + 3, 0, none⟩) 3 3, .slice (some ⟨g + 11, 0, none⟩) 2 2] 25 (0, 0))
  d : w.heap[g + 18]? = some (.cells #[.slice (some ⟨g + 17, 0, none⟩) 4 4, .slice none 0 0] 25 (0, 0))
  ch : IsC w (some ⟨g + 3, 0, none⟩) 3 3 hcC.head.flat
  cb : IsLs w (some ⟨g + 11, 0, none⟩) 2 2 (hcC.body.map fun l => (l.neg, l.t.flat))
  dh : IsC w (some ⟨g + 17, 0, none⟩) 4 4 hcD.head.flat
  dt : DT w
theorem Hq.below {w w' : World} {g : Nat} (h : Hq w g) (hb : Below w.heap.size w w') : Hq w' g :=
  ⟨(hb.block _ (block_lt h.c)).trans h.c, (hb.block _ (block_lt h.d)).trans h.d, h.ch.below hb, IsG.below keepsLit h.cb hb, h.dh.below hb, h.dt.below hb⟩
theorem hcC_is : IsCls hcC (hcC.head.flat, hcC.body.map fun l => (l.neg, l.t.flat)) := ⟨rfl, ⟨by rfl, by decide, by rfl⟩, rfl, by intro l hl; simp [hcC] at hl; rcases hl with rfl | rfl <;> exact ⟨by rfl, by decide, by rfl⟩, by decide⟩
theorem hcC_may : mayB (hcC.head.flat, hcC.body.map fun l => (l.neg, l.t.flat)) = true := by kernel_rfl
theorem hcD_is : IsCls hcD (hcD.head.flat, []) := ⟨rfl, ⟨by rfl, by decide, by rfl⟩, rfl, by intro l hl; simp [hcD] at hl, by decide⟩
theorem hcD_may : mayB (hcD.head.flat, []) = true := by kernel_rfl
theorem wp_allocs {P : Program} {c : Code} {Q : Exit → Act → World → Prop} {a : Act} {w wX : World} {os : List Obj} (h : wX = allocs w os) (k : ∀ X, Below w.heap.size w X → X.heap.size = w.heap.size + os.length → (∀ (k : Nat) (o : Obj), os[k]? = some o → X.heap[w.heap.size + k]? = some o) → c.wp P Q a X) : c.wp P Q a wX := by
  subst h
  obtain ⟨h1, h2, h3⟩ := allocs_facts os w
  exact k _ h1 h2 h3
theorem Hq.sc {w : World} {g : Nat} (h : Hq w g) : w.cell? ⟨g + 12, 0, none⟩ = some (.slice (some ⟨g + 3, 0, none⟩) 3 3) ∧ w.cell? ⟨g + 12, 1, none⟩ = some (.slice (some ⟨g + 11, 0, none⟩) 2 2) := ⟨(open2 h.c).1, (open2 h.c).2.1⟩
theorem f11_v (nm : ByteArray) (k : Int) (w : World) : Calls Tryd.prog 35 #[.string nm, .int .i64 k] w (RetV w (.agg #[.int .i64 3, .string nm, .int .i64 k])) := (f11_any nm k w).mono fun e w' ⟨h1, h2⟩ => ⟨h1, by rw [h2]; exact (Below.refl _ _).alloc (Nat.le_refl _) _⟩
theorem v11_v (k : Int) (w : World) : Calls Tryd.prog 36 #[.int .i64 k] w (RetV w (.agg #[.int .i64 1, .string ⟨#[]⟩, .int .i64 k])) := (v11_any k w).mono fun e w' ⟨h1, h2⟩ => ⟨h1, by rw [h2]; exact (Below.refl _ _).alloc (Nat.le_refl _) _⟩
theorem n11_v (k : Int) (w : World) : Calls Tryd.prog 37 #[.int .i64 k] w (RetV w (.agg #[.int .i64 2, .string ⟨#[]⟩, .int .i64 k])) := (n11_any k w).mono fun e w' ⟨h1, h2⟩ => ⟨h1, by rw [h2]; exact (Below.refl _ _).alloc (Nat.le_refl _) _⟩
theorem liveC {s : ByteArray} {us : List Tm} {w : World} {g : Nat} {At : Option Addr} {k kc : Nat} {room : Int} {o : Raw ⊕ Int} (hA : (Tm.f s us).ok = true) (hs : (Tm.f s us).size ≤ 200) (h : IsC w At k kc (Tm.f s us).flat) (hq : Hq w g) (hr : i64 room) (he : resC (Tm.f s us) hcC room = o) :
    Calls Tryd.prog 13 #[.slice At k kc, .agg #[.slice (some ⟨g + 3, 0, none⟩) 3 3, .slice (some ⟨g + 11, 0, none⟩) 2 2], .int .i64 room] w (RetRz w o) := by
  have := kResolve_any s us hcC At _ _ k kc 3 3 2 2 _ _ room w h hq.ch hq.cb hcC_is hcC_may hA hs hr hq.dt
  rw [resZ_C hcC_is hA hs, he] at this
  exact this
theorem liveD {s : ByteArray} {us : List Tm} {w : World} {g : Nat} {At : Option Addr} {k kc : Nat} {room : Int} {o : Raw ⊕ Int} (hA : (Tm.f s us).ok = true) (hs : (Tm.f s us).size ≤ 200) (h : IsC w At k kc (Tm.f s us).flat) (hq : Hq w g) (hr : i64 room) (he : resC (Tm.f s us) hcD room = o) :
    Calls Tryd.prog 13 #[.slice At k kc, .agg #[.slice (some ⟨g + 17, 0, none⟩) 4 4, .slice none 0 0], .int .i64 room] w (RetRz w o) := by
  have := kResolve_any s us hcD At _ none k kc 4 4 0 0 _ [] room w h hq.dh (IsG.nil (by simp [maxLen])) hcD_is hcD_may hA hs hr hq.dt
  rw [resZ_C hcD_is hA hs, he] at this
  exact this
theorem liveR {w : World} {gs ga gk : Nat} (steps : Int) (hs : w.heap[gs]? = some (.cells #[.int .i64 1, .string emp, .int .i64 0] 90 (0, 0))) (ha : w.heap[ga]? = some (.cells #[.int .i64 0] 3 (0, 0))) (hK : IsK w (some ⟨gk, 0, none⟩) 3 3 hcK) (hdt : DT w) (hst : i64 steps) :
    Calls Tryd.prog 19 #[.agg #[.slice (some ⟨gs, 0, none⟩) 1 1, .slice none 0 0, .int .i64 9], .slice (some ⟨ga, 0, none⟩) 1 1, .slice (some ⟨gk, 0, none⟩) 3 3, .int .i64 steps] w (RetRun w (some ⟨gs, 0, none⟩) none 1 1 0 0 9 (outN hcM hcK steps)) :=
  kRun_any (some ⟨gs, 0, none⟩) none (some ⟨ga, 0, none⟩) (some ⟨gk, 0, none⟩) 1 1 0 0 1 1 3 3 9 steps [⟨1, emp, 0⟩] [] [0] hcK w
    ⟨Sl.blk (size := 3) (n := 1) hs rfl (by simp [maxLen]), by intro c hc; simp at hc; subst hc; exact ⟨i64_near (by decide) (by decide), i64_near (by decide) (by decide), by decide⟩⟩ (IsI.nil _ none 0 (by simp [maxLen]))
    ⟨Sl.blk (size := 1) (n := 1) ha rfl (by simp [maxLen]), by intro c hc; simp at hc; subst hc; exact i64_near (by decide) (by decide)⟩ hK hdt hcM_ok.ok (by omega) (by omega) hst hcK_bad
theorem Hq.sd {w : World} {g : Nat} (h : Hq w g) : w.cell? ⟨g + 18, 0, none⟩ = some (.slice (some ⟨g + 17, 0, none⟩) 4 4) ∧ w.cell? ⟨g + 18, 1, none⟩ = some (.slice none 0 0) := ⟨(open2 h.d).1, (open2 h.d).2.1⟩
theorem rSame_v {w : World} {A B : Option Addr} {n c c' : Nat} {xs : List C} (h : IsC w A n c xs) (h' : IsC w B n c' xs) (hn : n ≤ 1000) : Calls Tryd.prog 31 #[.slice A n c, .slice B n c'] w (RetV w (.bool true)) := by
  have := rSame_any A B n n c c' xs xs w h h' (by omega) (by omega)
  rw [(sameC_iff xs xs).2 rfl] at this
  exact this.mono fun e w' ⟨h1, d, h2⟩ => ⟨h1, by rw [h2]; exact below_drewN (Below.refl _ _) d⟩
theorem qSame_v {base ga gb : Nat} {w v : World} {A B : Option Addr} {c d : Nat} (ho : w.ownsRow base 90 3 (.slice A hcR.l.length c) hcR.l.length (flatC hcR.l)) (hI : IsI w B hcR.tr.length d hcR.tr) (hb : Below w.heap.size w v)
    (hs : v.heap[ga]? = some (.cells #[.int .i64 1, .string ⟨#[]⟩, .int .i64 1, .int .i64 4, .string ⟨#[103]⟩, .int .i64 1, .int .i64 1, .string ⟨#[]⟩, .int .i64 3, .int .i64 2, .string ⟨#[]⟩, .int .i64 5] 90 (0, 0))) (ht : v.heap[gb]? = some (.cells #[.int .i64 0, .int .i64 2] 3 (0, 0))) :
    Calls Tryd.prog 20 #[.agg #[.slice A hcR.l.length c, .slice B hcR.tr.length d, .int .i64 hcR.r], .agg #[.slice (some ⟨ga, 0, none⟩) 4 4, .slice (some ⟨gb, 0, none⟩) 2 2, .int .i64 9]] v (RetV v (.bool true)) := by
  have hC : IsC w A hcR.l.length c hcR.l := ⟨Sl.own ho (by decide), cells_wfK (by decide)⟩
  have hC2 : IsC v (some ⟨ga, 0, none⟩) 4 4 hcR.l := ⟨Sl.blk (size := 3) (n := 4) hs rfl (by simp [maxLen]), cells_wfK (by decide)⟩
  have hI2 : IsI v (some ⟨gb, 0, none⟩) 2 2 hcR.tr := ⟨Sl.blk (size := 1) (n := 2) ht rfl (by simp [maxLen]), fun x hx => by simp [hcR] at hx; rcases hx with rfl | rfl <;> exact i64_near (by decide) (by decide)⟩
  have := qSame_any A B _ _ _ c _ d 4 4 2 2 hcR.r 9 hcR.l hcR.l hcR.tr hcR.tr v (hC.below hb) (hI.below hb) hC2 hI2 (by decide) (by decide) (by omega) (by omega)
  rw [(sameH_iff ⟨hcR.l, hcR.tr, hcR.r⟩ ⟨hcR.l, hcR.tr, 9⟩).2 rfl] at this
  exact this
end Go.Proofs.YtgipiplklaeplaaDoor
