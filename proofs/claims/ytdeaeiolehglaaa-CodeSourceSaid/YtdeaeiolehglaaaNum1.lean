/- The walks of the document's turn, of variables' rows, and of SameClause. -/
import Derived.BigQuiet
import Derived.Test.YtdeaeiolehglaaaTurn
import Derived.Test.YtdeaeiolehglaaaNumS
import Derived.Test.YtdeaeiolehglaaaMay2
set_option linter.unusedVariables false
set_option linter.unusedSimpArgs false
namespace Go.Proofs.Ytdeaeiolehglaaa
open Go.RowKit

/-- a new row of cells -/
def RetCN (w : World) (cs : List C) (e : Ending) (w' : World) : Prop := ∃ A n cap, e = .returned (.slice A n cap) ∧ IsC w' A n cap cs ∧ (∀ a, A = some a → w.heap.size ≤ a.block) ∧ Below w.heap.size w w'
set_option maxHeartbeats 800000 in
theorem rturn_any (A : Option Addr) (n cap : Nat) (t : List C) (A1 : Option Addr) (n1 c1 : Nat) (vs : List Int) (w : World) (h : IsC w A n cap t) (hn : n ≤ 100000) (hv : IsI w A1 n1 c1 vs) (hn1 : n1 ≤ 100000) :
    Calls Try.prog 47 #[.slice A n cap, .slice A1 n1 c1] w (RetCN w (turnF (placeI vs) t)) := by
  have hl := h.len
  have Hl := Lib.hid hl
  clear hl
  have hvl := hv.len
  go_enter Try.func47, Try.ntmps47
  go_wp2_with (first
    | (at_builtin; go_must (refine wpList_append_sl rfl (.tmp 7) (.tmp 8) 22 rfl w.heap.size 45 Try.underlying22 infoC rfl (by omega) rfl (World.ownsRow_lit _ #[] 0 (Nat.le_refl _) (by simp [maxLen]) rfl) rfl (h.sl.below ((Below.refl _ _).alloc (Nat.le_refl _) _)) (oneC t) (by omega) (by omega) (by simp) ?_); intro A0 cap0 w0 hown0 hb0 _ _; replace hown0 : w0.ownsRow w.heap.size 45 3 (.slice A0 n cap0) n (flatC t) := by simpa using hown0))
  have hb0' : Below w.heap.size w w0 := Below.trans ((Below.refl _ _).alloc (Nat.le_refl _) _) hb0
  go_loopw [6] (fun i wr => ∃ (k : Nat), k ≤ n ∧ i = .int .i64 k ∧ wr.ownsRow w.heap.size 45 3 (.slice A0 n cap0) n (flatC (turnF (placeI (vs)) (t.take k) ++ t.drop k)) ∧ Below w.heap.size w wr) (fun i _ => n - (intOf i).toNat)
  case atStart => exact ⟨0, Nat.zero_le _, rfl, by simpa [turnF] using hown0, hb0'⟩
  case round =>
    obtain ⟨k, hk, rfl, hown, hb⟩ := hrel
    by_cases hlt : k < n
    · obtain ⟨x, hxk⟩ := h.get hlt
      have hwf := h.wf x (List.mem_of_getElem? hxk)
      obtain ⟨gg, rfl⟩ : ∃ gg, A0 = some ⟨gg, 0, none⟩ := by
        obtain ⟨g, cap', hv, _⟩ := hown.form (by omega)
        injection hv with hv
        exact ⟨g, hv⟩
      have hxk' : (turnF (placeI (vs)) (t.take k) ++ t.drop k)[k]? = some x := by
        rw [List.getElem?_append_right (by simp [turnF]; omega)]
        have := Hl.out
        simp [turnF, hxk, show min k t.length = k by omega]
      obtain ⟨f0, f1, f2⟩ := flatC_get _ _ _ hxk'
      have hkl : k * 3 + 2 < n * 3 := by omega
      have h0 := (hown.cellAt (k * 3) (by omega)).trans f0
      have h1 := (hown.cellAt (k * 3 + 1) (by omega)).trans f1
      have h2 := (hown.cellAt (k * 3 + 2) (by omega)).trans f2
      have hz0 := hown.frozenAt (k * 3 + 2)
      have hgl := (hown.lt gg rfl)
      obtain ⟨hg1, hg2⟩ := hgl
      have hset : x.kind = 1 → (flatC (turnF (placeI (vs)) (t.take k) ++ t.drop k)).set (k * 3 + 2) (.int .i64 ((placeI (vs)) x.n)) = flatC (turnF (placeI (vs)) (t.take (k + 1)) ++ t.drop (k + 1)) := fun hk1 => turn_step (placeI (vs)) hxk hk1
      have hkeep : x.kind ≠ 1 → turnF (placeI (vs)) (t.take k) ++ t.drop k = turnF (placeI (vs)) (t.take (k + 1)) ++ t.drop (k + 1) := fun hk1 => turn_keep (placeI (vs)) hxk hk1
      have Hset := Lib.hid hset
      have Hkeep := Lib.hid hkeep
      clear hset hkeep hxk hxk' f0 f1 f2
      obtain ⟨hc, hf⟩ := bcell hb
      by_cases hk1 : x.kind = 1
      · have hbk : (x.kind == 1) = true := by simp [hk1]
        have Hk1 := Lib.hid hk1
        clear hk1
        have hvr : IsI wr A1 n1 c1 (vs) := hv.below hb
        go_wp2_with (first | (go_at_call 60; go_must (refine (Place_any A1 n1 c1 (vs) x.n _ hvr hn1).mono ?_); rintro e w2 ⟨rfl, rfl⟩))
        go_roundw
        case rel =>
          refine ⟨k + 1, by omega, by go_num, ?_, ?_⟩
          · rw [← Hset.out Hk1.out]
            exact (hown.stored (k * 3 + 2) _).1
          · exact Below.setCell (p := ⟨gg, k * 3 + 2, none⟩) hb hg1 _
          
        case measure => simp [intOf]; omega
      · have hbk : (x.kind == 1) = false := by simp [hk1]
        have Hk1 := Lib.hid hk1
        clear hk1
        go_wp2
        go_roundw
        case rel => exact ⟨k + 1, by omega, by go_num, by rw [← Hkeep.out Hk1.out]; exact hown, hb⟩
        case measure => simp [intOf]; omega
    · have hkn : k = n := by omega
      subst hkn
      have hfin : turnF (placeI (vs)) (t.take k) ++ t.drop k = turnF (placeI (vs)) t := by rw [drop_end Hl.out (by omega), List.take_of_length_le (by rw [Hl.out]; exact Nat.le_refl _)]; simp
      rw [hfin] at hown
      have hres : IsC wr A0 k cap0 (turnF (placeI (vs)) t) := ⟨Sl.own hown (by omega), turn_wf (fun n => place_i64 (vs) n (by omega)) h.wf⟩
      clear hfin
      go_wp2
      go_ret
      exact ⟨_, _, _, rfl, hres, fun a ha => (Own0.lt hown a ha).1, hb⟩

set_option maxHeartbeats 400000 in
theorem rVarsO_any (A : Option Addr) (n cap : Nat) (t : List C) (w : World) (h : IsC w A n cap t) (hn : n ≤ 100000) :
    Calls Try.prog 45 #[.slice A n cap] w fun e w' => ∃ A' n' c', e = .returned (.slice A' n' c') ∧ w'.ownsRow w.heap.size 3 1 (.slice A' n' c') n' ((varsF t).map (Value.int .i64)) ∧ (∀ x ∈ varsF t, i64 x) ∧ Below w.heap.size w w' := by
  go_enter Try.func45, Try.ntmps45
  go_wp2
  go_loopw [3, 4] (fun o i wr => ∃ (k m c' : Nat) (Ao : Option Addr) (acc : List Int), k ≤ n ∧ i = .int .i64 k ∧ o = .slice Ao m c' ∧ m ≤ k ∧ wr.ownsRow w.heap.size 3 1 (.slice Ao m c') m (acc.map (Value.int .i64)) ∧ (∀ x ∈ acc, i64 x) ∧ Hid (varsA acc (t.drop k) = varsF t) ∧ Below w.heap.size w wr) (fun _ i _ => n - (intOf i).toNat)
  case atStart => exact ⟨0, 0, 0, _, [], Nat.zero_le _, rfl, rfl, Nat.le_refl _, World.ownsRow_lit w #[] 0 (Nat.le_refl _) (by simp [maxLen]) rfl, by simp, rfl, (Below.refl _ _).alloc (Nat.le_refl _) _⟩
  case round =>
    obtain ⟨k, m, c', Ao, acc, hk, rfl, rfl, hm, hown, hwa, hres, hb⟩ := hrel
    have hacc : IsI wr Ao m c' acc := ⟨Sl.own hown (by omega), hwa⟩
    by_cases hlt : k < n
    · obtain ⟨x, hxk⟩ := h.get hlt
      obtain ⟨b, off, rfl, hbb, hwf, h0, h1, h2⟩ := h.at_ hxk
      have hd := drop_get hxk
      have Hd := Lib.hid hd
      clear hxk hd
      obtain ⟨hc, hf⟩ := bcell hb
      by_cases hk1 : x.kind = 1
      · have hbk : (x.kind == 1) = true := by simp [hk1]
        have Hk1 := Lib.hid hk1
        clear hk1
        have hcon := In_any Ao m c' acc x.n
        cases hin : inI acc x.n
        · rw [hin] at hcon
          have Hcon := Lib.hid hcon
          have Hin := Lib.hid hin
          clear hcon hin
          go_wp2_with (first
            | (go_at_call 46; go_must (refine (Hcon.out _ (hacc.below (by repeat (first | assumption | exact Below.refl _ _ | refine Below.drew ?_ | refine below_drewN ?_ _ | refine Below.alloc ?_ ?_ _ | refine Below.setCell ?_ ?_ _ | (apply Below.size; assumption) | (simp; done) | (simp; omega) | (have hz := hb.size; simp; omega) | (have hz := hb.size; omega) | omega))) (by omega)).mono ?_); rintro e w1 ⟨rfl, rfl⟩)
            | (at_builtin; go_must (refine wpList_append_sl rfl (.tmp 28) (.tmp 34) 70 rfl w.heap.size 3 Try.underlying70 infoI rfl (by omega) rfl (hown.alloc _) rfl (Sl.lit _ _ [.int .i64 x.n] 3 1 1 (by simp) rfl (by simp [maxLen])) (one1 rfl) (by omega) (by omega) (by have := hb.size; simp; omega) ?_); intro A' cap' w1 hown1 hb1 _ _))
          have hb2 : Below w.heap.size w w1 := Below.trans (by repeat (first | assumption | exact Below.refl _ _ | refine Below.drew ?_ | refine below_drewN ?_ _ | refine Below.alloc ?_ ?_ _ | refine Below.setCell ?_ ?_ _ | (apply Below.size; assumption) | (simp; done) | (simp; omega) | (have hz := hb.size; simp; omega) | (have hz := hb.size; omega) | omega)) hb1
          go_roundw
          case rel =>
            refine ⟨k + 1, m + 1, cap', A', acc ++ [x.n], by omega, by go_num, rfl, by omega, by simpa using hown1, ?_, Lib.hid ?_, hb2⟩
            · intro y hy
              rcases List.mem_append.1 hy with hy | hy
              · exact hwa y hy
              · simp at hy; subst hy; exact hwf.n
            · have := hres.out
              rw [Hd.out, varsA_cons, if_pos ⟨Hk1.out, Hin.out⟩] at this
              exact this
          case measure => simp [intOf]; omega
        · rw [hin] at hcon
          have Hcon := Lib.hid hcon
          have Hin := Lib.hid hin
          clear hcon hin
          go_wp2_with (first
            | (go_at_call 46; go_must (refine (Hcon.out _ (hacc.below (by repeat (first | assumption | exact Below.refl _ _ | refine Below.drew ?_ | refine below_drewN ?_ _ | refine Below.alloc ?_ ?_ _ | refine Below.setCell ?_ ?_ _ | (apply Below.size; assumption) | (simp; done) | (simp; omega) | (have hz := hb.size; simp; omega) | (have hz := hb.size; omega) | omega))) (by omega)).mono ?_); rintro e w1 ⟨rfl, rfl⟩))
          go_roundw
          case rel =>
            refine ⟨k + 1, m, c', Ao, acc, by omega, by go_num, rfl, by omega, hown, hwa, Lib.hid ?_, (by repeat (first | assumption | exact Below.refl _ _ | refine Below.drew ?_ | refine below_drewN ?_ _ | refine Below.alloc ?_ ?_ _ | refine Below.setCell ?_ ?_ _ | (apply Below.size; assumption) | (simp; done) | (simp; omega) | (have hz := hb.size; simp; omega) | (have hz := hb.size; omega) | omega))⟩
            have := hres.out
            rw [Hd.out, varsA_cons, if_neg (by simp [Hin.out])] at this
            exact this
          case measure => simp [intOf]; omega
      · have hbk : (x.kind == 1) = false := by simp [hk1]
        have Hk1 := Lib.hid hk1
        clear hk1
        go_wp2
        go_roundw
        case rel =>
          refine ⟨k + 1, m, c', Ao, acc, by omega, by go_num, rfl, by omega, hown, hwa, Lib.hid ?_, (by repeat (first | assumption | exact Below.refl _ _ | refine Below.drew ?_ | refine below_drewN ?_ _ | refine Below.alloc ?_ ?_ _ | refine Below.setCell ?_ ?_ _ | (apply Below.size; assumption) | (simp; done) | (simp; omega) | (have hz := hb.size; simp; omega) | (have hz := hb.size; omega) | omega))⟩
          have := hres.out
          rw [Hd.out, varsA_cons, if_neg (by simp [Hk1.out])] at this
          exact this
        case measure => simp [intOf]; omega
    · go_wp2
      go_ret
      have hfin : acc = varsF t := by have := hres.out; rw [drop_end h.len hlt] at this; exact this
      exact ⟨_, _, _, rfl, by rw [← hfin]; exact hown, by rw [← hfin]; exact hwa, hb⟩


theorem lits_at {w : World} {B : Option Addr} {m d k : Nat} {b : List (Bool × List C)} {p : Bool × List C} (h : IsLs w B m d b) (hk : b[k]? = some p) :
    ∃ bb off A n c, B = some ⟨bb, off, none⟩ ∧ bb < w.heap.size ∧ IsC w A n c p.2 ∧ w.cell? ⟨bb, off + k * 2, none⟩ = some (.bool p.1) ∧ w.cell? ⟨bb, off + k * 2 + 1, none⟩ = some (.slice A n c) := by
  obtain ⟨bb, off, v, rfl, hbb, _, ⟨A, n, c, rfl, hx⟩, hc⟩ := h.at_ hk
  exact ⟨bb, off, A, n, c, rfl, hbb, hx, hc 0 _ rfl, hc 1 _ rfl⟩
set_option maxHeartbeats 2000000 in
theorem SameClause_any (A : Option Addr) (n c : Nat) (t : List C) (B : Option Addr) (m d : Nat) (b : List (Bool × List C)) (A' : Option Addr) (n' c' : Nat) (t' : List C) (B' : Option Addr) (m' d' : Nat) (b' : List (Bool × List C)) (w : World)
    (h : IsC w A n c t) (hB : IsLs w B m d b) (h' : IsC w A' n' c' t') (hB' : IsLs w B' m' d' b') (hn : n ≤ 100000) (hn' : n' ≤ 100000) (hs : ∀ x ∈ b, x.2.length ≤ 100000) (hs' : ∀ x ∈ b', x.2.length ≤ 100000) :
    Calls Try.prog 22 #[.agg #[.slice A n c, .slice B m d], .agg #[.slice A' n' c', .slice B' m' d']] w (RetV w (.bool (sameCl (t, b) (t', b')))) := by
  have hal : Below w.heap.size w ((w.alloc (.cells #[.slice A n c, .slice B m d] 25)).alloc (.cells #[.slice A' n' c', .slice B' m' d'] 25)) := ((Below.refl _ _).alloc (Nat.le_refl _) _).alloc (by simp) _
  have hml := hB.len
  have hml' := hB'.len
  have Hml := Lib.hid hml
  have Hml' := Lib.hid hml'
  have hcap := hB.cap_le
  have hm63 : m ≤ 9223372036854775807 := by have h1 := hcap.1; have h2 := hcap.2; simp only [maxLen] at h2; omega
  have hcap' := hB'.cap_le
  have hsm := fun w1 (hb1 : Below w.heap.size w w1) => rSame_any A A' n n' c c' t t' w1 (h.below hb1) (h'.below hb1) hn hn'
  have Hsm := Lib.hid hsm
  clear hml hml' hsm
  go_enter Try.func22, Try.ntmps22
  go_upto_region 1 with fail
  refine wp_world' (Φ := fun X => Below w.heap.size w X ∧ X.heap[w.heap.size]? = some (.cells #[.slice A n c, .slice B m d] 25 (0, 0)) ∧ X.heap[w.heap.size + 1]? = some (.cells #[.slice A' n' c', .slice B' m' d'] 25 (0, 0))) ⟨hal, (alloc_past (by simp)).trans (alloc_at rfl), alloc_at (by simp)⟩ ?_
  rintro X ⟨hbX, x0, x1⟩
  obtain ⟨g, hg⟩ : ∃ g, g = w.heap.size := ⟨_, rfl⟩
  rw [← hg] at x0 x1 ⊢
  have hgw : w.heap.size ≤ g := by omega
  clear hg hal
  obtain ⟨y0, y1, yl⟩ := open2 x0
  obtain ⟨z0, z1, zl⟩ := open2 x1
  cases hsame : sameC t t'
  · have Hs := Lib.hid hsame
    clear hsame
    go_wp2_with (first | (go_at_call 43; go_must (refine (Hsm.out _ hbX).mono ?_); rw [Hs.out]; rintro e w1 ⟨rfl, q, rfl⟩))
    go_ret
    exact ⟨ret_bool (by simp [sameCl, Hs.out]), below_drewN hbX _⟩
  · have Hs := Lib.hid hsame
    clear hsame
    by_cases hmm : m = m'
    · subst hmm
      go_wp2_with (first | (go_at_call 43; go_must (refine (Hsm.out _ hbX).mono ?_); rw [Hs.out]; rintro e w1 ⟨rfl, q, rfl⟩))
      go_loopw [5] (fun i wr => ∃ k : Nat, k ≤ m ∧ i = .int .i64 k ∧ Hid (sameBody (b.drop k) (b'.drop k) = sameBody b b') ∧ ∃ q, wr = X.drewN q) (fun i _ => m - (intOf i).toNat)
      case atStart => exact ⟨0, Nat.zero_le _, rfl, rfl, q, rfl⟩
      case round =>
        obtain ⟨k, hk, rfl, hres, q2, rfl⟩ := hrel
        by_cases hlt : k < m
        · obtain ⟨x, hxk⟩ := hB.get hlt
          obtain ⟨y, hyk⟩ := hB'.get hlt
          have hx1 := hs x (List.mem_of_getElem? hxk)
          have hy1 := hs' y (List.mem_of_getElem? hyk)
          obtain ⟨b1, o1, A1, n1, c1, rfl, hb1, i1, u0, u1⟩ := lits_at (IsG.below keepsLit hB hbX) hxk
          obtain ⟨b2, o2, A2, n2, c2, rfl, hb2, i2, v0, v1⟩ := lits_at (IsG.below keepsLit hB' hbX) hyk
          have hdx := drop_get hxk
          have hdy := drop_get hyk
          have Hdx := Lib.hid hdx
          have Hdy := Lib.hid hdy
          rw [i1.len] at hx1
          rw [i2.len] at hy1
          clear hxk hyk hdx hdy hB hB' h h' x0 x1
          obtain ⟨xb, xt⟩ := x
          obtain ⟨yb, yt⟩ := y
          have hp : (k : Int) < (m : Int) := by omega
          have hcap1 := hcap.1
          have hcap2 := hcap'.1
          simp only at i1 i2 u0 v0 hx1 hy1
          have hR := fun q => rSame_any A1 A2 n1 n2 c1 c2 xt yt (X.drewN q) (i1.drewN q) (i2.drewN q) hx1 hy1
          by_cases hng : xb = yb
          · subst hng
            have hstep : sameBody ((xb, xt) :: b.drop (k + 1)) ((xb, yt) :: b'.drop (k + 1)) = (sameC xt yt && sameBody (b.drop (k + 1)) (b'.drop (k + 1))) := by simp [sameBody]
            have Hstep := Lib.hid hstep
            clear hstep
            cases hsx : sameC xt yt
            all_goals
              rw [hsx] at hR
              have Hsx := Lib.hid hsx
              have HR := Lib.hid hR
              clear hsx hR
              cases xb
              all_goals
                go_wp2
                go_quiet ((go_at_call 43; exact quiet_add (HR.out _)))
                go_wp2
            · go_ret
              exact ⟨ret_bool (by have := hres.out; rw [Hdx.out, Hdy.out, Hstep.out, Hsx.out] at this; rw [sameCl, ← this]; simp), below_drewN (below_drewN hbX _) _⟩
            · go_ret
              exact ⟨ret_bool (by have := hres.out; rw [Hdx.out, Hdy.out, Hstep.out, Hsx.out] at this; rw [sameCl, ← this]; simp), below_drewN (below_drewN hbX _) _⟩
            all_goals
              go_roundw
              case rel => exact ⟨k + 1, by omega, by go_num, by have := hres.out; rw [Hdx.out, Hdy.out, Hstep.out, Hsx.out, Bool.true_and] at this; exact Lib.hid this, _, rfl⟩
              case measure => simp [intOf]; omega
          · have hstep : sameBody ((xb, xt) :: b.drop (k + 1)) ((yb, yt) :: b'.drop (k + 1)) = false := by simp [sameBody, hng]
            have Hstep := Lib.hid hstep
            clear hstep
            cases xb <;> cases yb
            all_goals (first | exact absurd rfl hng | skip)
            all_goals
              clear hng
              go_wp2
              go_quiet (fail)
              go_wp2
              go_ret
              exact ⟨ret_bool (by have := hres.out; rw [Hdx.out, Hdy.out, Hstep.out] at this; rw [sameCl, ← this]; simp), below_drewN (below_drewN hbX _) _⟩
        · go_wp2
          go_ret
          refine ⟨ret_bool ?_, below_drewN hbX _⟩
          have := hres.out
          rw [List.drop_eq_nil_of_le (by have := Hml.out; omega), List.drop_eq_nil_of_le (by have := Hml'.out; omega), sameBody] at this
          rw [sameCl, Hs.out, ← this]; rfl
    · have hne : ((m : Int) == (m' : Int)) = false := by simp; omega
      go_wp2_with (first | (go_at_call 43; go_must (refine (Hsm.out _ hbX).mono ?_); rw [Hs.out]; rintro e w1 ⟨rfl, q, rfl⟩))
      go_ret
      refine ⟨ret_bool ?_, below_drewN hbX _⟩
      rw [sameCl, sameBody_len (by rw [Hml.out, Hml'.out]; exact hmm)]; simp
end Go.Proofs.Ytdeaeiolehglaaa
