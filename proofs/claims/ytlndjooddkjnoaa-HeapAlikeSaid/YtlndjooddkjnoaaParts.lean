/- The walks that take a term apart. -/
import Derived.Test.YtlndjooddkjnoaaEnd
set_option linter.unusedVariables false
set_option linter.unusedSimpArgs false
namespace Go.Proofs.Ytlndjooddkjnoaa
open Go.RowKit

theorem infoCs : (Try.prog.info? 26).map (fun i => (i.zero, i.size, i.bytes)) = some (some (.slice none 0 0), 1, 24) := by kernel_rfl

/-- so many values, each a row of cells -/
def Rows_ (w : World) (vs : List Value) (ts : List (List C)) : Prop := vs.length = ts.length ∧ ∀ (i : Nat) (t : List C), ts[i]? = some t → ∃ A' n' cap', vs[i]? = some (Value.slice A' n' cap') ∧ IsC w A' n' cap' t
theorem Rows_.nil (w : World) : Rows_ w [] [] := ⟨rfl, by simp⟩
theorem Rows_.snoc {w : World} {vs : List Value} {ts : List (List C)} (h : Rows_ w vs ts) {A : Option Addr} {n cap : Nat} {t : List C} (ht : IsC w A n cap t) : Rows_ w (vs ++ [.slice A n cap]) (ts ++ [t]) := by
  refine ⟨by simp [h.1], fun i u hu => ?_⟩
  rw [List.getElem?_append] at hu
  split at hu
  · rename_i hi
    obtain ⟨A', n', c', h1, h2⟩ := h.2 i u hu
    exact ⟨A', n', c', by rw [List.getElem?_append_left (by rw [h.1]; exact hi)]; exact h1, h2⟩
  · rename_i hi
    have : i = ts.length := by
      have := (List.getElem?_eq_some_iff.1 hu).1
      simp at this
      omega
    subst this
    simp at hu
    subst hu
    exact ⟨A, n, cap, by rw [← h.1]; simp, ht⟩
theorem Rows_.cc {w w' : World} {vs : List Value} {ts : List (List C)} {A : Option Addr} {n cap : Nat} (h : Rows_ w vs ts) (hb : Below w.heap.size w w') (hs : Sl w' 1 A n cap vs) : IsCC w' A n cap ts := by
  have hl := hs.len
  refine ⟨by rw [← h.1]; omega, vs, hs, fun i t hi => ?_⟩
  obtain ⟨A', n', c', h1, h2⟩ := h.2 i t hi
  exact ⟨A', n', c', h1, h2.below hb⟩
theorem one_rows {w : World} {vs : List Value} {ts : List (List C)} (h : Rows_ w vs ts) : ∀ u ∈ vs, u.oneCell' = true := by
  intro u hu
  obtain ⟨i, hi, rfl⟩ := List.getElem_of_mem hu
  obtain ⟨A', n', c', h1, _⟩ := h.2 i (ts[i]'(by rw [← h.1]; exact hi)) (List.getElem?_eq_getElem _)
  rw [List.getElem?_eq_getElem hi] at h1
  injection h1 with h1
  rw [h1]
  rfl

theorem partsA_some {t : List C} {k at_ e : Nat} (h : endN t at_ = some e) : partsA t (k + 1) at_ = (t.drop at_).take (e - at_) :: partsA t k e := by simp [partsA, h]
theorem partsA_none {t : List C} {k at_ : Nat} (h : endN t at_ = none) : partsA t (k + 1) at_ = [] := by simp [partsA, h]
theorem right_skip {t : List C} (h : rightB t = true) : skip t 1 = some [] ∧ 1 ≤ t.length ∧ t.length ≤ 200 := by
  simp [rightB] at h
  obtain ⟨⟨h1, h2⟩, h3⟩ := h
  have := (endN_some.1 h3).1
  simp at this
  exact ⟨this, by omega, h2⟩
theorem right_cons {c : C} {cs : List C} (h : rightB (c :: cs) = true) : c.ok = true ∧ skip cs c.ar = some [] := by
  obtain ⟨h, _⟩ := right_skip h
  rw [skip_cons] at h
  split at h
  · rename_i ho
    exact ⟨ho, by simpa using h⟩
  · cases h
theorem skip_step {t : List C} {at_ j : Nat} (h : skip (t.drop at_) (j + 1) = some []) : ∃ e, endN t at_ = some e ∧ skip (t.drop e) j = some [] ∧ at_ < e ∧ e ≤ t.length := by
  rw [show j + 1 = 1 + j by omega, skip_add] at h
  cases hs : skip (t.drop at_) 1 with
  | none => rw [hs] at h; cases h
  | some r =>
    rw [hs] at h
    cases he : endN t at_ with
    | none => rw [endN_none] at he; rw [he] at hs; cases hs
    | some e =>
      obtain ⟨h1, h2, h3⟩ := endN_some.1 he
      rw [h1] at hs
      injection hs with hs
      exact ⟨e, rfl, by rw [hs]; exact h, h2, h3⟩

set_option maxHeartbeats 400000 in
theorem tParts_any (A : Option Addr) (n cap : Nat) (t : List C) (w : World) (h : IsC w A n cap t) (hr : rightB t = true) :
    Calls Try.prog 84 #[.slice A n cap] w (RetCC w (partsF t)) := by
  obtain ⟨hsk, hl1, hl2⟩ := right_skip hr
  have hl := h.len
  match t, hr, hl1 with
  | c :: cs, hr, _ =>
    obtain ⟨ho, hcs⟩ := right_cons hr
    have hc0 : (c :: cs)[0]? = some c := rfl
    obtain ⟨b, off, rfl, hbb, hwf, h0, h1, h2⟩ := h.at_ hc0
    simp only [Nat.zero_mul, Nat.add_zero] at h0 h1 h2
    have hn0 : ((n : Int) == 0) = false := by simp at hl ⊢; omega
    have hn1 : 0 < n := by simp at hl; omega
    have hn2 : n ≤ 200 := by omega
    have Hl := Lib.hid hl
    have Hcs := Lib.hid hcs
    clear hl hsk hcs hr hc0 hl2
    by_cases hk3 : c.kind = 3
    · have hbk : (c.kind != 3) = false := by simp [hk3]
      have har := ar_fun ho hk3
      have hpf : partsF (c :: cs) = partsA (c :: cs) c.ar 1 := by simp [partsF, hk3, C.ar]
      have Har := Lib.hid har
      have Hk3 := Lib.hid hk3
      have Ho := Lib.hid ho
      have Hpf := Lib.hid hpf
      clear har hk3 ho hpf
      go_enter Try.func84, Try.ntmps84
      go_wp2
      go_loopw [3, 4] (fun o p wr => ∃ (j q m c' : Nat) (Ao : Option Addr) (vs : List Value) (acc : List (List C)), p = .int .i64 q ∧ o = .slice Ao m c' ∧ 1 ≤ q ∧ q ≤ n ∧ m ≤ q ∧ wr.ownsRow w.heap.size 26 1 (.slice Ao m c') m vs ∧ Rows_ w vs acc ∧ Hid (skip ((c :: cs).drop q) j = some []) ∧ Hid (acc ++ partsA (c :: cs) j q = partsF (c :: cs)) ∧ Below w.heap.size w wr) (fun _ p _ => n - (intOf p).toNat)
      case atStart => exact ⟨c.ar, 1, 0, 0, none, [], [], rfl, rfl, by omega, by omega, by omega, World.ownsRow_nil _ _ _ _, Rows_.nil _, Hcs.out, Hpf.out.symm, Below.refl _ _⟩
      case round =>
        obtain ⟨j, q, m, c', Ao, vs, acc, rfl, rfl, hq1, hq2, hm, hown, hrows, hsk, hres, hb⟩ := hrel
        by_cases hlt : q < n
        · obtain ⟨j, rfl⟩ : ∃ i, j = i + 1 := by
            cases j with
            | zero => exfalso; have := hsk.out; rw [skip_zero] at this; injection this with this; have := congrArg List.length this; simp at this; have := Hl.out; simp at this; omega
            | succ j => exact ⟨j, rfl⟩
          obtain ⟨e, he, hs2, he1, he2⟩ := skip_step hsk.out
          have hend := tend_any (some ⟨b, off, none⟩) n cap (c :: cs) q wr (h.below hb) (by omega) (by omega)
          rw [endT_some he] at hend
          have hez : ((e : Int) == 0) = false := by simp; omega
          have hen : e ≤ n := by rw [← Hl.out]; exact he2
          have hcap := h.sl.hcap
          have hqc : ¬ cap = q := by omega
          have Hend := Lib.hid hend
          have He := Lib.hid he
          have Hs2 := Lib.hid hs2
          clear hend he hs2 he2
          go_wp2_with (first
            | (go_at_call 92; go_must (refine Hend.out.mono ?_); rintro e w1 ⟨rfl, hb1⟩; replace hb := hb.trans (hb1.mono hb.size); replace hown := own_below hown hb1)
            | (at_builtin; go_must (refine wpList_append_sl rfl (.tmp 25) (.tmp 30) 110 rfl w.heap.size 26 Try.underlying110 infoCs rfl (by omega) rfl (hown.alloc _) rfl (Sl.lit _ _ [_] 26 1 1 (by simp) rfl (by simp [maxLen])) (one1 rfl) (by omega) (by omega) (by have := hb.size; simp; omega) ?_); intro A' cap' w2 hown1 hb2 _ _))
          have hb3 : Below w.heap.size w w2 := Below.trans (by repeat (first | assumption | exact Below.refl _ _ | refine Below.drew ?_ | refine below_drewN ?_ _ | refine Below.alloc ?_ ?_ _ | refine Below.setCell ?_ ?_ _ | (apply Below.size; assumption) | (simp; done) | (simp; omega) | (have hz := hb.size; simp; omega) | (have hz := hb.size; omega) | omega)) hb2
          go_roundw
          case rel =>
            refine ⟨j, e, m + 1, cap', A', _, acc ++ [((c :: cs).drop q).take (e - q)], rfl, rfl, by omega, hen, by omega, hown1, hrows.snoc (h.cut' (by omega) hen hqc), Hs2.out, Lib.hid ?_, hb3⟩
            have := hres.out
            rw [partsA_some He.out] at this
            rw [← this]
            simp
          case measure => simp [intOf]; omega
        · go_wp2
          go_ret
          have hj : j = 0 := by
            have := hsk.out
            rw [drop_end Hl.out hlt] at this
            cases j with
            | zero => rfl
            | succ j => rw [skip_nil _ (by omega)] at this; cases this
          subst hj
          have := hres.out
          simp only [partsA, List.append_nil] at this
          rw [← this]
          exact ⟨_, _, _, rfl, hrows.cc hb (Sl.own hown (by omega)), hb⟩
    · have hbk : (c.kind != 3) = true := by simp [hk3]
      have hpf : partsF (c :: cs) = [] := by simp [partsF, hk3]
      have Hpf := Lib.hid hpf
      clear hpf
      go_enter Try.func84, Try.ntmps84
      go_wp2
      go_ret
      rw [Hpf.out]
      exact ⟨_, _, _, rfl, (Rows_.nil w).cc (Below.refl _ _) ⟨rfl, by simp, by simp [maxLen], fun h => absurd h (by omega)⟩, Below.refl _ _⟩

set_option maxHeartbeats 400000 in
theorem rParts_any (A : Option Addr) (n cap : Nat) (t : List C) (w : World) (h : IsC w A n cap t) (hr : rightB t = true) :
    Calls Try.prog 85 #[.slice A n cap] w (RetCC w (partsF t)) := by
  obtain ⟨hsk, hl1, hl2⟩ := right_skip hr
  have hl := h.len
  match t, hr, hl1 with
  | c :: cs, hr, _ =>
    obtain ⟨ho, hcs⟩ := right_cons hr
    have hc0 : (c :: cs)[0]? = some c := rfl
    obtain ⟨b, off, rfl, hbb, hwf, h0, h1, h2⟩ := h.at_ hc0
    simp only [Nat.zero_mul, Nat.add_zero] at h0 h1 h2
    have hn0 : ((n : Int) == 0) = false := by simp at hl ⊢; omega
    have hn1 : 0 < n := by simp at hl; omega
    have hn2 : n ≤ 200 := by omega
    have Hl := Lib.hid hl
    have Hcs := Lib.hid hcs
    clear hl hsk hcs hr hc0 hl2
    by_cases hk3 : c.kind = 3
    · have hbk : (c.kind != 3) = false := by simp [hk3]
      have har := ar_fun ho hk3
      have hpf : partsF (c :: cs) = partsA (c :: cs) c.ar 1 := by simp [partsF, hk3, C.ar]
      have hn6 := ok_fun ho hk3
      obtain ⟨hc0, hc6⟩ := hn6
      have Har := Lib.hid har
      have Hk3 := Lib.hid hk3
      have Ho := Lib.hid ho
      have Hpf := Lib.hid hpf
      clear har hk3 ho hpf
      go_enter Try.func85, Try.ntmps85
      go_wp2
      go_loopw [3, 4, 5] (fun o p ii wr => ∃ (j q m i c' : Nat) (Ao : Option Addr) (vs : List Value) (acc : List (List C)), p = .int .i64 q ∧ ii = .int .i64 i ∧ i + j = c.ar ∧ o = .slice Ao m c' ∧ 1 ≤ q ∧ q ≤ n ∧ m ≤ q ∧ wr.ownsRow w.heap.size 26 1 (.slice Ao m c') m vs ∧ Rows_ w vs acc ∧ Hid (skip ((c :: cs).drop q) j = some []) ∧ Hid (acc ++ partsA (c :: cs) j q = partsF (c :: cs)) ∧ Below w.heap.size w wr) (fun _ _ i _ => 6 - (intOf i).toNat)
      case atStart => exact ⟨c.ar, 1, 0, 0, 0, _, [], [], rfl, rfl, by omega, rfl, by omega, by omega, by omega, World.ownsRow_lit w #[] 0 (Nat.le_refl _) (by simp [maxLen]) rfl, Rows_.nil _, Hcs.out, Hpf.out.symm, (Below.refl _ _).alloc (Nat.le_refl _) _⟩
      case round =>
        obtain ⟨j, q, m, i, c', Ao, vs, acc, rfl, rfl, hij, rfl, hq1, hq2, hm, hown, hrows, hsk, hres, hb⟩ := hrel
        have Hij := Lib.hid hij
        clear hij
        obtain ⟨hc, hf⟩ := bcell hb
        cases j with
        | succ j =>
          have hlt : (i : Int) < c.n := by have := Har.out; have := Hij.out; omega
          have hi6 : i < 6 := by omega
          obtain ⟨e, he, hs2, he1, he2⟩ := skip_step hsk.out
          have hend := rEnd_any (some ⟨b, off, none⟩) n cap (c :: cs) q wr (h.below hb) (by omega) (by omega)
          rw [endR_some he] at hend
          have hez : ¬ (e : Int) < 0 := by omega
          have hen : e ≤ n := by rw [← Hl.out]; exact he2
          have hcap := h.sl.hcap
          have hqc : ¬ cap = q := by omega
          have Hend := Lib.hid hend
          have He := Lib.hid he
          have Hs2 := Lib.hid hs2
          clear hend he hs2 he2
          go_wp2_with (first
            | (go_at_call 50; go_must (refine Hend.out.mono ?_); rintro e w1 ⟨rfl, hb1⟩; replace hb := hb.trans (hb1.mono hb.size); replace hown := own_below hown hb1)
            | (at_builtin; go_must (refine wpList_append_sl rfl (.tmp 33) (.tmp 38) 110 rfl w.heap.size 26 Try.underlying110 infoCs rfl (by omega) rfl (hown.alloc _) rfl (Sl.lit _ _ [_] 26 1 1 (by simp) rfl (by simp [maxLen])) (one1 rfl) (by omega) (by omega) (by have := hb.size; simp; omega) ?_); intro A' cap' w2 hown1 hb2 _ _))
          have hb3 : Below w.heap.size w w2 := Below.trans (by repeat (first | assumption | exact Below.refl _ _ | refine Below.drew ?_ | refine below_drewN ?_ _ | refine Below.alloc ?_ ?_ _ | refine Below.setCell ?_ ?_ _ | (apply Below.size; assumption) | (simp; done) | (simp; omega) | (have hz := hb.size; simp; omega) | (have hz := hb.size; omega) | omega)) hb2
          go_roundw
          case rel =>
            refine ⟨j, e, m + 1, i + 1, cap', A', _, acc ++ [((c :: cs).drop q).take (e - q)], rfl, by go_num, by have := Hij.out; omega, rfl, by omega, hen, by omega, hown1, hrows.snoc (h.cut' (by omega) hen hqc), Hs2.out, Lib.hid ?_, hb3⟩
            have := hres.out
            rw [partsA_some He.out] at this
            rw [← this]
            simp
          case measure => simp [intOf]; omega
        | zero =>
          have hlt : ¬ (i : Int) < c.n := by have := Har.out; have := Hij.out; omega
          go_wp2
          go_ret
          have := hres.out
          simp only [partsA, List.append_nil] at this
          rw [← this]
          exact ⟨_, _, _, rfl, hrows.cc hb (Sl.own hown (by omega)), hb⟩
    · have hbk : (c.kind != 3) = true := by simp [hk3]
      have hpf : partsF (c :: cs) = [] := by simp [partsF, hk3]
      have Hpf := Lib.hid hpf
      clear hpf
      go_enter Try.func85, Try.ntmps85
      go_wp2
      go_ret
      rw [Hpf.out]
      exact ⟨_, _, _, rfl, (Rows_.nil w).cc (by repeat (first | assumption | exact Below.refl _ _ | refine Below.drew ?_ | refine below_drewN ?_ _ | refine Below.alloc ?_ ?_ _ | refine Below.setCell ?_ ?_ _ | (apply Below.size; assumption) | (simp; done) | (simp; omega) | (have hz := hb.size; simp; omega) | (have hz := hb.size; omega) | omega)) ⟨rfl, by simp, by simp [maxLen], fun h => absurd h (by omega)⟩, (by repeat (first | assumption | exact Below.refl _ _ | refine Below.drew ?_ | refine below_drewN ?_ _ | refine Below.alloc ?_ ?_ _ | refine Below.setCell ?_ ?_ _ | (apply Below.size; assumption) | (simp; done) | (simp; omega) | (have hz := hb.size; simp; omega) | (have hz := hb.size; omega) | omega))⟩
end Go.Proofs.Ytlndjooddkjnoaa
