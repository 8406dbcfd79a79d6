/- Texts of this proof that belong together: words of memory, plain laws, short walks. -/
import Derived.Test.YtdeaeiolehglaaaEnd
import Derived.Test.YtdeaeiolehglaaaM0
import Derived.Deep.RegionWith
import Derived.Test.YtdeaeiolehglaaaReg
import Derived.Test.YtdeaeiolehglaaaRegs
set_option linter.unusedVariables false
set_option linter.unusedSimpArgs false
/- The walks that take a term apart. -/
namespace Go.Proofs.Ytdeaeiolehglaaa
open Go.RowKit

theorem infoCs : (Try.prog.info? 22).map (fun i => (i.zero, i.size, i.bytes)) = some (some (.slice none 0 0), 1, 24) := by kernel_rfl

/-- so many values, each a row of cells -/
def Rows_ (w : World) (vs : List Value) (ts : List (List C)) : Prop := vs.length = ts.length ∧ ∀ (i : Nat) (t : List C), ts[i]? = some t → ∃ A' n' cap', vs[i]? = some (Value.slice A' n' cap') ∧ IsC w A' n' cap' t
theorem Rows_.nil (w : World) : Rows_ w [] [] := ⟨rfl, by simp⟩
theorem Rows_.snoc {w : World} {vs : List Value} {ts : List (List C)} (h : Rows_ w vs ts) {A : Option Addr} {n cap : Nat} {t : List C} (ht : IsC w A n cap t) : Rows_ w (vs ++ [.slice A n cap]) (ts ++ [t]) := by
  refine ⟨by simp [h.1], fun i u hu => ?_⟩
  rw [List.getElem?_append] at hu
  split at hu
  · rename_i hi
    obtain ⟨A', n', c', h1, h2⟩ := h.2 i u hu
    exact ⟨A', n', c', by rw [List.getElem?_append_left (by rw [h.1]; exact hi)]; exact h1, h2⟩
  · rename_i hi
    have : i = ts.length := by
      have := (List.getElem?_eq_some_iff.1 hu).1
      simp at this
      omega
    subst this
    simp at hu
    subst hu
    exact ⟨A, n, cap, by rw [← h.1]; simp, ht⟩
theorem Rows_.cc {w w' : World} {vs : List Value} {ts : List (List C)} {A : Option Addr} {n cap : Nat} (h : Rows_ w vs ts) (hb : Below w.heap.size w w') (hs : Sl w' 1 A n cap vs) : IsCC w' A n cap ts := by
  have hl := hs.len
  refine ⟨by rw [← h.1]; omega, vs, hs, fun i t hi => ?_⟩
  obtain ⟨A', n', c', h1, h2⟩ := h.2 i t hi
  exact ⟨A', n', c', h1, h2.below hb⟩
theorem one_rows {w : World} {vs : List Value} {ts : List (List C)} (h : Rows_ w vs ts) : ∀ u ∈ vs, u.oneCell' = true := by
  intro u hu
  obtain ⟨i, hi, rfl⟩ := List.getElem_of_mem hu
  obtain ⟨A', n', c', h1, _⟩ := h.2 i (ts[i]'(by rw [← h.1]; exact hi)) (List.getElem?_eq_getElem _)
  rw [List.getElem?_eq_getElem hi] at h1
  injection h1 with h1
  rw [h1]
  rfl

theorem partsA_some {t : List C} {k at_ e : Nat} (h : endN t at_ = some e) : partsA t (k + 1) at_ = (t.drop at_).take (e - at_) :: partsA t k e := by simp [partsA, h]
theorem partsA_none {t : List C} {k at_ : Nat} (h : endN t at_ = none) : partsA t (k + 1) at_ = [] := by simp [partsA, h]
theorem right_skip {t : List C} (h : rightB t = true) : skip t 1 = some [] ∧ 1 ≤ t.length ∧ t.length ≤ 200 := by
  simp [rightB] at h
  obtain ⟨⟨h1, h2⟩, h3⟩ := h
  have := (endN_some.1 h3).1
  simp at this
  exact ⟨this, by omega, h2⟩
theorem right_cons {c : C} {cs : List C} (h : rightB (c :: cs) = true) : c.ok = true ∧ skip cs c.ar = some [] := by
  obtain ⟨h, _⟩ := right_skip h
  rw [skip_cons] at h
  split at h
  · rename_i ho
    exact ⟨ho, by simpa using h⟩
  · cases h
theorem skip_step {t : List C} {at_ j : Nat} (h : skip (t.drop at_) (j + 1) = some []) : ∃ e, endN t at_ = some e ∧ skip (t.drop e) j = some [] ∧ at_ < e ∧ e ≤ t.length := by
  rw [show j + 1 = 1 + j by omega, skip_add] at h
  cases hs : skip (t.drop at_) 1 with
  | none => rw [hs] at h; cases h
  | some r =>
    rw [hs] at h
    cases he : endN t at_ with
    | none => rw [endN_none] at he; rw [he] at hs; cases hs
    | some e =>
      obtain ⟨h1, h2, h3⟩ := endN_some.1 he
      rw [h1] at hs
      injection hs with hs
      exact ⟨e, rfl, by rw [hs]; exact h, h2, h3⟩

set_option maxHeartbeats 400000 in
theorem tParts_any (A : Option Addr) (n cap : Nat) (t : List C) (w : World) (h : IsC w A n cap t) (hr : rightB t = true) :
    Calls Try.prog 51 #[.slice A n cap] w (RetCC w (partsF t)) := by
  obtain ⟨hsk, hl1, hl2⟩ := right_skip hr
  have hl := h.len
  match t, hr, hl1 with
  | c :: cs, hr, _ =>
    obtain ⟨ho, hcs⟩ := right_cons hr
    have hc0 : (c :: cs)[0]? = some c := rfl
    obtain ⟨b, off, rfl, hbb, hwf, h0, h1, h2⟩ := h.at_ hc0
    simp only [Nat.zero_mul, Nat.add_zero] at h0 h1 h2
    have hn0 : ((n : Int) == 0) = false := by simp at hl ⊢; omega
    have hn1 : 0 < n := by simp at hl; omega
    have hn2 : n ≤ 200 := by omega
    have Hl := Lib.hid hl
    have Hcs := Lib.hid hcs
    clear hl hsk hcs hr hc0 hl2
    by_cases hk3 : c.kind = 3
    · have hbk : (c.kind != 3) = false := by simp [hk3]
      have har := ar_fun ho hk3
      have hpf : partsF (c :: cs) = partsA (c :: cs) c.ar 1 := by simp [partsF, hk3, C.ar]
      have Har := Lib.hid har
      have Hk3 := Lib.hid hk3
      have Ho := Lib.hid ho
      have Hpf := Lib.hid hpf
      clear har hk3 ho hpf
      go_enter Try.func51, Try.ntmps51
      go_wp2
      go_loopw [3, 4] (fun o p wr => ∃ (j q m c' : Nat) (Ao : Option Addr) (vs : List Value) (acc : List (List C)), p = .int .i64 q ∧ o = .slice Ao m c' ∧ 1 ≤ q ∧ q ≤ n ∧ m ≤ q ∧ wr.ownsRow w.heap.size 22 1 (.slice Ao m c') m vs ∧ Rows_ w vs acc ∧ Hid (skip ((c :: cs).drop q) j = some []) ∧ Hid (acc ++ partsA (c :: cs) j q = partsF (c :: cs)) ∧ Below w.heap.size w wr) (fun _ p _ => n - (intOf p).toNat)
      case atStart => exact ⟨c.ar, 1, 0, 0, none, [], [], rfl, rfl, by omega, by omega, by omega, World.ownsRow_nil _ _ _ _, Rows_.nil _, Hcs.out, Hpf.out.symm, Below.refl _ _⟩
      case round =>
        obtain ⟨j, q, m, c', Ao, vs, acc, rfl, rfl, hq1, hq2, hm, hown, hrows, hsk, hres, hb⟩ := hrel
        by_cases hlt : q < n
        · obtain ⟨j, rfl⟩ : ∃ i, j = i + 1 := by
            cases j with
            | zero => exfalso; have := hsk.out; rw [skip_zero] at this; injection this with this; have := congrArg List.length this; simp at this; have := Hl.out; simp at this; omega
            | succ j => exact ⟨j, rfl⟩
          obtain ⟨e, he, hs2, he1, he2⟩ := skip_step hsk.out
          have hend := tend_any (some ⟨b, off, none⟩) n cap (c :: cs) q wr (h.below hb) (by omega) (by omega)
          rw [endT_some he] at hend
          have hez : ((e : Int) == 0) = false := by simp; omega
          have hen : e ≤ n := by rw [← Hl.out]; exact he2
          have hcap := h.sl.hcap
          have hqc : ¬ cap = q := by omega
          have Hend := Lib.hid hend
          have He := Lib.hid he
          have Hs2 := Lib.hid hs2
          clear hend he hs2 he2
          go_wp2_with (first
            | (go_at_call 63; go_must (refine Hend.out.mono ?_); rintro e w1 ⟨rfl, hb1⟩; replace hb := hb.trans (hb1.mono hb.size); replace hown := own_below hown hb1)
            | (at_builtin; go_must (refine wpList_append_sl rfl (.tmp 25) (.tmp 30) 52 rfl w.heap.size 22 Try.underlying52 infoCs rfl (by omega) rfl (hown.alloc _) rfl (Sl.lit _ _ [_] 22 1 1 (by simp) rfl (by simp [maxLen])) (one1 rfl) (by omega) (by omega) (by have := hb.size; simp; omega) ?_); intro A' cap' w2 hown1 hb2 _ _))
          have hb3 : Below w.heap.size w w2 := Below.trans (by repeat (first | assumption | exact Below.refl _ _ | refine Below.drew ?_ | refine below_drewN ?_ _ | refine Below.alloc ?_ ?_ _ | refine Below.setCell ?_ ?_ _ | (apply Below.size; assumption) | (simp; done) | (simp; omega) | (have hz := hb.size; simp; omega) | (have hz := hb.size; omega) | omega)) hb2
          go_roundw
          case rel =>
            refine ⟨j, e, m + 1, cap', A', _, acc ++ [((c :: cs).drop q).take (e - q)], rfl, rfl, by omega, hen, by omega, hown1, hrows.snoc (h.cut' (by omega) hen hqc), Hs2.out, Lib.hid ?_, hb3⟩
            have := hres.out
            rw [partsA_some He.out] at this
            rw [← this]
            simp
          case measure => simp [intOf]; omega
        · go_wp2
          go_ret
          have hj : j = 0 := by
            have := hsk.out
            rw [drop_end Hl.out hlt] at this
            cases j with
            | zero => rfl
            | succ j => rw [skip_nil _ (by omega)] at this; cases this
          subst hj
          have := hres.out
          simp only [partsA, List.append_nil] at this
          rw [← this]
          exact ⟨_, _, _, rfl, hrows.cc hb (Sl.own hown (by omega)), hb⟩
    · have hbk : (c.kind != 3) = true := by simp [hk3]
      have hpf : partsF (c :: cs) = [] := by simp [partsF, hk3]
      have Hpf := Lib.hid hpf
      clear hpf
      go_enter Try.func51, Try.ntmps51
      go_wp2
      go_ret
      rw [Hpf.out]
      exact ⟨_, _, _, rfl, (Rows_.nil w).cc (Below.refl _ _) ⟨rfl, by simp, by simp [maxLen], fun h => absurd h (by omega)⟩, Below.refl _ _⟩

set_option maxHeartbeats 400000 in
theorem rParts_any (A : Option Addr) (n cap : Nat) (t : List C) (w : World) (h : IsC w A n cap t) (hr : rightB t = true) :
    Calls Try.prog 27 #[.slice A n cap] w (RetCC w (partsF t)) := by
  obtain ⟨hsk, hl1, hl2⟩ := right_skip hr
  have hl := h.len
  match t, hr, hl1 with
  | c :: cs, hr, _ =>
    obtain ⟨ho, hcs⟩ := right_cons hr
    have hc0 : (c :: cs)[0]? = some c := rfl
    obtain ⟨b, off, rfl, hbb, hwf, h0, h1, h2⟩ := h.at_ hc0
    simp only [Nat.zero_mul, Nat.add_zero] at h0 h1 h2
    have hn0 : ((n : Int) == 0) = false := by simp at hl ⊢; omega
    have hn1 : 0 < n := by simp at hl; omega
    have hn2 : n ≤ 200 := by omega
    have Hl := Lib.hid hl
    have Hcs := Lib.hid hcs
    clear hl hsk hcs hr hc0 hl2
    by_cases hk3 : c.kind = 3
    · have hbk : (c.kind != 3) = false := by simp [hk3]
      have har := ar_fun ho hk3
      have hpf : partsF (c :: cs) = partsA (c :: cs) c.ar 1 := by simp [partsF, hk3, C.ar]
      have hn6 := ok_fun ho hk3
      obtain ⟨hc0, hc6⟩ := hn6
      have Har := Lib.hid har
      have Hk3 := Lib.hid hk3
      have Ho := Lib.hid ho
      have Hpf := Lib.hid hpf
      clear har hk3 ho hpf
      go_enter Try.func27, Try.ntmps27
      go_wp2
      go_loopw [3, 4, 5] (fun o p ii wr => ∃ (j q m i c' : Nat) (Ao : Option Addr) (vs : List Value) (acc : List (List C)), p = .int .i64 q ∧ ii = .int .i64 i ∧ i + j = c.ar ∧ o = .slice Ao m c' ∧ 1 ≤ q ∧ q ≤ n ∧ m ≤ q ∧ wr.ownsRow w.heap.size 22 1 (.slice Ao m c') m vs ∧ Rows_ w vs acc ∧ Hid (skip ((c :: cs).drop q) j = some []) ∧ Hid (acc ++ partsA (c :: cs) j q = partsF (c :: cs)) ∧ Below w.heap.size w wr) (fun _ _ i _ => 6 - (intOf i).toNat)
      case atStart => exact ⟨c.ar, 1, 0, 0, 0, _, [], [], rfl, rfl, by omega, rfl, by omega, by omega, by omega, World.ownsRow_lit w #[] 0 (Nat.le_refl _) (by simp [maxLen]) rfl, Rows_.nil _, Hcs.out, Hpf.out.symm, (Below.refl _ _).alloc (Nat.le_refl _) _⟩
      case round =>
        obtain ⟨j, q, m, i, c', Ao, vs, acc, rfl, rfl, hij, rfl, hq1, hq2, hm, hown, hrows, hsk, hres, hb⟩ := hrel
        have Hij := Lib.hid hij
        clear hij
        obtain ⟨hc, hf⟩ := bcell hb
        cases j with
        | succ j =>
          have hlt : (i : Int) < c.n := by have := Har.out; have := Hij.out; omega
          have hi6 : i < 6 := by omega
          obtain ⟨e, he, hs2, he1, he2⟩ := skip_step hsk.out
          have hend := rEnd_any (some ⟨b, off, none⟩) n cap (c :: cs) q wr (h.below hb) (by omega) (by omega)
          rw [endR_some he] at hend
          have hez : ¬ (e : Int) < 0 := by omega
          have hen : e ≤ n := by rw [← Hl.out]; exact he2
          have hcap := h.sl.hcap
          have hqc : ¬ cap = q := by omega
          have Hend := Lib.hid hend
          have He := Lib.hid he
          have Hs2 := Lib.hid hs2
          clear hend he hs2 he2
          go_wp2_with (first
            | (go_at_call 48; go_must (refine Hend.out.mono ?_); rintro e w1 ⟨rfl, hb1⟩; replace hb := hb.trans (hb1.mono hb.size); replace hown := own_below hown hb1)
            | (at_builtin; go_must (refine wpList_append_sl rfl (.tmp 33) (.tmp 38) 52 rfl w.heap.size 22 Try.underlying52 infoCs rfl (by omega) rfl (hown.alloc _) rfl (Sl.lit _ _ [_] 22 1 1 (by simp) rfl (by simp [maxLen])) (one1 rfl) (by omega) (by omega) (by have := hb.size; simp; omega) ?_); intro A' cap' w2 hown1 hb2 _ _))
          have hb3 : Below w.heap.size w w2 := Below.trans (by repeat (first | assumption | exact Below.refl _ _ | refine Below.drew ?_ | refine below_drewN ?_ _ | refine Below.alloc ?_ ?_ _ | refine Below.setCell ?_ ?_ _ | (apply Below.size; assumption) | (simp; done) | (simp; omega) | (have hz := hb.size; simp; omega) | (have hz := hb.size; omega) | omega)) hb2
          go_roundw
          case rel =>
            refine ⟨j, e, m + 1, i + 1, cap', A', _, acc ++ [((c :: cs).drop q).take (e - q)], rfl, by go_num, by have := Hij.out; omega, rfl, by omega, hen, by omega, hown1, hrows.snoc (h.cut' (by omega) hen hqc), Hs2.out, Lib.hid ?_, hb3⟩
            have := hres.out
            rw [partsA_some He.out] at this
            rw [← this]
            simp
          case measure => simp [intOf]; omega
        | zero =>
          have hlt : ¬ (i : Int) < c.n := by have := Har.out; have := Hij.out; omega
          go_wp2
          go_ret
          have := hres.out
          simp only [partsA, List.append_nil] at this
          rw [← this]
          exact ⟨_, _, _, rfl, hrows.cc hb (Sl.own hown (by omega)), hb⟩
    · have hbk : (c.kind != 3) = true := by simp [hk3]
      have hpf : partsF (c :: cs) = [] := by simp [partsF, hk3]
      have Hpf := Lib.hid hpf
      clear hpf
      go_enter Try.func27, Try.ntmps27
      go_wp2
      go_ret
      rw [Hpf.out]
      exact ⟨_, _, _, rfl, (Rows_.nil w).cc (by repeat (first | assumption | exact Below.refl _ _ | refine Below.drew ?_ | refine below_drewN ?_ _ | refine Below.alloc ?_ ?_ _ | refine Below.setCell ?_ ?_ _ | (apply Below.size; assumption) | (simp; done) | (simp; omega) | (have hz := hb.size; simp; omega) | (have hz := hb.size; omega) | omega)) ⟨rfl, by simp, by simp [maxLen], fun h => absurd h (by omega)⟩, (by repeat (first | assumption | exact Below.refl _ _ | refine Below.drew ?_ | refine below_drewN ?_ _ | refine Below.alloc ?_ ?_ _ | refine Below.setCell ?_ ?_ _ | (apply Below.size; assumption) | (simp; done) | (simp; omega) | (have hz := hb.size; simp; omega) | (have hz := hb.size; omega) | omega))⟩
end Go.Proofs.Ytdeaeiolehglaaa

/- The walks that take a term apart, once more: the parts are read in the world in which the term is. -/
namespace Go.Proofs.Ytdeaeiolehglaaa
open Go.RowKit

/-- a new row of parts, each of which is read in W -/
def RetPW (W w : World) (ts : List (List C)) (e : Ending) (w' : World) : Prop :=
  ∃ A n cap vs, e = .returned (.slice A n cap) ∧ ts.length = n ∧ w'.ownsRow w.heap.size 22 1 (.slice A n cap) n vs ∧ Rows_ W vs ts ∧ Below w.heap.size w w'

set_option maxHeartbeats 400000 in
theorem tParts_w (W : World) (A : Option Addr) (n cap : Nat) (t : List C) (w : World) (hW : IsC W A n cap t) (hbW : Below W.heap.size W w) (hr : rightB t = true) :
    Calls Try.prog 51 #[.slice A n cap] w (RetPW W w (partsF t)) := by
  have h := hW.below hbW
  obtain ⟨hsk, hl1, hl2⟩ := right_skip hr
  have hl := h.len
  match t, hr, hl1 with
  | c :: cs, hr, _ =>
    obtain ⟨ho, hcs⟩ := right_cons hr
    have hc0 : (c :: cs)[0]? = some c := rfl
    obtain ⟨b, off, rfl, hbb, hwf, h0, h1, h2⟩ := h.at_ hc0
    simp only [Nat.zero_mul, Nat.add_zero] at h0 h1 h2
    have hn0 : ((n : Int) == 0) = false := by simp at hl ⊢; omega
    have hn1 : 0 < n := by simp at hl; omega
    have hn2 : n ≤ 200 := by omega
    have Hl := Lib.hid hl
    have Hcs := Lib.hid hcs
    clear hl hsk hcs hr hc0 hl2
    by_cases hk3 : c.kind = 3
    · have hbk : (c.kind != 3) = false := by simp [hk3]
      have har := ar_fun ho hk3
      have hpf : partsF (c :: cs) = partsA (c :: cs) c.ar 1 := by simp [partsF, hk3, C.ar]
      have Har := Lib.hid har
      have Hk3 := Lib.hid hk3
      have Ho := Lib.hid ho
      have Hpf := Lib.hid hpf
      clear har hk3 ho hpf
      go_enter Try.func51, Try.ntmps51
      go_wp2
      go_loopw [3, 4] (fun o p wr => ∃ (j q m c' : Nat) (Ao : Option Addr) (vs : List Value) (acc : List (List C)), p = .int .i64 q ∧ o = .slice Ao m c' ∧ 1 ≤ q ∧ q ≤ n ∧ m ≤ q ∧ wr.ownsRow w.heap.size 22 1 (.slice Ao m c') m vs ∧ Rows_ W vs acc ∧ Hid (skip ((c :: cs).drop q) j = some []) ∧ Hid (acc ++ partsA (c :: cs) j q = partsF (c :: cs)) ∧ Below w.heap.size w wr) (fun _ p _ => n - (intOf p).toNat)
      case atStart => exact ⟨c.ar, 1, 0, 0, none, [], [], rfl, rfl, by omega, by omega, by omega, World.ownsRow_nil _ _ _ _, Rows_.nil _, Hcs.out, Hpf.out.symm, Below.refl _ _⟩
      case round =>
        obtain ⟨j, q, m, c', Ao, vs, acc, rfl, rfl, hq1, hq2, hm, hown, hrows, hsk, hres, hb⟩ := hrel
        by_cases hlt : q < n
        · obtain ⟨j, rfl⟩ : ∃ i, j = i + 1 := by
            cases j with
            | zero => exfalso; have := hsk.out; rw [skip_zero] at this; injection this with this; have := congrArg List.length this; simp at this; have := Hl.out; simp at this; omega
            | succ j => exact ⟨j, rfl⟩
          obtain ⟨e, he, hs2, he1, he2⟩ := skip_step hsk.out
          have hend := tend_any (some ⟨b, off, none⟩) n cap (c :: cs) q wr (h.below hb) (by omega) (by omega)
          rw [endT_some he] at hend
          have hez : ((e : Int) == 0) = false := by simp; omega
          have hen : e ≤ n := by rw [← Hl.out]; exact he2
          have hcap := h.sl.hcap
          have hqc : ¬ cap = q := by omega
          have Hend := Lib.hid hend
          have He := Lib.hid he
          have Hs2 := Lib.hid hs2
          clear hend he hs2 he2
          go_wp2_with (first
            | (go_at_call 63; go_must (refine Hend.out.mono ?_); rintro e w1 ⟨rfl, hb1⟩; replace hb := hb.trans (hb1.mono hb.size); replace hown := own_below hown hb1)
            | (at_builtin; go_must (refine wpList_append_sl rfl (.tmp 25) (.tmp 30) 52 rfl w.heap.size 22 Try.underlying52 infoCs rfl (by omega) rfl (hown.alloc _) rfl (Sl.lit _ _ [_] 22 1 1 (by simp) rfl (by simp [maxLen])) (one1 rfl) (by omega) (by omega) (by have := hb.size; simp; omega) ?_); intro A' cap' w2 hown1 hb2 _ _))
          have hb3 : Below w.heap.size w w2 := Below.trans (by repeat (first | assumption | exact Below.refl _ _ | refine Below.drew ?_ | refine below_drewN ?_ _ | refine Below.alloc ?_ ?_ _ | refine Below.setCell ?_ ?_ _ | (apply Below.size; assumption) | (simp; done) | (simp; omega) | (have hz := hb.size; simp; omega) | (have hz := hb.size; omega) | omega)) hb2
          go_roundw
          case rel =>
            refine ⟨j, e, m + 1, cap', A', _, acc ++ [((c :: cs).drop q).take (e - q)], rfl, rfl, by omega, hen, by omega, hown1, hrows.snoc (hW.cut' (by omega) hen hqc), Hs2.out, Lib.hid ?_, hb3⟩
            have := hres.out
            rw [partsA_some He.out] at this
            rw [← this]
            simp
          case measure => simp [intOf]; omega
        · go_wp2
          go_ret
          have hj : j = 0 := by
            have := hsk.out
            rw [drop_end Hl.out hlt] at this
            cases j with
            | zero => rfl
            | succ j => rw [skip_nil _ (by omega)] at this; cases this
          subst hj
          have := hres.out
          simp only [partsA, List.append_nil] at this
          rw [← this]
          exact ⟨_, _, _, _, rfl, by rw [← hrows.1]; simpa using hown.1, hown, hrows, hb⟩
    · have hbk : (c.kind != 3) = true := by simp [hk3]
      have hpf : partsF (c :: cs) = [] := by simp [partsF, hk3]
      have Hpf := Lib.hid hpf
      clear hpf
      go_enter Try.func51, Try.ntmps51
      go_wp2
      go_ret
      rw [Hpf.out]
      exact ⟨_, _, _, [], rfl, rfl, World.ownsRow_nil _ _ _ _, Rows_.nil W, Below.refl _ _⟩

set_option maxHeartbeats 400000 in
theorem rParts_w (W : World) (A : Option Addr) (n cap : Nat) (t : List C) (w : World) (hW : IsC W A n cap t) (hbW : Below W.heap.size W w) (hr : rightB t = true) :
    Calls Try.prog 27 #[.slice A n cap] w (RetPW W w (partsF t)) := by
  have h := hW.below hbW
  obtain ⟨hsk, hl1, hl2⟩ := right_skip hr
  have hl := h.len
  match t, hr, hl1 with
  | c :: cs, hr, _ =>
    obtain ⟨ho, hcs⟩ := right_cons hr
    have hc0 : (c :: cs)[0]? = some c := rfl
    obtain ⟨b, off, rfl, hbb, hwf, h0, h1, h2⟩ := h.at_ hc0
    simp only [Nat.zero_mul, Nat.add_zero] at h0 h1 h2
    have hn0 : ((n : Int) == 0) = false := by simp at hl ⊢; omega
    have hn1 : 0 < n := by simp at hl; omega
    have hn2 : n ≤ 200 := by omega
    have Hl := Lib.hid hl
    have Hcs := Lib.hid hcs
    clear hl hsk hcs hr hc0 hl2
    by_cases hk3 : c.kind = 3
    · have hbk : (c.kind != 3) = false := by simp [hk3]
      have har := ar_fun ho hk3
      have hpf : partsF (c :: cs) = partsA (c :: cs) c.ar 1 := by simp [partsF, hk3, C.ar]
      have hn6 := ok_fun ho hk3
      obtain ⟨hc0, hc6⟩ := hn6
      have Har := Lib.hid har
      have Hk3 := Lib.hid hk3
      have Ho := Lib.hid ho
      have Hpf := Lib.hid hpf
      clear har hk3 ho hpf
      go_enter Try.func27, Try.ntmps27
      go_wp2
      go_loopw [3, 4, 5] (fun o p ii wr => ∃ (j q m i c' : Nat) (Ao : Option Addr) (vs : List Value) (acc : List (List C)), p = .int .i64 q ∧ ii = .int .i64 i ∧ i + j = c.ar ∧ o = .slice Ao m c' ∧ 1 ≤ q ∧ q ≤ n ∧ m ≤ q ∧ wr.ownsRow w.heap.size 22 1 (.slice Ao m c') m vs ∧ Rows_ W vs acc ∧ Hid (skip ((c :: cs).drop q) j = some []) ∧ Hid (acc ++ partsA (c :: cs) j q = partsF (c :: cs)) ∧ Below w.heap.size w wr) (fun _ _ i _ => 6 - (intOf i).toNat)
      case atStart => exact ⟨c.ar, 1, 0, 0, 0, _, [], [], rfl, rfl, by omega, rfl, by omega, by omega, by omega, World.ownsRow_lit w #[] 0 (Nat.le_refl _) (by simp [maxLen]) rfl, Rows_.nil _, Hcs.out, Hpf.out.symm, (Below.refl _ _).alloc (Nat.le_refl _) _⟩
      case round =>
        obtain ⟨j, q, m, i, c', Ao, vs, acc, rfl, rfl, hij, rfl, hq1, hq2, hm, hown, hrows, hsk, hres, hb⟩ := hrel
        have Hij := Lib.hid hij
        clear hij
        obtain ⟨hc, hf⟩ := bcell hb
        cases j with
        | succ j =>
          have hlt : (i : Int) < c.n := by have := Har.out; have := Hij.out; omega
          have hi6 : i < 6 := by omega
          obtain ⟨e, he, hs2, he1, he2⟩ := skip_step hsk.out
          have hend := rEnd_any (some ⟨b, off, none⟩) n cap (c :: cs) q wr (h.below hb) (by omega) (by omega)
          rw [endR_some he] at hend
          have hez : ¬ (e : Int) < 0 := by omega
          have hen : e ≤ n := by rw [← Hl.out]; exact he2
          have hcap := h.sl.hcap
          have hqc : ¬ cap = q := by omega
          have Hend := Lib.hid hend
          have He := Lib.hid he
          have Hs2 := Lib.hid hs2
          clear hend he hs2 he2
          go_wp2_with (first
            | (go_at_call 48; go_must (refine Hend.out.mono ?_); rintro e w1 ⟨rfl, hb1⟩; replace hb := hb.trans (hb1.mono hb.size); replace hown := own_below hown hb1)
            | (at_builtin; go_must (refine wpList_append_sl rfl (.tmp 33) (.tmp 38) 52 rfl w.heap.size 22 Try.underlying52 infoCs rfl (by omega) rfl (hown.alloc _) rfl (Sl.lit _ _ [_] 22 1 1 (by simp) rfl (by simp [maxLen])) (one1 rfl) (by omega) (by omega) (by have := hb.size; simp; omega) ?_); intro A' cap' w2 hown1 hb2 _ _))
          have hb3 : Below w.heap.size w w2 := Below.trans (by repeat (first | assumption | exact Below.refl _ _ | refine Below.drew ?_ | refine below_drewN ?_ _ | refine Below.alloc ?_ ?_ _ | refine Below.setCell ?_ ?_ _ | (apply Below.size; assumption) | (simp; done) | (simp; omega) | (have hz := hb.size; simp; omega) | (have hz := hb.size; omega) | omega)) hb2
          go_roundw
          case rel =>
            refine ⟨j, e, m + 1, i + 1, cap', A', _, acc ++ [((c :: cs).drop q).take (e - q)], rfl, by go_num, by have := Hij.out; omega, rfl, by omega, hen, by omega, hown1, hrows.snoc (hW.cut' (by omega) hen hqc), Hs2.out, Lib.hid ?_, hb3⟩
            have := hres.out
            rw [partsA_some He.out] at this
            rw [← this]
            simp
          case measure => simp [intOf]; omega
        | zero =>
          have hlt : ¬ (i : Int) < c.n := by have := Har.out; have := Hij.out; omega
          go_wp2
          go_ret
          have := hres.out
          simp only [partsA, List.append_nil] at this
          rw [← this]
          exact ⟨_, _, _, _, rfl, by rw [← hrows.1]; simpa using hown.1, hown, hrows, hb⟩
    · have hbk : (c.kind != 3) = true := by simp [hk3]
      have hpf : partsF (c :: cs) = [] := by simp [partsF, hk3]
      have Hpf := Lib.hid hpf
      clear hpf
      go_enter Try.func27, Try.ntmps27
      go_wp2
      go_ret
      rw [Hpf.out]
      exact ⟨_, _, _, [], rfl, rfl, World.ownsRow_lit w #[] 0 (Nat.le_refl _) (by simp [maxLen]) rfl, Rows_.nil W, (by repeat (first | assumption | exact Below.refl _ _ | refine Below.drew ?_ | refine below_drewN ?_ _ | refine Below.alloc ?_ ?_ _ | refine Below.setCell ?_ ?_ _ | (apply Below.size; assumption) | (simp; done) | (simp; omega) | (have hz := hb.size; simp; omega) | (have hz := hb.size; omega) | omega))⟩
end Go.Proofs.Ytdeaeiolehglaaa

/- The walk that makes a head. -/
namespace Go.Proofs.Ytdeaeiolehglaaa
open Go.RowKit

theorem infoArgC : (Try.prog.info? 95).map (fun i => (i.zero, i.size, i.bytes)) = some (some (.agg #[.slice none 0 0, .int .i64 0]), 2, 32) := by kernel_rfl
theorem Mk.cblk_lt {w : World} {base bm bq : Nat} {s : St} (h : Mk w base bm bq s) {g : Nat} (hg : w.heap.size ≤ g) : cblk w bm ≠ some g := by
  obtain ⟨A, n, cap, hb1, hb2, hm, hcode, hmap⟩ := h.has
  obtain ⟨vs, v1, v2, hown, v4⟩ := hcode.rows
  rw [cblk_of hm]
  intro he
  cases A with
  | none => cases he
  | some a =>
    have := Own0.lt hown a rfl
    simp at he
    omega
theorem Mk.cblk_own {w : World} {base bm bq : Nat} {s : St} (h : Mk w base bm bq s) : ∃ A n cap, w.heap[bm]? = some (.cells #[.slice A n cap, .int .i64 s.next, .map (some bq)] 63 (0, 0)) ∧ OwnG RIn 6 w base 48 (.slice A n cap) n s.code ∧ cblk w bm = A.map (·.block) := by
  obtain ⟨A, n, cap, hb1, hb2, hm, hcode, hmap⟩ := h.has
  exact ⟨A, n, cap, hm, hcode, cblk_of hm⟩
theorem Mk.apart {w w' : World} {base bm bq : Nat} {s : St} {As A' : Option Addr} (h : Mk w base bm bq s) (hap : Apart w w' As A') (hf : ∀ a, As = some a → Free w bm bq a.block) : Mk w' base bm bq s ∧ cblk w' bm = cblk w bm := by
  have hlt := h.lt
  have hbm : w'.heap[bm]? = w.heap[bm]? := hap.old bm hlt.2.1 fun a ha he => (hf a ha).m he
  have hbq : w'.heap[bq]? = w.heap[bq]? := hap.old bq hlt.2.2.2 fun a ha he => (hf a ha).q he
  refine ⟨?_, cblk_same hbm⟩
  obtain ⟨A, n, cap, hb1, hb2, hm, hcode, hmap⟩ := h.has
  obtain ⟨vs, v1, v2, hown, v4⟩ := hcode.rows
  refine ⟨⟨A, n, cap, hb1, hb2, hbm.trans hm, ⟨hcode.len, vs, v1, v2, own_at hown fun a ha => hap.old _ (Own0.lt hown a ha).2 fun a0 h0 he => (hf a0 h0).c ?_, fun i x v hx hv => v4 i x v hx hv⟩, hmap.block hbq⟩, h.fit⟩
  rw [cblk_of hm, ha]
  simp [he]
theorem Kept.apart {w0 w w' : World} {base bm bq : Nat} {s : St} {As A' : Option Addr} (hk : Kept w0 w bm bq) (h : Mk w base bm bq s) (hap : Apart w w' As A') (hf : ∀ a, As = some a → Free w bm bq a.block) (hlow : ∀ a, As = some a → w0.heap.size ≤ a.block) : Kept w0 w' bm bq := ⟨fun g hg => by
  obtain ⟨h1, h2⟩ := hk.free g hg
  have hne : ∀ a, As = some a → a.block ≠ g := fun a ha he => by have := hlow a ha; have := hg.lt; omega
  exact ⟨(hap.old g h2.lt hne).trans h1, ⟨Nat.lt_of_lt_of_le h2.lt hap.size, h2.m, h2.q, by rw [(h.apart hap hf).2]; exact h2.c⟩⟩⟩
theorem free_apart {w w' : World} {base bm bq : Nat} {s : St} {As A' : Option Addr} (h : Mk w base bm bq s) (hap : Apart w w' As A') (hf : ∀ a, As = some a → Free w bm bq a.block) : ∀ a, A' = some a → Free w' bm bq a.block := fun a ha => by
  have hlt := h.lt
  obtain ⟨h1, h2⟩ := hap.blk a ha
  rcases h2 with ⟨a0, h0, he⟩ | h2
  · have := hf a0 h0
    rw [he]
    exact ⟨by rw [← he]; exact h1, this.m, this.q, by rw [(h.apart hap hf).2]; exact this.c⟩
  · exact ⟨h1, by omega, by omega, by rw [(h.apart hap hf).2]; exact h.cblk_lt h2⟩
def RArgW (W : World) : World → Tm × Int → List Value → Prop := fun _ p v => ∃ A n c, v = [.slice A n c, .int .i64 p.2] ∧ IsC W A n c p.1.flat
theorem keepsArgW (W : World) : Keeps (RArgW W) := fun _ _ _ _ h _ => h
theorem IsC.tm {w : World} {A : Option Addr} {n cap : Nat} {T : Tm} (h : IsC w A n cap T.flat) :
    ∃ b off, A = some ⟨b, off, none⟩ ∧ b < w.heap.size ∧ w.cell? ⟨b, off, none⟩ = some (.int .i64 T.c0.kind) ∧ w.cell? ⟨b, off + 1, none⟩ = some (.string T.c0.name) ∧ w.cell? ⟨b, off + 2, none⟩ = some (.int .i64 T.c0.n) ∧ 0 < n := by
  obtain ⟨b, off, hA, hb, _, h0, h1, h2⟩ := h.at_ (flat_get0 T)
  have := h.len
  rw [flat_size] at this
  have hp := T.size_pos
  exact ⟨b, off, hA, hb, by simpa using h0, by simpa using h1, by simpa using h2, by omega⟩
theorem numbered_snoc (t : Tm) : ∀ (l : List Tm) (j : Nat), numbered j (l ++ [t]) = numbered j l ++ [(t, ((j + l.length : Nat) : Int))]
  | [], j => rfl
  | x :: l, j => by
    rw [List.cons_append, numbered, numbered, numbered_snoc t l (j + 1), List.cons_append]
    congr 3
    simp; omega
theorem numbered_len : ∀ (l : List Tm) (j : Nat), (numbered j l).length = l.length
  | [], _ => rfl
  | x :: l, j => by simp [numbered, numbered_len l (j + 1)]
theorem numbered_mem {p : Tm × Int} : ∀ {l : List Tm} {j : Nat}, p ∈ numbered j l → p.1 ∈ l ∧ 0 ≤ p.2 ∧ p.2 < j + l.length
  | x :: l, j, h => by
    rw [numbered] at h
    rcases List.mem_cons.1 h with rfl | h
    · exact ⟨by simp, by simp, by simp; omega⟩
    · obtain ⟨h1, h2, h3⟩ := numbered_mem h
      exact ⟨by simp [h1], h2, by simp at h3 ⊢; omega⟩
/-- how many cells wait in the row, and how much room they want -/
def rsz : List (Tm × Int) → Nat
  | [] => 0
  | p :: r => p.1.size + rsz r
def rwt : List (Tm × Int) → Nat
  | [] => 0
  | p :: r => (1 + 2 * sizes p.1.args) + rwt r
theorem rsz_append : ∀ a b : List (Tm × Int), rsz (a ++ b) = rsz a + rsz b
  | [], b => by simp [rsz]
  | p :: a, b => by rw [List.cons_append, rsz, rsz, rsz_append a b, Nat.add_assoc]
theorem rwt_append : ∀ a b : List (Tm × Int), rwt (a ++ b) = rwt a + rwt b
  | [], b => by simp [rwt]
  | p :: a, b => by rw [List.cons_append, rwt, rwt, rwt_append a b]; omega
theorem rwt_len : ∀ a : List (Tm × Int), a.length ≤ rwt a
  | [] => by simp [rwt]
  | p :: a => by have := rwt_len a; simp only [rwt, List.length_cons]; omega
theorem rsz_numbered : ∀ (l : List Tm) (j : Nat), rsz (numbered j l) = sizes l
  | [], _ => rfl
  | x :: l, j => by rw [numbered, rsz, rsz_numbered l (j + 1), sizes_cons]
theorem rwt_numbered : ∀ (l : List Tm) (j : Nat), rwt (numbered j l) ≤ 2 * sizes l
  | [], _ => by simp [numbered, rwt]
  | x :: l, j => by
    have := rwt_numbered l (j + 1)
    have e : rwt (numbered j (x :: l)) = (1 + 2 * sizes x.args) + rwt (numbered (j + 1) l) := rfl
    rw [e, sizes_cons, size_args]
    omega
/-- what a row's terms are -/
def RowOk (row : List (Tm × Int)) : Prop := ∀ p ∈ row, p.1.ok = true ∧ p.1.size ≤ 200 ∧ 0 ≤ p.2 ∧ p.2 ≤ 100000
theorem RowOk.append {a b : List (Tm × Int)} (ha : RowOk a) (hb : RowOk b) : RowOk (a ++ b) := fun p hp => (List.mem_append.1 hp).elim (ha p) (hb p)
theorem c0_kind3 (T : Tm) : T.c0.kind = 3 ↔ ∃ s us, T = .f s us := by
  cases T with
  | v n => simp [Tm.c0]
  | i n => simp [Tm.c0]
  | f s us => simp [Tm.c0]
theorem unisF_fun (s : St) (t : Tm) (ts : List Tm) (h : t.c0.kind = 3) :
    unisF s (t :: ts) = ((unisF (s.emit { op := 5, x := s.next }).bump ts).1, (t, (s.next : Int)) :: (unisF (s.emit { op := 5, x := s.next }).bump ts).2) := by
  obtain ⟨nm, us, rfl⟩ := (c0_kind3 t).1 h
  rfl
theorem unisF_one (s : St) (t : Tm) (ts : List Tm) (h : t.c0.kind ≠ 3) : unisF s (t :: ts) = unisF (oneF 5 6 7 s t) ts := by
  cases t with
  | v n => rfl
  | i n => rfl
  | f s us => exact absurd rfl h
theorem unisF_room : ∀ (ts : List Tm) (s : St) (k : Nat), s.room (2 * sizes ts + k) → (unisF s ts).1.room (rwt (unisF s ts).2 + k)
  | [], s, k, h => h.le (by simp [unisF, rwt])
  | t :: ts, s, k, h => by
    rw [sizes_cons, size_args] at h
    by_cases hk : t.c0.kind = 3
    · rw [unisF_fun s t ts hk]
      have := unisF_room ts (s.emit { op := 5, x := s.next }).bump (k + 1 + 2 * sizes t.args) ((room_fresh _ (h.le (j := 2 * sizes ts + (k + 1 + 2 * sizes t.args) + 1) (by omega))))
      exact this.le (by simp only [rwt]; omega)
    · rw [unisF_one s t ts hk]
      exact unisF_room ts _ k (room_one _ _ _ _ (h.le (by omega)))
theorem unisF_rsz : ∀ (ts : List Tm) (s : St), rsz (unisF s ts).2 ≤ sizes ts
  | [], s => by simp [unisF, rsz]
  | t :: ts, s => by
    rw [sizes_cons]
    by_cases hk : t.c0.kind = 3
    · rw [unisF_fun s t ts hk]
      have := unisF_rsz ts (s.emit { op := 5, x := s.next }).bump
      simp only [rsz]; omega
    · rw [unisF_one s t ts hk]
      have := unisF_rsz ts (oneF 5 6 7 s t)
      omega
theorem unisF_ok : ∀ (ts : List Tm) (s : St), oks ts = true → sizes ts ≤ 199 → s.room (2 * sizes ts) → RowOk (unisF s ts).2
  | [], s, _, _, _ => by simp [unisF, RowOk]
  | t :: ts, s, ho, hs, hr => by
    rw [oks_cons, Bool.and_eq_true] at ho
    rw [sizes_cons] at hs hr
    have hp := t.size_pos
    by_cases hk : t.c0.kind = 3
    · rw [unisF_fun s t ts hk]
      have h1 := hr.next
      have := unisF_ok ts (s.emit { op := 5, x := s.next }).bump ho.2 (by omega) (room_fresh _ (hr.le (by omega)))
      intro p hp'
      rcases List.mem_cons.1 hp' with rfl | hp'
      · exact ⟨ho.1, by dsimp only; omega, by simp, by simp; omega⟩
      · exact this p hp'
    · rw [unisF_one s t ts hk]
      exact unisF_ok ts _ ho.2 (by omega) (room_one _ _ _ _ (hr.le (by omega)))
theorem headF_fun (s : St) (t : Tm) (r : Int) (h : t.c0.kind = 3) : headF s (t, r) = unisF (s.emit { op := 4, a := r, name := t.c0.name, n := t.c0.n }) t.args := by
  obtain ⟨nm, us, rfl⟩ := (c0_kind3 t).1 h
  rfl
theorem headF_room {s : St} {p : Tm × Int} {k : Nat} (h : s.room (1 + 2 * sizes p.1.args + k)) : (headF s p).1.room (rwt (headF s p).2 + k) := by
  obtain ⟨t, r⟩ := p
  cases t with
  | v n => exact (room_reg n _ (h.le (j := k + 1) (by omega))).le (by simp [headF, rwt])
  | i n => exact (room_emit _ (h.le (j := k + 1) (by omega))).le (by simp [headF, rwt])
  | f nm us =>
    rw [headF_fun s _ r rfl]
    exact unisF_room _ _ k (room_emit _ (h.le (by simp only [Tm.args]; omega)))
theorem headF_rsz (s : St) (p : Tm × Int) : rsz (headF s p).2 + 1 ≤ p.1.size := by
  obtain ⟨t, r⟩ := p
  cases t with
  | v n => simp [headF, rsz, Tm.size]
  | i n => simp [headF, rsz, Tm.size]
  | f nm us =>
    rw [headF_fun s _ r rfl, size_args]
    have := unisF_rsz (Tm.f nm us).args (s.emit { op := 4, a := r, name := (Tm.f nm us).c0.name, n := (Tm.f nm us).c0.n })
    simp only
    omega
theorem headF_ok {s : St} {p : Tm × Int} (ho : p.1.ok = true) (hs : p.1.size ≤ 200) (h : s.room (1 + 2 * sizes p.1.args)) : RowOk (headF s p).2 := by
  obtain ⟨t, r⟩ := p
  cases t with
  | v n => simp [headF, RowOk]
  | i n => simp [headF, RowOk]
  | f nm us =>
    rw [headF_fun s _ r rfl]
    rw [size_args] at hs
    exact unisF_ok _ _ (args_ok ho) (by simp only at hs; omega) (room_emit _ (h.le (by simp only; omega)))
theorem headsF_nil (k : Nat) (s : St) : headsF k s [] = s := by cases k <;> rfl
theorem headsF_cons (k : Nat) (s : St) (p : Tm × Int) (row : List (Tm × Int)) : headsF (k + 1) s (p :: row) = headsF k (headF s p).1 (row ++ (headF s p).2) := rfl
end Go.Proofs.Ytdeaeiolehglaaa

/- Plain facts on building a structure. No program in sight. -/
namespace Go.Proofs.Ytdeaeiolehglaaa
open Go.RowKit

theorem buildF_fun (s : St) (t : Tm) (h : t.c0.kind = 3) :
    buildF s t = (setsF ((argsF s t.args).1.bump.emit { op := 8, a := (argsF s t.args).1.next, name := t.c0.name, n := t.c0.n }) t.args (argsF s t.args).2, ((argsF s t.args).1.next : Int)) := by
  obtain ⟨nm, us, rfl⟩ := (c0_kind3 t).1 h
  rfl
theorem buildF_one (s : St) (t : Tm) (h : t.c0.kind ≠ 3) : buildF s t = (s, -1) := by
  cases t with
  | v n => rfl
  | i n => rfl
  | f nm us => exact absurd rfl h
theorem argsF_cons (s : St) (t : Tm) (ts : List Tm) : argsF s (t :: ts) = ((argsF (buildF s t).1 ts).1, (buildF s t).2 :: (argsF (buildF s t).1 ts).2) := rfl
theorem argsF_nil (s : St) : argsF s [] = (s, []) := rfl
theorem setsF_fun (s : St) (t : Tm) (ts : List Tm) (x : Int) (xs : List Int) (h : t.c0.kind = 3) : setsF s (t :: ts) (x :: xs) = setsF (s.emit { op := 10, x := x }) ts xs := by
  obtain ⟨nm, us, rfl⟩ := (c0_kind3 t).1 h
  rfl
theorem setsF_one (s : St) (t : Tm) (ts : List Tm) (x : Int) (xs : List Int) (h : t.c0.kind ≠ 3) : setsF s (t :: ts) (x :: xs) = setsF (oneF 9 10 11 s t) ts xs := by
  cases t with
  | v n => rfl
  | i n => rfl
  | f nm us => exact absurd rfl h
theorem argsF_len : ∀ (ts : List Tm) (s : St), (argsF s ts).2.length = ts.length
  | [], _ => rfl
  | t :: ts, s => by rw [argsF_cons, List.length_cons, List.length_cons, argsF_len ts]
theorem setsF_room : ∀ (ts : List Tm) (xs : List Int) (s : St) (k : Nat), s.room (ts.length + k) → (setsF s ts xs).room k
  | [], xs, s, k, h => by
    have : setsF s [] xs = s := by cases xs <;> rfl
    rw [this]; exact h.le (by simp)
  | t :: ts, [], s, k, h => by
    have : setsF s (t :: ts) [] = s := by cases t <;> rfl
    rw [this]; exact h.le (by omega)
  | t :: ts, x :: xs, s, k, h => by
    rw [List.length_cons] at h
    by_cases hk : t.c0.kind = 3
    · rw [setsF_fun _ _ _ _ _ hk]
      exact setsF_room ts xs _ k (room_emit _ (h.le (by omega)))
    · rw [setsF_one _ _ _ _ _ hk]
      exact setsF_room ts xs _ k (room_one _ _ _ _ (h.le (by omega)))
/-- how much room a structure wants -/
def bwt (t : Tm) : Nat := if t.c0.kind = 3 then 1 + 2 * sizes t.args else 0
def bwts : List Tm → Nat
  | [] => 0
  | t :: ts => bwt t + bwts ts
theorem bwts_le : ∀ ts : List Tm, bwts ts + ts.length ≤ 2 * sizes ts
  | [] => by simp [bwts]
  | t :: ts => by
    have := bwts_le ts
    have e : bwts (t :: ts) = bwt t + bwts ts := rfl
    rw [e, sizes_cons, size_args, List.length_cons]
    unfold bwt
    split <;> omega
mutual
theorem buildF_room : ∀ (t : Tm) (s : St) (k : Nat), s.room (bwt t + k) → (buildF s t).1.room k
  | .v n, s, k, h => h.le (by simp [bwt])
  | .i n, s, k, h => h.le (by simp [bwt])
  | .f nm us, s, k, h => by
    rw [buildF_fun s _ rfl]
    have hw : bwt (.f nm us) = 1 + 2 * sizes us := rfl
    have hle := bwts_le us
    rw [hw] at h
    have h1 := argsF_room us s (us.length + k + 1) (h.le (by omega))
    refine setsF_room _ _ _ k ?_
    refine ⟨?_, ?_, ?_⟩
    · have := h1.code; simp [Tm.args, St.emit, St.bump]; omega
    · have := h1.next; simp [Tm.args, St.emit, St.bump]; omega
    · have := h1.vars; simp [Tm.args, St.emit, St.bump]; omega
theorem argsF_room : ∀ (ts : List Tm) (s : St) (k : Nat), s.room (bwts ts + k) → (argsF s ts).1.room k
  | [], s, k, h => h.le (by omega)
  | t :: ts, s, k, h => by
    rw [argsF_cons]
    have e : bwts (t :: ts) = bwt t + bwts ts := rfl
    rw [e] at h
    exact argsF_room ts _ k (buildF_room t s (bwts ts + k) (h.le (by omega)))
end
theorem buildF_small (s : St) (t : Tm) (h : s.room (bwt t)) : -1 ≤ (buildF s t).2 ∧ (buildF s t).2 ≤ 100000 := by
  by_cases hk : t.c0.kind = 3
  · rw [buildF_fun s t hk]
    have hle := bwts_le t.args
    have hb : bwt t = 1 + 2 * sizes t.args := by simp [bwt, hk]
    rw [hb] at h
    have := (argsF_room t.args s 0 (h.le (by omega))).next
    exact ⟨by simp only; omega, by simp only; omega⟩
  · rw [buildF_one s t hk]; exact ⟨by simp, by simp⟩
/-- the registers of those arguments that are structures, by places -/
def belowL : Nat → List Tm → List Int → List (Int × Value)
  | j, t :: ts, x :: xs => if t.c0.kind = 3 then ((j : Int), Value.int .i64 x) :: belowL (j + 1) ts xs else belowL (j + 1) ts xs
  | _, _, _ => []
theorem belowL_snoc (t : Tm) (x : Int) : ∀ (ts : List Tm) (xs : List Int) (j : Nat), xs.length = ts.length → belowL j (ts ++ [t]) (xs ++ [x]) = belowL j ts xs ++ (if t.c0.kind = 3 then [(((j + ts.length : Nat) : Int), Value.int .i64 x)] else [])
  | [], [], j, _ => by simp [belowL]
  | u :: ts, y :: xs, j, h => by
    have := belowL_snoc t x ts xs (j + 1) (by simpa using h)
    simp only [List.cons_append, belowL]
    rw [this, show j + 1 + ts.length = j + (u :: ts).length by simp; omega]
    split <;> rfl
  | [], _ :: _, _, h => by simp at h
  | _ :: _, [], _, h => by simp at h
theorem belowL_look : ∀ (ts : List Tm) (xs : List Int) (j k : Nat), xs.length = ts.length → look (belowL j ts xs) ((j + k : Nat) : Int) = match ts[k]?, xs[k]? with
    | some t, some x => if t.c0.kind = 3 then some (.int .i64 x) else none
    | _, _ => none
  | [], [], j, k, _ => by simp [belowL, look]
  | t :: ts, x :: xs, j, 0, _ => by
    have hno : ∀ (ts : List Tm) (xs : List Int) (j m : Nat), m < j → look (belowL j ts xs) (m : Int) = none := by
      intro ts
      induction ts with
      | nil => intro xs j m _; simp [belowL, look]
      | cons t ts ih =>
        intro xs j m hm
        cases xs with
        | nil => simp [belowL, look]
        | cons x xs =>
          simp only [belowL]
          split
          · simp only [look]
            rw [if_neg (by omega)]
            exact ih xs (j + 1) m (by omega)
          · exact ih xs (j + 1) m (by omega)
    simp only [belowL, Nat.add_zero, List.getElem?_cons_zero]
    split
    · simp [look]
    · exact hno ts xs (j + 1) j (by omega)
  | t :: ts, x :: xs, j, k + 1, h => by
    have ih := belowL_look ts xs (j + 1) k (by simpa using h)
    rw [show j + 1 + k = j + (k + 1) by omega] at ih
    simp only [belowL, List.getElem?_cons_succ]
    split
    · simp only [look]
      rw [if_neg (by omega)]
      exact ih
    · exact ih
  | [], _ :: _, _, _, h => by simp at h
  | _ :: _, [], _, _, h => by simp at h
theorem belowL_len : ∀ (ts : List Tm) (xs : List Int) (j : Nat), (belowL j ts xs).length ≤ ts.length
  | [], _, _ => by simp [belowL]
  | t :: ts, [], _ => by simp [belowL]
  | t :: ts, x :: xs, j => by
    have := belowL_len ts xs (j + 1)
    simp only [belowL]
    split <;> simp <;> omega
/-- a world that differs in one block alone -/
theorem Apart.one {w w' : World} {b : Nat} (h : w.grownBy w' (some b)) : Apart w w' (some ⟨b, 0, none⟩) none :=
  ⟨h.size, fun g hg hne => h.block g hg (by have := hne _ rfl; simp at this; simp; omega), fun a ha => by cases ha⟩
end Go.Proofs.Ytdeaeiolehglaaa

/- What a walk that keeps a state in one block of memory keeps. -/
namespace Go.Proofs.Ytdeaeiolehglaaa
open Go.RowKit

theorem on_world {G : World → Prop} {w : World} (Φ : World → Prop) (h : Φ w) (k : ∀ X, Φ X → G X) : G w := k w h
/-- w' is w but for block b, and new blocks -/
structure But (w w' : World) (b : Nat) : Prop where
  os : w'.os = w.os
  tape : w'.tape = w.tape
  output : w'.output = w.output
  size : w.heap.size ≤ w'.heap.size
  block : ∀ k, k < w.heap.size → k ≠ b → w'.heap[k]? = w.heap[k]?
theorem But.refl (w : World) (b : Nat) : But w w b := ⟨rfl, rfl, rfl, Nat.le_refl _, fun _ _ _ => rfl⟩
theorem But.trans {w w' w'' : World} {b : Nat} (h : But w w' b) (h' : But w' w'' b) : But w w'' b :=
  ⟨h'.os.trans h.os, h'.tape.trans h.tape, h'.output.trans h.output, Nat.le_trans h.size h'.size, fun k hk hne => (h'.block k (Nat.lt_of_lt_of_le hk h.size) hne).trans (h.block k hk hne)⟩
theorem But.of {w w' : World} {b : Nat} (h : Below w.heap.size w w') : But w w' b := ⟨h.os, h.tape, h.output, h.size, fun k hk _ => h.block k hk⟩
theorem But.set (w : World) (b k : Nat) (v : Value) : But w (w.setCell ⟨b, k, none⟩ v) b := ⟨rfl, rfl, rfl, by simp, fun _ _ hne => set_other hne v⟩
theorem But.below {w w' : World} {b B : Nat} (h : But w w' b) (hB : B ≤ b) (hw : B ≤ w.heap.size) : Below B w w' := ⟨h.os, h.tape, h.output, h.size, fun k hk => h.block k (by omega) (by omega)⟩
/-- block b holds a state -/
def Bx (w : World) (b : Nat) (A : Option Addr) (n c : Nat) (B : Option Addr) (m d : Nat) (D : Option Addr) (p e : Nat) (s : St) : Prop :=
  w.heap[b]? = some (.cells #[.slice A n c, .int .i64 s.next, .slice B m d, .slice D p e] 72 (0, 0)) ∧ StAt w A n c B m d D p e s
theorem set4 {w : World} {b : Nat} {a0 a1 a2 a3 : Value} (h : w.heap[b]? = some (.cells #[a0, a1, a2, a3] 72 (0, 0))) (v0 v1 v2 v3 : Value) :
    ((((w.setCell ⟨b, 0, none⟩ v0).setCell ⟨b, 1, none⟩ v1).setCell ⟨b, 2, none⟩ v2).setCell ⟨b, 3, none⟩ v3).heap[b]? = some (.cells #[v0, v1, v2, v3] 72 (0, 0)) := by
  have h0 := set_block (k := 0) h v0
  have h1 := set_block (k := 1) h0 v1
  have h2 := set_block (k := 2) h1 v2
  have h3 := set_block (k := 3) h2 v3
  simpa using h3
theorem but4 (w : World) (b : Nat) (v0 v1 v2 v3 : Value) : But w ((((w.setCell ⟨b, 0, none⟩ v0).setCell ⟨b, 1, none⟩ v1).setCell ⟨b, 2, none⟩ v2).setCell ⟨b, 3, none⟩ v3) b :=
  (((But.set w b 0 v0).trans (But.set _ b 1 v1)).trans (But.set _ b 2 v2)).trans (But.set _ b 3 v3)
/-- what is read outside block b is read on -/
theorem Sl.but {w w' : World} {b size n c : Nat} {A : Option Addr} {xs : List Value} (h : Sl w size A n c xs) (hb : But w w' b) (hne : ∀ a, A = some a → a.block ≠ b) : Sl w' size A n c xs := by
  refine ⟨h.len, h.hcap, h.hmax, fun hn => ?_⟩
  obtain ⟨g, off, rfl, hlt, hc⟩ := h.cells hn
  refine ⟨g, off, rfl, Nat.lt_of_lt_of_le hlt hb.size, fun j u hu => ?_⟩
  rw [← hc j u hu]
  exact World.cell?_of_block (hb.block g hlt (hne _ rfl))
theorem But.drew {w w' : World} {b : Nat} (h : But w w' b) : But w w'.drew b := h.trans (But.of (Below.refl _ _).drew)
theorem But.alloc {w w' : World} {b : Nat} (h : But w w' b) (o : Obj) : But w (w'.alloc o) b := h.trans (But.of ((Below.refl _ _).alloc (Nat.le_refl _) o))
theorem But.setB {w w' : World} {b k : Nat} (h : But w w' b) (v : Value) : But w (w'.setCell ⟨b, k, none⟩ v) b := h.trans (But.set w' b k v)
theorem But.setNew {w w' : World} {b g k : Nat} (h : But w w' b) (hg : w.heap.size ≤ g) (v : Value) : But w (w'.setCell ⟨g, k, none⟩ v) b :=
  ⟨h.os, h.tape, h.output, by simpa using h.size, fun q hq hne => (set_other (by omega) v).trans (h.block q hq hne)⟩
theorem NewOr.trans {w w1 : World} {A0 A1 A2 : Option Addr} {n0 n1 n2 : Nat} (h : NewOr w A0 n0 A1 n1) (h' : NewOr w1 A1 n1 A2 n2) (hw : w.heap.size ≤ w1.heap.size) : NewOr w A0 n0 A2 n2 := by
  rcases h' with ⟨rfl, rfl⟩ | h'
  · exact h
  · exact .inr fun a ha => Nat.le_trans hw (h' a ha)
theorem NewOr.lower {w w1 : World} {A0 A1 : Option Addr} {n0 n1 : Nat} (h : NewOr w1 A0 n0 A1 n1) (hw : w.heap.size ≤ w1.heap.size) : NewOr w A0 n0 A1 n1 := h.imp id fun h a ha => Nat.le_trans hw (h a ha)
theorem fit_reg {s : St} {v : Int} (h : s.fit 100000) (hr : s.room 1) (hv : i64 v) : (regF s v).1.fit 100000 := by
  have h2 := hr.next
  have h3 := hr.vars
  rcases regF_two s v with e | ⟨r, _, e⟩ <;> rw [e]
  · exact ⟨h.code, by simp [St.addv, St.bump]; omega, by simp [St.addv, St.bump]; omega, by simp [St.addv, St.bump, h.same], h.wf, fun x hx => by
      simp [St.addv, St.bump] at hx
      rcases hx with hx | rfl
      · exact h.rg x hx
      · omega, fun x hx => by
      simp [St.addv, St.bump] at hx
      rcases hx with hx | rfl
      · exact h.vr x hx
      · exact hv⟩
  · exact h
/-- a slice that does not lie in block b -/
def Off (A : Option Addr) (n b : Nat) : Prop := 0 < n → ∀ a, A = some a → a.block ≠ b
theorem Off.new {w : World} {B0 B : Option Addr} {m0 m b : Nat} (h : Off B0 m0 b) (hb : b < w.heap.size) (hn : NewOr w B0 m0 B m) : Off B m b := fun hm a ha => by
  rcases hn with ⟨rfl, rfl⟩ | h1
  · exact h hm a ha
  · have := h1 a ha; omega
theorem Sl.off {w : World} {A : Option Addr} {size n c b : Nat} {xs : List Value} (h : Sl w size A n c xs) (hb : w.heap.size ≤ b) : Off A n b := fun hn a ha => by
  obtain ⟨g, off, rfl, hlt, _⟩ := h.cells hn
  cases ha
  simp only
  omega
theorem Sl.but' {w w' : World} {b size n c : Nat} {A : Option Addr} {xs : List Value} (h : Sl w size A n c xs) (hb : But w w' b) (hne : Off A n b) : Sl w' size A n c xs := by
  refine ⟨h.len, h.hcap, h.hmax, fun hn => ?_⟩
  obtain ⟨g, off, rfl, hlt, hc⟩ := h.cells hn
  refine ⟨g, off, rfl, Nat.lt_of_lt_of_le hlt hb.size, fun j u hu => ?_⟩
  rw [← hc j u hu]
  exact World.cell?_of_block (hb.block g hlt (hne hn _ rfl))
theorem StAt.but {w w' : World} {A B D : Option Addr} {n c m d p e b : Nat} {s : St} (h : StAt w A n c B m d D p e s) (hb : But w w' b) (hA : Off A n b) (hB : Off B m b) (hD : Off D p b) : StAt w' A n c B m d D p e s := by
  obtain ⟨vs, h1, h2, h3, h4⟩ := h.code.rows
  exact ⟨⟨h.code.len, vs, h1, h2, h3.but' hb hA, fun i x v hx hv => h4 i x v hx hv⟩, ⟨h.vars.sl.but' hb hB, h.vars.wf⟩, ⟨h.regs.sl.but' hb hD, h.regs.wf⟩⟩
theorem StAt.off {w : World} {A B D : Option Addr} {n c m d p e b : Nat} {s : St} (h : StAt w A n c B m d D p e s) (hb : w.heap.size ≤ b) : Off A n b ∧ Off B m b ∧ Off D p b := by
  obtain ⟨vs, h1, h2, h3, h4⟩ := h.code.rows
  exact ⟨h3.off hb, h.vars.sl.off hb, h.regs.sl.off hb⟩
theorem IsG.but {α : Type} {Rl : World → α → List Value → Prop} {w w' : World} {A : Option Addr} {k n c b : Nat} {xs : List α} (hR : ∀ w w' x v, Rl w x v → Rl w' x v) (h : IsG Rl k w A n c xs) (hb : But w w' b) (hA : Off A n b) : IsG Rl k w' A n c xs := by
  obtain ⟨vs, h1, h2, h3, h4⟩ := h.rows
  exact ⟨h.len, vs, h1, h2, h3.but' hb hA, fun i x v hx hv => hR _ _ _ _ (h4 i x v hx hv)⟩
theorem IsG.off {α : Type} {Rl : World → α → List Value → Prop} {w : World} {A : Option Addr} {k n c b : Nat} {xs : List α} (h : IsG Rl k w A n c xs) (hb : w.heap.size ≤ b) : Off A n b := by
  obtain ⟨vs, h1, h2, h3, h4⟩ := h.rows
  exact h3.off hb
/-- the four cells of a state in memory -/
theorem open4 {w : World} {b : Nat} {v0 v1 v2 v3 : Value} (h : w.heap[b]? = some (.cells #[v0, v1, v2, v3] 72 (0, 0))) :
    w.cell? ⟨b, 0, none⟩ = some v0 ∧ w.cell? ⟨b, 1, none⟩ = some v1 ∧ w.cell? ⟨b, 2, none⟩ = some v2 ∧ w.cell? ⟨b, 3, none⟩ = some v3 ∧
      w.frozen? ⟨b, 0, none⟩ = false ∧ w.frozen? ⟨b, 1, none⟩ = false ∧ w.frozen? ⟨b, 2, none⟩ = false ∧ w.frozen? ⟨b, 3, none⟩ = false ∧ b < w.heap.size :=
  ⟨cells_of h 0, cells_of h 1, cells_of h 2, cells_of h 3, frozen_of h 0, frozen_of h 1, frozen_of h 2, frozen_of h 3, block_lt h⟩
theorem open2 {w : World} {b : Nat} {v0 v1 : Value} {t : TypeId} (h : w.heap[b]? = some (.cells #[v0, v1] t (0, 0))) :
    w.cell? ⟨b, 0, none⟩ = some v0 ∧ w.cell? ⟨b, 1, none⟩ = some v1 ∧ b < w.heap.size := ⟨cells_of h 0, cells_of h 1, block_lt h⟩
theorem open3 {w : World} {b : Nat} {v0 v1 v2 : Value} {t : TypeId} (h : w.heap[b]? = some (.cells #[v0, v1, v2] t (0, 0))) :
    w.cell? ⟨b, 0, none⟩ = some v0 ∧ w.cell? ⟨b, 1, none⟩ = some v1 ∧ w.cell? ⟨b, 2, none⟩ = some v2 ∧ b < w.heap.size := ⟨cells_of h 0, cells_of h 1, cells_of h 2, block_lt h⟩
theorem fit_emit {s : St} {i : In} (h : s.fit 100000) (hr : s.code.length + 1 ≤ 100000) (hi : i.wf) : (s.emit i).fit 100000 :=
  ⟨by simp [St.emit]; omega, h.next, h.vars, h.same, fun x hx => by
    simp [St.emit] at hx
    rcases hx with hx | rfl
    · exact h.wf x hx
    · exact hi, h.rg, h.vr⟩
theorem fit_one {s : St} {a b c : Int} {T : Tm} (h : s.fit 100000) (hr : s.room 1) (hT : T.ok = true) (ha : i64 a) (hb : i64 b) (hc : i64 c) : (oneF a b c s T).fit 100000 := by
  have hw := c0_wf hT
  have hcd := hr.code
  cases T with
  | v n =>
    have hg := regF_reg h n (by omega)
    exact fit_emit (fit_reg h hr hw.n) (by rw [regF_code]; omega) (wfI (by split <;> assumption) (i64_small (by omega) (by omega)) i64_0 i64_0 empty_size)
  | i n => exact fit_emit h (by omega) (wfI hc i64_0 i64_0 hw.n empty_size)
  | f s us => exact h
theorem fit_bump {s : St} (h : s.fit 100000) (hr : s.next + 1 ≤ 100000) : s.bump.fit 100000 := ⟨h.code, hr, h.vars, h.same, h.wf, h.rg, h.vr⟩
theorem IsG.but4 {α : Type} {Rl : World → α → List Value → Prop} {w : World} {A : Option Addr} {k n c b : Nat} {xs : List α} (hR : ∀ w w' x v, Rl w x v → Rl w' x v) (h : IsG Rl k w A n c xs) (hA : Off A n b) (v0 v1 v2 v3 : Value) : IsG Rl k ((((w.setCell ⟨b, 0, none⟩ v0).setCell ⟨b, 1, none⟩ v1).setCell ⟨b, 2, none⟩ v2).setCell ⟨b, 3, none⟩ v3) A n c xs := h.but hR (Go.Proofs.Ytdeaeiolehglaaa.but4 w b v0 v1 v2 v3) hA
theorem StAt.but4 {w : World} {A B D : Option Addr} {n c m d p e b : Nat} {s : St} (h : StAt w A n c B m d D p e s) (hA : Off A n b) (hB : Off B m b) (hD : Off D p b) (v0 v1 v2 v3 : Value) : StAt ((((w.setCell ⟨b, 0, none⟩ v0).setCell ⟨b, 1, none⟩ v1).setCell ⟨b, 2, none⟩ v2).setCell ⟨b, 3, none⟩ v3) A n c B m d D p e s := h.but (Go.Proofs.Ytdeaeiolehglaaa.but4 w b v0 v1 v2 v3) hA hB hD
theorem keepsArgWb (W : World) : ∀ w w' x v, RArgW W w x v → RArgW W w' x v := fun _ _ _ _ h => h
/-- how much code a state in memory has -/
def plen (w : World) (b : Nat) : Nat := match w.heap[b]? with
  | some (Obj.cells cs _ _) => match cs[0]? with
    | some (Value.slice _ n _) => n
    | _ => 0
  | _ => 0
theorem plen_at {w : World} {b n c : Nat} {A : Option Addr} {v1 v2 v3 : Value} (h : w.heap[b]? = some (.cells #[.slice A n c, v1, v2, v3] 72 (0, 0))) : plen w b = n := by
  unfold plen
  rw [h]
  rfl
theorem unisF_code : ∀ (ts : List Tm) (s : St), s.code.length ≤ (unisF s ts).1.code.length
  | [], s => Nat.le_refl _
  | t :: ts, s => by
    by_cases hk : t.c0.kind = 3
    · rw [unisF_fun s t ts hk]
      have := unisF_code ts (s.emit { op := 5, x := s.next }).bump
      simp [St.emit, St.bump] at this ⊢
      omega
    · rw [unisF_one s t ts hk]
      have := unisF_code ts (oneF 5 6 7 s t)
      have := oneF_code 5 6 7 s t
      omega
theorem headF_code (s : St) (p : Tm × Int) : s.code.length + 1 ≤ (headF s p).1.code.length := by
  obtain ⟨t, r⟩ := p
  cases t with
  | v n => simp [headF, St.emit, regF_code]
  | i n => simp [headF, St.emit]
  | f nm us =>
    rw [headF_fun s _ r rfl]
    have := unisF_code (Tm.f nm us).args (s.emit { op := 4, a := r, name := (Tm.f nm us).c0.name, n := (Tm.f nm us).c0.n })
    simp [St.emit] at this ⊢
    omega
theorem fit_unis : ∀ (ts : List Tm) (s : St), s.fit 100000 → s.room (2 * sizes ts) → oks ts = true → (unisF s ts).1.fit 100000
  | [], s, h, _, _ => h
  | t :: ts, s, h, hr, ho => by
    rw [oks_cons, Bool.and_eq_true] at ho
    rw [sizes_cons, size_args] at hr
    by_cases hk : t.c0.kind = 3
    · rw [unisF_fun s t ts hk]
      have h1 := hr.next
      have h2 := hr.code
      exact fit_unis ts _ (fit_bump (fit_emit h (by omega) (wfI (i64_small (by decide) (by decide)) (i64_small (by omega) (by omega)) i64_0 i64_0 empty_size)) (by simp [St.emit]; omega)) (room_fresh _ (hr.le (by omega))) ho.2
    · rw [unisF_one s t ts hk]
      exact fit_unis ts _ (fit_one h (hr.le (by omega)) ho.1 (i64_small (by decide) (by decide)) (i64_small (by decide) (by decide)) (i64_small (by decide) (by decide))) (room_one _ _ _ _ (hr.le (by omega))) ho.2
end Go.Proofs.Ytdeaeiolehglaaa

/- Code grows at its end: a fact's code is the beginning of that of any clause with its head. No program in sight. -/
namespace Go.Proofs.Ytdeaeiolehglaaa
open Go.RowKit

/-- one code begins another one -/
def Pre (s s' : St) : Prop := ∃ t, s'.code = s.code ++ t
theorem Pre.refl (s : St) : Pre s s := ⟨[], by simp⟩
theorem Pre.trans {a b c : St} (h : Pre a b) (h' : Pre b c) : Pre a c := by
  obtain ⟨t, h⟩ := h
  obtain ⟨u, h'⟩ := h'
  exact ⟨t ++ u, by rw [h', h, List.append_assoc]⟩
theorem pre_emit (s : St) (i : In) : Pre s (s.emit i) := ⟨[i], rfl⟩
theorem pre_bump (s : St) : Pre s s.bump := ⟨[], by simp [St.bump]⟩
theorem pre_one (a b c : Int) (s : St) (T : Tm) : Pre s (oneF a b c s T) := by
  cases T with
  | v n => exact ⟨[{ op := if (regF s n).2.2 then a else b, x := (regF s n).2.1 }], by simp only [oneF, St.emit, regF_code]⟩
  | i n => exact pre_emit _ _
  | f nm us => exact Pre.refl _
theorem pre_sets : ∀ (ts : List Tm) (xs : List Int) (s : St), Pre s (setsF s ts xs)
  | [], xs, s => by
    have : setsF s [] xs = s := by cases xs <;> rfl
    rw [this]; exact Pre.refl _
  | t :: ts, [], s => by
    have : setsF s (t :: ts) [] = s := by cases t <;> rfl
    rw [this]; exact Pre.refl _
  | t :: ts, x :: xs, s => by
    by_cases hk : t.c0.kind = 3
    · rw [setsF_fun _ _ _ _ _ hk]; exact (pre_emit _ _).trans (pre_sets ts xs _)
    · rw [setsF_one _ _ _ _ _ hk]; exact (pre_one _ _ _ _ _).trans (pre_sets ts xs _)
mutual
theorem pre_build : ∀ (t : Tm) (s : St), Pre s (buildF s t).1
  | .v n, s => Pre.refl _
  | .i n, s => Pre.refl _
  | .f nm us, s => by
    rw [buildF_fun s _ rfl]
    exact (((pre_args us s).trans (pre_bump _)).trans (pre_emit _ _)).trans (pre_sets us _ _)
theorem pre_args : ∀ (ts : List Tm) (s : St), Pre s (argsF s ts).1
  | [], s => Pre.refl _
  | t :: ts, s => by
    rw [argsF_cons]
    exact (pre_build t s).trans (pre_args ts _)
end
theorem pre_body : ∀ (ls : List Ltl) (s : St), Pre s (bodyF s ls)
  | [], s => Pre.refl _
  | l :: ls, s => ((pre_build l.t s).trans (pre_emit _ _)).trans (pre_body ls _)
theorem bodyF_append : ∀ (a b : List Ltl) (s : St), bodyF s (a ++ b) = bodyF (bodyF s a) b
  | [], b, s => rfl
  | l :: a, b, s => bodyF_append a b _
/-- CodeParts in plain words -/
theorem code_parts (h : Tm) (b : List Ltl) (k : Nat) : ∃ u v, compF ⟨h, b.take k⟩ = u ++ [lastI h] ∧ compF ⟨h, b⟩ = u ++ v ++ [lastI h] := by
  obtain ⟨v, hv⟩ := pre_body (b.drop k) (bodyF (headsF (sizes h.args) (startF h) (numbered 0 h.args)) (b.take k))
  refine ⟨_, v, rfl, ?_⟩
  rw [← hv, ← bodyF_append, List.take_append_drop]
  rfl
end Go.Proofs.Ytdeaeiolehglaaa

/- How code is grouped, and how much of it there is. No program in sight. -/
namespace Go.Proofs.Ytdeaeiolehglaaa
open Go.RowKit

/-- one more piece of code -/
def Em (s s' : St) (P : List In → Prop) : Prop := ∃ u, s'.code = s.code ++ u ∧ P u
theorem Em.refl {s : St} {P : List In → Prop} (h : P []) : Em s s P := ⟨[], by simp, h⟩
theorem Em.trans {a b c : St} {P Q R : List In → Prop} (h : Em a b P) (h' : Em b c Q) (hr : ∀ u v, P u → Q v → R (u ++ v)) : Em a c R := by
  obtain ⟨u, h, hu⟩ := h
  obtain ⟨v, h', hv⟩ := h'
  exact ⟨u ++ v, by rw [h', h, List.append_assoc], hr u v hu hv⟩
theorem Em.mono {a b : St} {P Q : List In → Prop} (h : Em a b P) (hq : ∀ u, P u → Q u) : Em a b Q := by
  obtain ⟨u, h, hu⟩ := h
  exact ⟨u, h, hq u hu⟩
theorem em_emit (s : St) (i : In) : Em s (s.emit i) (fun u => u = [i]) := ⟨[i], rfl, rfl⟩

theorem em_one (a b c : Int) (s : St) (t : Tm) (h : t.c0.kind ≠ 3) : Em s (oneF a b c s t) (fun u => ∃ i, u = [i] ∧ (i.op = a ∨ i.op = b ∨ i.op = c)) := by
  cases t with
  | v n =>
    refine ⟨[_], by simp only [oneF, St.emit, regF_code]; rfl, _, rfl, ?_⟩
    simp only
    split
    · exact .inl rfl
    · exact .inr (.inl rfl)
  | i n => exact ⟨[_], rfl, _, rfl, .inr (.inr rfl)⟩
  | f nm us => exact absurd rfl h
def isUni (i : In) : Prop := i.op = 5 ∨ i.op = 6 ∨ i.op = 7
def isSet (i : In) : Prop := i.op = 9 ∨ i.op = 10 ∨ i.op = 11
theorem em_unis : ∀ (ts : List Tm) (s : St), Em s (unisF s ts).1 (fun u => u.length = ts.length ∧ ∀ i ∈ u, isUni i)
  | [], s => Em.refl ⟨rfl, by simp⟩
  | t :: ts, s => by
    by_cases hk : t.c0.kind = 3
    · rw [unisF_fun s t ts hk]
      have h := em_unis ts (s.emit { op := 5, x := (s.next : Int) }).bump
      obtain ⟨u, h1, h2, h3⟩ := h
      refine ⟨{ op := 5, x := (s.next : Int) } :: u, by rw [h1]; simp [St.bump, St.emit], by simp [h2], ?_⟩
      intro i hi
      rcases List.mem_cons.1 hi with rfl | hi
      · exact .inl rfl
      · exact h3 i hi
    · rw [unisF_one s t ts hk]
      refine (em_one 5 6 7 s t hk).trans (em_unis ts _) ?_
      rintro u v ⟨i, rfl, hi⟩ ⟨h2, h3⟩
      refine ⟨by simp [h2], ?_⟩
      intro j hj
      simp at hj
      rcases hj with rfl | hj
      · exact hi
      · exact h3 j hj
theorem em_sets : ∀ (ts : List Tm) (xs : List Int) (s : St), xs.length = ts.length → Em s (setsF s ts xs) (fun u => u.length = ts.length ∧ ∀ i ∈ u, isSet i)
  | [], [], s, _ => Em.refl ⟨rfl, by simp⟩
  | t :: ts, x :: xs, s, hl => by
    have hl' : xs.length = ts.length := by simpa using hl
    by_cases hk : t.c0.kind = 3
    · rw [setsF_fun _ _ _ _ _ hk]
      refine (em_emit s _).trans (em_sets ts xs _ hl') ?_
      rintro u v rfl ⟨h2, h3⟩
      refine ⟨by simp [h2], fun j hj => ?_⟩
      simp at hj
      rcases hj with rfl | hj
      · exact .inr (.inl rfl)
      · exact h3 j hj
    · rw [setsF_one _ _ _ _ _ hk]
      refine (em_one 9 10 11 s t hk).trans (em_sets ts xs _ hl') ?_
      rintro u v ⟨i, rfl, hi⟩ ⟨h2, h3⟩
      refine ⟨by simp [h2], fun j hj => ?_⟩
      simp at hj
      rcases hj with rfl | hj
      · exact hi
      · exact h3 j hj
  | [], _ :: _, _, h => by simp at h
  | _ :: _, [], _, h => by simp at h

/-- groups of instructions -/
def HG (u : List In) : Prop := (∃ i, u = [i] ∧ (i.op = 1 ∨ i.op = 2 ∨ i.op = 3)) ∨ ∃ i us, u = i :: us ∧ i.op = 4 ∧ i.n = us.length ∧ ∀ x ∈ us, isUni x
def BG (u : List In) : Prop := ∃ i us, u = i :: us ∧ i.op = 8 ∧ i.n = us.length ∧ ∀ x ∈ us, isSet x
def HGs (u : List In) : Prop := ∃ gs : List (List In), u = gs.flatten ∧ ∀ g ∈ gs, HG g
def BGs (u : List In) : Prop := ∃ gs : List (List In), u = gs.flatten ∧ ∀ g ∈ gs, BG g
theorem HGs.append {u v : List In} (h : HGs u) (h' : HGs v) : HGs (u ++ v) := by
  obtain ⟨a, rfl, h⟩ := h
  obtain ⟨b, rfl, h'⟩ := h'
  exact ⟨a ++ b, by simp, fun g hg => (List.mem_append.1 hg).elim (h g) (h' g)⟩
theorem BGs.append {u v : List In} (h : BGs u) (h' : BGs v) : BGs (u ++ v) := by
  obtain ⟨a, rfl, h⟩ := h
  obtain ⟨b, rfl, h'⟩ := h'
  exact ⟨a ++ b, by simp, fun g hg => (List.mem_append.1 hg).elim (h g) (h' g)⟩
theorem BGs.one {u : List In} (h : BG u) : BGs u := ⟨[u], by simp, by simpa using h⟩
theorem HGs.one {u : List In} (h : HG u) : HGs u := ⟨[u], by simp, by simpa using h⟩
theorem em_head (s : St) (p : Tm × Int) : Em s (headF s p).1 HG := by
  obtain ⟨t, r⟩ := p
  cases t with
  | v n =>
    refine ⟨[_], by simp only [headF, St.emit, regF_code]; rfl, .inl ⟨_, rfl, ?_⟩⟩
    simp only
    split
    · exact .inl rfl
    · exact .inr (.inl rfl)
  | i n => exact ⟨[_], rfl, .inl ⟨_, rfl, .inr (.inr rfl)⟩⟩
  | f nm us =>
    rw [headF_fun s _ r rfl]
    refine (em_emit s _).trans (em_unis (Tm.f nm us).args _) ?_
    rintro u v rfl ⟨h2, h3⟩
    exact .inr ⟨_, v, rfl, rfl, by rw [h2]; rfl, h3⟩
theorem em_heads : ∀ (f : Nat) (s : St) (row : List (Tm × Int)), Em s (headsF f s row) HGs
  | 0, s, row => Em.refl ⟨[], rfl, by simp⟩
  | f + 1, s, [] => Em.refl ⟨[], rfl, by simp⟩
  | f + 1, s, p :: row => by
    rw [headsF_cons]
    exact (em_head s p).trans (em_heads f _ _) fun u v hu hv => (HGs.one hu).append hv
mutual
theorem em_build : ∀ (t : Tm) (s : St), Em s (buildF s t).1 BGs
  | .v n, s => Em.refl ⟨[], rfl, by simp⟩
  | .i n, s => Em.refl ⟨[], rfl, by simp⟩
  | .f nm us, s => by
    rw [buildF_fun s _ rfl]
    have h1 := em_args us s
    have h2 := em_sets us (argsF s us).2 ((argsF s us).1.bump.emit { op := 8, a := (argsF s us).1.next, name := nm, n := us.length }) (argsF_len us s)
    refine h1.trans (R := BGs) (Q := BG) ?_ fun u v hu hv => hu.append (BGs.one hv)
    obtain ⟨u, h3, h4, h5⟩ := h2
    exact ⟨{ op := 8, a := (argsF s us).1.next, name := nm, n := us.length } :: u, by simp only [Tm.args, Tm.c0]; rw [h3]; simp [St.bump, St.emit], _, u, rfl, rfl, by rw [h4], h5⟩
theorem em_args : ∀ (ts : List Tm) (s : St), Em s (argsF s ts).1 BGs
  | [], s => Em.refl ⟨[], rfl, by simp⟩
  | t :: ts, s => by
    rw [argsF_cons]
    exact (em_build t s).trans (em_args ts _) fun u v hu hv => hu.append hv
end
theorem bodyF_cons' (s : St) (l : Ltl) (ls : List Ltl) : bodyF s (l :: ls) = bodyF ((buildF s l.t).1.emit { op := 12, a := (buildF s l.t).2, neg := l.neg }) ls := rfl
/-- the body's code: what each literal's structure is made by, and its call -/
def BodyC : List Bool → List In → Prop
  | [], u => u = []
  | b :: bs, u => ∃ g i v, u = g ++ i :: v ∧ BGs g ∧ i.op = 12 ∧ i.neg = b ∧ BodyC bs v
theorem em_body : ∀ (ls : List Ltl) (s : St), Em s (bodyF s ls) (BodyC (ls.map (·.neg)))
  | [], s => Em.refl rfl
  | l :: ls, s => by
    rw [bodyF_cons']
    obtain ⟨g, h1, h2⟩ := em_build l.t s
    obtain ⟨v, h3, h4⟩ := em_body ls ((buildF s l.t).1.emit { op := 12, a := (buildF s l.t).2, neg := l.neg })
    exact ⟨g ++ { op := 12, a := (buildF s l.t).2, neg := l.neg } :: v, by rw [h3]; simp [St.emit, h1], g, _, v, rfl, h2, rfl, rfl, h4⟩
theorem comp_groups (c : Cls) : ∃ h b, compF c = h ++ (b ++ [lastI c.head]) ∧ HGs h ∧ BodyC (c.body.map (·.neg)) b := by
  obtain ⟨h, h1, h2⟩ := em_heads (sizes c.head.args) (startF c.head) (numbered 0 c.head.args)
  obtain ⟨b, h3, h4⟩ := em_body c.body (headsF (sizes c.head.args) (startF c.head) (numbered 0 c.head.args))
  refine ⟨h, b, ?_, h2, h4⟩
  rw [compF, h3, h1]
  simp [startF]

/-- CodeRuns in plain words: how many of a structure's arguments are left, and whether the body has begun -/
def Run : Int → Bool → List In → Prop
  | left, _, [] => left = 0
  | left, body, i :: l => (0 < left ∧ body = false ∧ isUni i ∧ Run (left - 1) false l) ∨ (0 < left ∧ body = true ∧ isSet i ∧ Run (left - 1) true l) ∨
    (left = 0 ∧ (i.op = 1 ∨ i.op = 2 ∨ i.op = 3 ∨ i.op = 12 ∨ i.op = 13) ∧ Run 0 body l) ∨ (left = 0 ∧ i.op = 4 ∧ body = false ∧ 0 ≤ i.n ∧ Run i.n false l) ∨ (left = 0 ∧ i.op = 8 ∧ 0 ≤ i.n ∧ Run i.n true l)
theorem run_unis {r : List In} (h : Run 0 false r) : ∀ us : List In, (∀ x ∈ us, isUni x) → Run us.length false (us ++ r)
  | [], _ => h
  | x :: us, hx => .inl ⟨by simp, rfl, hx x (by simp), by
      have := run_unis h us fun y hy => hx y (by simp [hy])
      have e : (((x :: us).length : Nat) : Int) - 1 = us.length := by simp
      rw [e]; exact this⟩
theorem run_sets {r : List In} (h : Run 0 true r) : ∀ us : List In, (∀ x ∈ us, isSet x) → Run us.length true (us ++ r)
  | [], _ => h
  | x :: us, hx => .inr (.inl ⟨by simp, rfl, hx x (by simp), by
      have := run_sets h us fun y hy => hx y (by simp [hy])
      have e : (((x :: us).length : Nat) : Int) - 1 = us.length := by simp
      rw [e]; exact this⟩)
theorem run_HGs {r : List In} (h : Run 0 false r) : ∀ gs : List (List In), (∀ g ∈ gs, HG g) → Run 0 false (gs.flatten ++ r)
  | [], _ => h
  | g :: gs, hg => by
    have ih := run_HGs h gs fun x hx => hg x (by simp [hx])
    rw [List.flatten_cons, List.append_assoc]
    rcases hg g (by simp) with ⟨i, rfl, hi⟩ | ⟨i, us, rfl, h4, hn, hu⟩
    · exact .inr (.inr (.inl ⟨rfl, by omega, ih⟩))
    · exact .inr (.inr (.inr (.inl ⟨rfl, h4, rfl, by omega, by rw [hn]; exact run_unis ih us hu⟩)))
theorem run_BGs {r : List In} (h : ∀ b, Run 0 b r) : ∀ gs : List (List In), (∀ g ∈ gs, BG g) → ∀ b, Run 0 b (gs.flatten ++ r)
  | [], _, b => h b
  | g :: gs, hg, b => by
    have ih := run_BGs h gs (fun x hx => hg x (by simp [hx])) true
    rw [List.flatten_cons, List.append_assoc]
    obtain ⟨i, us, rfl, h4, hn, hu⟩ := hg g (by simp)
    exact .inr (.inr (.inr (.inr ⟨rfl, h4, by omega, by rw [hn]; exact run_sets ih us hu⟩)))
theorem run_body {r : List In} (h : ∀ b, Run 0 b r) : ∀ (ns : List Bool) (u : List In), BodyC ns u → ∀ b, Run 0 b (u ++ r)
  | [], u, hu, b => by cases hu; exact h b
  | n :: ns, u, hu, b => by
    obtain ⟨g, i, v, rfl, ⟨gs, rfl, hg⟩, hi, _, hv⟩ := hu
    rw [List.append_assoc]
    have hi' : ∀ b, Run 0 b (i :: v ++ r) := fun b => Or.inr (.inr (.inl ⟨rfl, by omega, run_body h ns v hv b⟩))
    exact run_BGs hi' gs hg b
theorem code_runs (c : Cls) : Run 0 false (compF c) := by
  obtain ⟨h, b, he, ⟨gs, rfl, hg⟩, hb⟩ := comp_groups c
  rw [he]
  refine run_HGs (run_body (fun b => ?_) _ _ hb false) gs hg
  exact .inr (.inr (.inl ⟨rfl, by simp [lastI], rfl⟩))

/-- the calls, one after the other -/
def callsOf (l : List In) : List Bool := (l.filter fun i => i.op == 12).map (·.neg)
theorem callsOf_append (a b : List In) : callsOf (a ++ b) = callsOf a ++ callsOf b := by simp [callsOf]
theorem callsOf_none {l : List In} (h : ∀ i ∈ l, i.op ≠ 12) : callsOf l = [] := by
  have : l.filter (fun i => i.op == 12) = [] := List.filter_eq_nil_iff.2 fun i hi => by simpa using h i hi
  rw [callsOf, this]; rfl
theorem HGs.no12 {u : List In} (h : HGs u) : ∀ i ∈ u, i.op ≠ 12 ∧ i.op ≠ 13 := by
  obtain ⟨gs, rfl, h⟩ := h
  intro i hi
  obtain ⟨g, hg, hi⟩ := List.mem_flatten.1 hi
  rcases h g hg with ⟨j, rfl, hj⟩ | ⟨j, us, rfl, h4, _, hu⟩
  · simp at hi; subst hi; omega
  · rcases List.mem_cons.1 hi with rfl | hi
    · omega
    · have := hu i hi; unfold isUni at this; omega
theorem BGs.no12 {u : List In} (h : BGs u) : ∀ i ∈ u, i.op ≠ 12 ∧ i.op ≠ 13 := by
  obtain ⟨gs, rfl, h⟩ := h
  intro i hi
  obtain ⟨g, hg, hi⟩ := List.mem_flatten.1 hi
  obtain ⟨j, us, rfl, h4, _, hu⟩ := h g hg
  rcases List.mem_cons.1 hi with rfl | hi
  · omega
  · have := hu i hi; unfold isSet at this; omega
theorem calls_body : ∀ (ns : List Bool) (u : List In), BodyC ns u → callsOf u = ns
  | [], u, h => by cases h; rfl
  | n :: ns, u, h => by
    obtain ⟨g, i, v, rfl, hg, hi, hn, hv⟩ := h
    have h1 := callsOf_none fun j hj => (hg.no12 j hj).1
    have h2 : callsOf (i :: v) = i.neg :: callsOf v := by simp [callsOf, hi]
    rw [callsOf_append, h1, h2, hn, calls_body ns v hv]; rfl
theorem body_no13 : ∀ (ns : List Bool) (u : List In), BodyC ns u → ∀ i ∈ u, i.op ≠ 13
  | [], u, h => by cases h; simp
  | n :: ns, u, h => by
    obtain ⟨g, i, v, rfl, hg, hi, hn, hv⟩ := h
    intro j hj
    simp only [List.mem_append, List.mem_cons] at hj
    rcases hj with hj | rfl | hj
    · exact (hg.no12 j hj).2
    · omega
    · exact body_no13 ns v hv j hj
theorem code_calls (c : Cls) : callsOf (compF c) = c.body.map (·.neg) := by
  obtain ⟨h, b, he, hh, hb⟩ := comp_groups c
  rw [he, callsOf_append, callsOf_append, callsOf_none fun j hj => (hh.no12 j hj).1, calls_body _ _ hb]
  simp [callsOf, lastI]
/-- no instruction but the last one ends a clause -/
theorem code_no13 (c : Cls) : ∃ u, compF c = u ++ [lastI c.head] ∧ ∀ i ∈ u, i.op ≠ 13 := by
  obtain ⟨h, b, he, hh, hb⟩ := comp_groups c
  refine ⟨h ++ b, by rw [he, List.append_assoc], fun i hi => ?_⟩
  rcases List.mem_append.1 hi with hi | hi
  · exact (hh.no12 i hi).2
  · exact body_no13 _ _ hb i hi

/-- how many names stand in cells -/
def funsC : List C → Nat
  | [] => 0
  | c :: cs => (if c.kind = 3 then 1 else 0) + funsC cs
theorem funsC_append : ∀ a b : List C, funsC (a ++ b) = funsC a + funsC b
  | [], b => by simp [funsC]
  | c :: a, b => by rw [List.cons_append, funsC, funsC, funsC_append a b, Nat.add_assoc]
def isF (t : Tm) : Nat := if t.c0.kind = 3 then 1 else 0
/-- how many of a row's terms begin with a name -/
def nF' : List Tm → Nat
  | [] => 0
  | t :: ts => isF t + nF' ts
theorem funs_flat (t : Tm) : funsC t.flat = isF t + funsC (flats t.args) := by
  rw [flat_cons, funsC]; rfl
theorem funs_flats_cons (t : Tm) (ts : List Tm) : funsC (flats (t :: ts)) = isF t + funsC (flats t.args) + funsC (flats ts) := by
  rw [flats_cons, funsC_append, funs_flat]
/-- how much code a term of the head's row makes, with all that it puts there -/
def hwt (t : Tm) : Nat := 1 + sizes t.args + funsC (flats t.args)
def hwts : List (Tm × Int) → Nat
  | [] => 0
  | p :: r => hwt p.1 + hwts r
theorem hwts_append : ∀ a b : List (Tm × Int), hwts (a ++ b) = hwts a + hwts b
  | [], b => by simp [hwts]
  | p :: a, b => by rw [List.cons_append, hwts, hwts, hwts_append a b, Nat.add_assoc]
theorem one_len (a b c : Int) (s : St) (t : Tm) (h : t.c0.kind ≠ 3) : (oneF a b c s t).code.length = s.code.length + 1 := by
  obtain ⟨u, h1, i, rfl, _⟩ := em_one a b c s t h
  rw [h1]; simp
theorem unis_len : ∀ (ts : List Tm) (s : St), (unisF s ts).1.code.length + hwts (unisF s ts).2 = s.code.length + sizes ts + funsC (flats ts)
  | [], s => by simp [unisF, hwts, sizes, flats, funsC]
  | t :: ts, s => by
    rw [sizes_cons, size_args, funs_flats_cons]
    by_cases hk : t.c0.kind = 3
    · rw [unisF_fun s t ts hk]
      have := unis_len ts (s.emit { op := 5, x := (s.next : Int) }).bump
      have e : (s.emit { op := 5, x := (s.next : Int) }).bump.code.length = s.code.length + 1 := by simp [St.bump, St.emit]
      simp only [hwts, hwt, isF, if_pos hk]
      omega
    · rw [unisF_one s t ts hk]
      have := unis_len ts (oneF 5 6 7 s t)
      have e := one_len 5 6 7 s t hk
      have ha : t.args = [] := by cases t <;> first | rfl | exact absurd rfl hk
      simp only [isF, if_neg hk, ha, sizes, flats, funsC]
      omega
theorem head_len (s : St) (p : Tm × Int) : (headF s p).1.code.length + hwts (headF s p).2 = s.code.length + hwt p.1 := by
  obtain ⟨t, r⟩ := p
  cases t with
  | v n => simp [headF, St.emit, regF_code, hwts, hwt, Tm.args, sizes, flats, funsC]
  | i n => simp [headF, St.emit, hwts, hwt, Tm.args, sizes, flats, funsC]
  | f nm us =>
    rw [headF_fun s _ r rfl]
    have := unis_len (Tm.f nm us).args (s.emit { op := 4, a := r, name := (Tm.f nm us).c0.name, n := (Tm.f nm us).c0.n })
    rw [this]
    simp only [St.emit, hwt, List.length_append, List.length_singleton]
    omega
theorem heads_len : ∀ (f : Nat) (s : St) (row : List (Tm × Int)), rsz row ≤ f → (headsF f s row).code.length = s.code.length + hwts row
  | 0, s, [], _ => by simp [headsF, hwts]
  | 0, s, p :: row, h => by have := p.1.size_pos; simp only [rsz] at h; omega
  | f + 1, s, [], _ => by simp [headsF, hwts]
  | f + 1, s, p :: row, h => by
    rw [headsF_cons]
    have h1 := headF_rsz s p
    have h2 := head_len s p
    rw [heads_len f _ _ (by rw [rsz_append]; simp only [rsz] at h; omega), hwts_append]
    simp only [hwts]
    omega
theorem sets_len (ts : List Tm) (xs : List Int) (s : St) (h : xs.length = ts.length) : (setsF s ts xs).code.length = s.code.length + ts.length := by
  obtain ⟨u, h1, h2, _⟩ := em_sets ts xs s h
  rw [h1, List.length_append, h2]
/-- how much code a structure makes -/
def swt (t : Tm) : Nat := if t.c0.kind = 3 then sizes t.args + 1 + funsC (flats t.args) else 0
def swts : List Tm → Nat
  | [] => 0
  | t :: ts => swt t + swts ts
theorem swts_sum : ∀ ts : List Tm, swts ts + ts.length = sizes ts + funsC (flats ts)
  | [] => rfl
  | t :: ts => by
    have := swts_sum ts
    rw [sizes_cons, size_args, funs_flats_cons]
    simp only [swts, swt, isF, List.length_cons]
    split
    · omega
    · rename_i hk
      have ha : t.args = [] := by cases t <;> first | rfl | exact absurd rfl hk
      simp only [ha, sizes, flats, funsC]
      omega
mutual
theorem build_len : ∀ (t : Tm) (s : St), (buildF s t).1.code.length = s.code.length + swt t
  | .v n, s => rfl
  | .i n, s => rfl
  | .f nm us, s => by
    rw [buildF_fun s _ rfl]
    simp only [Tm.args]
    rw [sets_len us _ _ (argsF_len us s)]
    have h1 := args_len' us s
    have h2 := swts_sum us
    have e : swt (.f nm us) = sizes us + 1 + funsC (flats us) := rfl
    rw [e]
    simp only [St.emit, St.bump, List.length_append, List.length_singleton]
    omega
theorem args_len' : ∀ (ts : List Tm) (s : St), (argsF s ts).1.code.length = s.code.length + swts ts
  | [], s => rfl
  | t :: ts, s => by
    rw [argsF_cons]
    simp only
    rw [args_len' ts, build_len t s]
    simp only [swts]
    omega
end
def lwtC : List Ltl → Nat
  | [] => 0
  | l :: ls => (sizes l.t.args + funsC l.t.flat + 1) + lwtC ls
theorem body_len : ∀ (ls : List Ltl) (s : St), (∀ l ∈ ls, l.t.c0.kind = 3) → (bodyF s ls).code.length = s.code.length + lwtC ls
  | [], s, _ => rfl
  | l :: ls, s, h => by
    have hk := h l (by simp)
    rw [bodyF_cons', body_len ls _ fun x hx => h x (by simp [hx])]
    have h1 := build_len l.t s
    simp only [St.emit, List.length_append, List.length_singleton, lwtC]
    rw [h1]
    have h2 := funs_flat l.t
    simp only [swt, if_pos hk, isF] at h2 ⊢
    omega
theorem hwts_numbered : ∀ (ts : List Tm) (j : Nat), hwts (numbered j ts) + nF' ts = sizes ts + funsC (flats ts)
  | [], _ => rfl
  | t :: ts, j => by
    have := hwts_numbered ts (j + 1)
    have e : hwts (numbered j (t :: ts)) = hwt t + hwts (numbered (j + 1) ts) := rfl
    rw [e, sizes_cons, size_args, funs_flats_cons]
    simp only [hwt, nF']
    omega
/-- CodeMany in plain words -/
theorem code_many (c : Cls) (hk : ∀ l ∈ c.body, l.t.c0.kind = 3) : (compF c).length + nF' c.head.args = sizes c.head.args + funsC (flats c.head.args) + lwtC c.body + 1 := by
  have h1 := body_len c.body (headsF (sizes c.head.args) (startF c.head) (numbered 0 c.head.args)) hk
  have h2 := heads_len (sizes c.head.args) (startF c.head) (numbered 0 c.head.args) (by rw [rsz_numbered]; exact Nat.le_refl _)
  have h3 := hwts_numbered c.head.args 0
  have e : (startF c.head).code.length = 0 := rfl
  rw [compF, List.length_append, h1, h2, e]
  simp
  omega
end Go.Proofs.Ytdeaeiolehglaaa

/- Each register is set once, ahead of where it is used. No program in sight. -/
namespace Go.Proofs.Ytdeaeiolehglaaa
open Go.RowKit

/-- one instruction, the registers below k being set; how many are set behind it -/
def Sets (k : Nat) (i : In) (k' : Nat) : Prop :=
  ((i.op = 1 ∧ i.x = k ∧ 0 ≤ i.a ∧ i.a < k) ∨ (i.op = 5 ∧ i.x = k ∧ i.a = 0) ∨ (i.op = 9 ∧ i.x = k ∧ i.a = 0) ∨ (i.op = 8 ∧ i.a = k ∧ i.x = 0)) ∧ k' = k + 1 ∨
  ((i.op = 2 ∧ 0 ≤ i.x ∧ i.x < k ∧ 0 ≤ i.a ∧ i.a < k) ∨ (i.op = 3 ∧ i.x = 0 ∧ 0 ≤ i.a ∧ i.a < k) ∨ (i.op = 4 ∧ i.x = 0 ∧ 0 ≤ i.a ∧ i.a < k) ∨ (i.op = 12 ∧ i.x = 0 ∧ 0 ≤ i.a ∧ i.a < k) ∨
   (i.op = 6 ∧ 0 ≤ i.x ∧ i.x < k ∧ i.a = 0) ∨ (i.op = 10 ∧ 0 ≤ i.x ∧ i.x < k ∧ i.a = 0) ∨ ((i.op = 7 ∨ i.op = 11 ∨ i.op = 13) ∧ i.x = 0 ∧ i.a = 0)) ∧ k' = k
theorem Sets.gA {k : Nat} {i : In} (h : i.op = 3 ∨ i.op = 4 ∨ i.op = 12) (hx : i.x = 0) (h1 : 0 ≤ i.a) (h2 : i.a < k) : Sets k i k := by
  right; refine ⟨?_, rfl⟩
  rcases h with h | h | h
  · exact .inr (.inl ⟨h, hx, h1, h2⟩)
  · exact .inr (.inr (.inl ⟨h, hx, h1, h2⟩))
  · exact .inr (.inr (.inr (.inl ⟨h, hx, h1, h2⟩)))
theorem Sets.gX {k : Nat} {i : In} (h : i.op = 6 ∨ i.op = 10) (hx : i.a = 0) (h1 : 0 ≤ i.x) (h2 : i.x < k) : Sets k i k := by
  right; refine ⟨?_, rfl⟩
  rcases h with h | h
  · exact .inr (.inr (.inr (.inr (.inl ⟨h, h1, h2, hx⟩))))
  · exact .inr (.inr (.inr (.inr (.inr (.inl ⟨h, h1, h2, hx⟩)))))
theorem Sets.both {k : Nat} {i : In} (h : i.op = 2) (h1 : 0 ≤ i.x) (h2 : i.x < k) (h3 : 0 ≤ i.a) (h4 : i.a < k) : Sets k i k := .inr ⟨.inl ⟨h, h1, h2, h3, h4⟩, rfl⟩
theorem Sets.none {k : Nat} {i : In} (h : i.op = 7 ∨ i.op = 11 ∨ i.op = 13) (hx : i.x = 0) (ha : i.a = 0) : Sets k i k := .inr ⟨.inr (.inr (.inr (.inr (.inr (.inr ⟨h, hx, ha⟩))))), rfl⟩
theorem Sets.newX {k : Nat} {i : In} (h : i.op = 5 ∨ i.op = 9) (hx : i.x = k) (ha : i.a = 0) : Sets k i (k + 1) := by
  left; refine ⟨?_, rfl⟩
  rcases h with h | h
  · exact .inr (.inl ⟨h, hx, ha⟩)
  · exact .inr (.inr (.inl ⟨h, hx, ha⟩))
theorem Sets.newB {k : Nat} {i : In} (h : i.op = 1) (hx : i.x = k) (h1 : 0 ≤ i.a) (h2 : i.a < k) : Sets k i (k + 1) := .inl ⟨.inl ⟨h, hx, h1, h2⟩, rfl⟩
theorem Sets.newA {k : Nat} {i : In} (h : i.op = 8) (ha : i.a = k) (hx : i.x = 0) : Sets k i (k + 1) := .inl ⟨.inr (.inr (.inr ⟨h, ha, hx⟩)), rfl⟩
/-- what an instruction may be, case by case -/
theorem Sets.cases {k k' : Nat} {i : In} (h : Sets k i k') : (k' = k + 1 ∧ i.op = 1 ∧ i.x = k ∧ 0 ≤ i.a ∧ i.a < k) ∨ (k' = k + 1 ∧ (i.op = 5 ∨ i.op = 9) ∧ i.x = k ∧ i.a = 0) ∨ (k' = k + 1 ∧ i.op = 8 ∧ i.a = k ∧ i.x = 0) ∨
    (k' = k ∧ i.op = 2 ∧ 0 ≤ i.x ∧ i.x < k ∧ 0 ≤ i.a ∧ i.a < k) ∨ (k' = k ∧ (i.op = 3 ∨ i.op = 4 ∨ i.op = 12) ∧ i.x = 0 ∧ 0 ≤ i.a ∧ i.a < k) ∨ (k' = k ∧ (i.op = 6 ∨ i.op = 10) ∧ 0 ≤ i.x ∧ i.x < k ∧ i.a = 0) ∨ (k' = k ∧ (i.op = 7 ∨ i.op = 11 ∨ i.op = 13) ∧ i.x = 0 ∧ i.a = 0) := by
  rcases h with ⟨h | h | h | h, e⟩ | ⟨h | h | h | h | h | h | h, e⟩
  · exact .inl ⟨e, h⟩
  · exact .inr (.inl ⟨e, .inl h.1, h.2⟩)
  · exact .inr (.inl ⟨e, .inr h.1, h.2⟩)
  · exact .inr (.inr (.inl ⟨e, h⟩))
  · exact .inr (.inr (.inr (.inl ⟨e, h⟩)))
  · exact .inr (.inr (.inr (.inr (.inl ⟨e, .inl h.1, h.2⟩))))
  · exact .inr (.inr (.inr (.inr (.inl ⟨e, .inr (.inl h.1), h.2⟩))))
  · exact .inr (.inr (.inr (.inr (.inl ⟨e, .inr (.inr h.1), h.2⟩))))
  · exact .inr (.inr (.inr (.inr (.inr (.inl ⟨e, .inl h.1, h.2⟩)))))
  · exact .inr (.inr (.inr (.inr (.inr (.inl ⟨e, .inr h.1, h.2⟩)))))
  · exact .inr (.inr (.inr (.inr (.inr (.inr ⟨e, h⟩)))))
def OnceE : Nat → List In → Nat → Prop
  | k, [], k' => k' = k
  | k, i :: l, k' => ∃ j, Sets k i j ∧ OnceE j l k'
theorem OnceE.append : ∀ {u v : List In} {a b c : Nat}, OnceE a u b → OnceE b v c → OnceE a (u ++ v) c
  | [], v, a, b, c, h, h' => by cases h; exact h'
  | i :: u, v, a, b, c, ⟨j, h1, h2⟩, h' => ⟨j, h1, OnceE.append h2 h'⟩
theorem OnceE.one {i : In} {a b : Nat} (h : Sets a i b) : OnceE a [i] b := ⟨b, h, rfl⟩
theorem OnceE.le : ∀ {u : List In} {a b : Nat}, OnceE a u b → a ≤ b ∧ b ≤ a + u.length
  | [], a, b, h => by cases h; simp
  | i :: u, a, b, ⟨j, h1, h2⟩ => by
    have := OnceE.le h2
    have hj : a ≤ j ∧ j ≤ a + 1 := by
      rcases h1 with ⟨_, rfl⟩ | ⟨_, rfl⟩ <;> simp
    simp; omega
/-- registers of a state lie below the next one -/
def RegLt (s : St) : Prop := ∀ r ∈ s.regs, 0 ≤ r ∧ r < s.next
/-- code that comes to a state, with its registers -/
def On (s s' : St) : Prop := RegLt s → RegLt s' ∧ ∃ u, s'.code = s.code ++ u ∧ OnceE s.next u s'.next
theorem On.refl (s : St) : On s s := fun h => ⟨h, [], by simp, rfl⟩
theorem On.trans {a b c : St} (h : On a b) (h' : On b c) : On a c := fun ha => by
  obtain ⟨hb, u, h1, h2⟩ := h ha
  obtain ⟨hc, v, h3, h4⟩ := h' hb
  exact ⟨hc, u ++ v, by rw [h3, h1, List.append_assoc], h2.append h4⟩
theorem On.le {s s' : St} (h : On s s') (hs : RegLt s) : s.next ≤ s'.next := by
  obtain ⟨_, u, _, h2⟩ := h hs
  exact h2.le.1
theorem regF_cases (s : St) (v : Int) : (∃ r ∈ s.regs, regF s v = (s, r, false)) ∨ regF s v = (s.bump.addv v s.next, (s.next : Int), true) := by
  unfold regF
  cases h : s.regs[(placeI s.vars v).toNat]? with
  | none => exact .inr rfl
  | some r =>
    cases hd : decide (0 ≤ placeI s.vars v) with
    | false => exact .inr rfl
    | true => exact .inl ⟨r, List.mem_of_getElem? h, rfl⟩
theorem regLt_new {s : St} (h : RegLt s) (v : Int) : RegLt (s.bump.addv v s.next) := fun r hr => by
  simp [St.bump, St.addv] at hr ⊢
  rcases hr with hr | rfl
  · have := h r hr; omega
  · omega
theorem on_emit {s : St} {i : In} (h : RegLt s → Sets s.next i s.next) : On s (s.emit i) := fun hs => ⟨hs, [i], rfl, OnceE.one (h hs)⟩
theorem on_new {s : St} {i : In} (h : Sets s.next i (s.next + 1)) : On s (s.emit i).bump := fun hs => ⟨fun r hr => by have := hs r hr; simp [St.bump, St.emit] at hr ⊢; omega, [i], rfl, OnceE.one h⟩
theorem on_bump {s : St} {i : In} (h : Sets s.next i (s.next + 1)) : On s (s.bump.emit i) := fun hs => ⟨fun r hr => by have := hs r hr; simp [St.bump, St.emit] at hr ⊢; omega, [i], rfl, OnceE.one h⟩
theorem on_regA (g : Int) (s : St) (v : Int) (h0 : 0 ≤ g) (h1 : g < s.next) : On s ((regF s v).1.emit { op := if (regF s v).2.2 then 1 else 2, x := (regF s v).2.1, a := g }) := by
  rcases regF_cases s v with ⟨r, hr, he⟩ | he
  · rw [he]
    exact on_emit fun hs => Sets.both rfl (hs r hr).1 (hs r hr).2 h0 h1
  · rw [he]
    intro hs
    exact ⟨regLt_new hs v, [_], rfl, OnceE.one (Sets.newB rfl rfl h0 h1)⟩
theorem on_regX (a b : Int) (s : St) (v : Int) (ha : a = 5 ∨ a = 9) (hb : b = 6 ∨ b = 10) : On s ((regF s v).1.emit { op := if (regF s v).2.2 then a else b, x := (regF s v).2.1 }) := by
  rcases regF_cases s v with ⟨r, hr, he⟩ | he
  · rw [he]
    exact on_emit fun hs => Sets.gX hb rfl (hs r hr).1 (hs r hr).2
  · rw [he]
    intro hs
    exact ⟨regLt_new hs v, [_], rfl, OnceE.one (Sets.newX ha rfl rfl)⟩
theorem on_one5 (s : St) (t : Tm) : On s (oneF 5 6 7 s t) := by
  cases t with
  | v n => exact on_regX 5 6 s n (.inl rfl) (.inl rfl)
  | i n => exact on_emit fun _ => Sets.none (.inl rfl) rfl rfl
  | f nm us => exact On.refl s
theorem on_one9 (s : St) (t : Tm) : On s (oneF 9 10 11 s t) := by
  cases t with
  | v n => exact on_regX 9 10 s n (.inr rfl) (.inr rfl)
  | i n => exact on_emit fun _ => Sets.none (.inr (.inl rfl)) rfl rfl
  | f nm us => exact On.refl s
/-- a row's registers are set -/
def RowLt (row : List (Tm × Int)) (k : Nat) : Prop := ∀ p ∈ row, 0 ≤ p.2 ∧ p.2 < k
theorem RowLt.le {row : List (Tm × Int)} {k j : Nat} (h : RowLt row k) (hk : k ≤ j) : RowLt row j := fun p hp => by have := h p hp; omega
theorem on_unis : ∀ (ts : List Tm) (s : St), On s (unisF s ts).1 ∧ (RegLt s → RowLt (unisF s ts).2 (unisF s ts).1.next)
  | [], s => ⟨On.refl s, fun _ p hp => by simp [unisF] at hp⟩
  | t :: ts, s => by
    by_cases hk : t.c0.kind = 3
    · rw [unisF_fun s t ts hk]
      obtain ⟨h1, h2⟩ := on_unis ts (s.emit { op := 5, x := (s.next : Int) }).bump
      have h0 : On s (s.emit { op := 5, x := (s.next : Int) }).bump := on_new (Sets.newX (.inl rfl) rfl rfl)
      refine ⟨h0.trans h1, fun hs p hp => ?_⟩
      have hs1 := (h0 hs).1
      have hle := h1.le hs1
      rcases List.mem_cons.1 hp with rfl | hp
      · simp [St.bump, St.emit] at hle ⊢; omega
      · exact h2 hs1 p hp
    · rw [unisF_one s t ts hk]
      obtain ⟨h1, h2⟩ := on_unis ts (oneF 5 6 7 s t)
      have h0 := on_one5 s t
      exact ⟨h0.trans h1, fun hs => h2 (h0 hs).1⟩
theorem on_head (s : St) (p : Tm × Int) (hp : 0 ≤ p.2 ∧ p.2 < s.next) : On s (headF s p).1 ∧ (RegLt s → RowLt (headF s p).2 (headF s p).1.next) := by
  obtain ⟨t, r⟩ := p
  cases t with
  | v n => exact ⟨on_regA r s n hp.1 hp.2, fun _ p hp => by simp [headF] at hp⟩
  | i n => exact ⟨on_emit fun _ => Sets.gA (.inl rfl) rfl hp.1 hp.2, fun _ p hp => by simp [headF] at hp⟩
  | f nm us =>
    rw [headF_fun s _ r rfl]
    have h0 : On s (s.emit { op := 4, a := r, name := (Tm.f nm us).c0.name, n := (Tm.f nm us).c0.n }) := on_emit fun _ => Sets.gA (.inr (.inl rfl)) rfl hp.1 hp.2
    obtain ⟨h1, h2⟩ := on_unis (Tm.f nm us).args (s.emit { op := 4, a := r, name := (Tm.f nm us).c0.name, n := (Tm.f nm us).c0.n })
    exact ⟨h0.trans h1, fun hs => h2 (h0 hs).1⟩
theorem on_heads : ∀ (f : Nat) (s : St) (row : List (Tm × Int)), RegLt s → RowLt row s.next → On s (headsF f s row)
  | 0, s, row, _, _ => On.refl s
  | f + 1, s, [], _, _ => On.refl s
  | f + 1, s, p :: row, hs, h => by
    rw [headsF_cons]
    obtain ⟨h1, h2⟩ := on_head s p (h p (by simp))
    have hs1 := (h1 hs).1
    have hle := h1.le hs
    refine h1.trans (on_heads f _ _ hs1 fun q hq => (List.mem_append.1 hq).elim (fun hq => ?_) (h2 hs q))
    have := h q (by simp [hq]); omega
/-- the registers of structures that are made are set -/
def XsLt (ts : List Tm) (xs : List Int) (k : Nat) : Prop := ∀ (j : Nat) t x, ts[j]? = some t → xs[j]? = some x → t.c0.kind = 3 → 0 ≤ x ∧ x < k
theorem on_sets : ∀ (ts : List Tm) (xs : List Int) (s : St), RegLt s → XsLt ts xs s.next → On s (setsF s ts xs)
  | [], xs, s, _, _ => by
    have : setsF s [] xs = s := by cases xs <;> rfl
    rw [this]; exact On.refl s
  | t :: ts, [], s, _, _ => by
    have : setsF s (t :: ts) [] = s := by cases t <;> rfl
    rw [this]; exact On.refl s
  | t :: ts, x :: xs, s, hs, h => by
    by_cases hk : t.c0.kind = 3
    · rw [setsF_fun _ _ _ _ _ hk]
      have hx := h 0 t x rfl rfl hk
      have h0 : On s (s.emit { op := 10, x := x }) := on_emit fun _ => Sets.gX (.inr rfl) rfl hx.1 hx.2
      exact h0.trans (on_sets ts xs _ (h0 hs).1 fun j t' x' h1 h2 h3 => h (j + 1) t' x' h1 h2 h3)
    · rw [setsF_one _ _ _ _ _ hk]
      have h0 := on_one9 s t
      have hle := h0.le hs
      exact h0.trans (on_sets ts xs _ (h0 hs).1 fun j t' x' h1 h2 h3 => by have := h (j + 1) t' x' h1 h2 h3; omega)
mutual
theorem on_build : ∀ (t : Tm) (s : St), RegLt s → On s (buildF s t).1 ∧ (t.c0.kind = 3 → 0 ≤ (buildF s t).2 ∧ (buildF s t).2 < (buildF s t).1.next)
  | .v n, s, _ => ⟨On.refl s, fun h => by simp [Tm.c0] at h⟩
  | .i n, s, _ => ⟨On.refl s, fun h => by simp [Tm.c0] at h⟩
  | .f nm us, s, hs => by
    rw [buildF_fun s _ rfl]
    simp only [Tm.args]
    obtain ⟨h1, h2⟩ := on_args us s hs
    have h0 : On (argsF s us).1 ((argsF s us).1.bump.emit { op := 8, a := (argsF s us).1.next, name := (Tm.f nm us).c0.name, n := (Tm.f nm us).c0.n }) := on_bump (Sets.newA rfl rfl rfl)
    have hs1 := (h1 hs).1
    have hs2 := (h0 hs1).1
    have h3 := on_sets us (argsF s us).2 _ hs2 fun j t x a b c => by
      have := h2 j t x a b c
      simp [St.bump, St.emit]; omega
    refine ⟨h1.trans (h0.trans h3), fun _ => ?_⟩
    have := h3.le hs2
    simp [St.bump, St.emit] at this ⊢
    omega
theorem on_args : ∀ (ts : List Tm) (s : St), RegLt s → On s (argsF s ts).1 ∧ XsLt ts (argsF s ts).2 (argsF s ts).1.next
  | [], s, _ => ⟨On.refl s, fun j t x h => by simp at h⟩
  | t :: ts, s, hs => by
    rw [argsF_cons]
    obtain ⟨h1, h2⟩ := on_build t s hs
    have hs1 := (h1 hs).1
    obtain ⟨h3, h4⟩ := on_args ts _ hs1
    refine ⟨h1.trans h3, fun j t' x h5 h6 h7 => ?_⟩
    have hle := h3.le hs1
    cases j with
    | zero =>
      simp at h5 h6
      subst h5 h6
      have := h2 h7
      simp only; omega
    | succ j => exact h4 j t' x (by simpa using h5) (by simpa using h6) h7
end
theorem on_body : ∀ (ls : List Ltl) (s : St), RegLt s → (∀ l ∈ ls, l.t.c0.kind = 3) → On s (bodyF s ls)
  | [], s, _, _ => On.refl s
  | l :: ls, s, hs, h => by
    rw [bodyF_cons']
    obtain ⟨h1, h2⟩ := on_build l.t s hs
    have hb := h2 (h l (by simp))
    have h0 : On (buildF s l.t).1 ((buildF s l.t).1.emit { op := 12, a := (buildF s l.t).2, neg := l.neg }) := on_emit fun _ => Sets.gA (.inr (.inr rfl)) rfl hb.1 hb.2
    have hs1 := (h1 hs).1
    exact h1.trans (h0.trans (on_body ls _ (h0 hs1).1 fun x hx => h x (by simp [hx])))

/-- an instruction's registers -/
def useX (i : In) : Bool := i.op == 1 || i.op == 2 || i.op == 5 || i.op == 6 || i.op == 9 || i.op == 10
def useA (i : In) : Bool := i.op == 1 || i.op == 2 || i.op == 3 || i.op == 4 || i.op == 8 || i.op == 12
theorem regs1_ge (n : Int) (i : In) : n ≤ regs1 n i ∧ (useX i = true → i.x + 1 ≤ regs1 n i) ∧ (useA i = true → i.a + 1 ≤ regs1 n i) := by
  unfold regs1 useX useA
  refine ⟨?_, ?_, ?_⟩
  · split <;> (try split) <;> (try split) <;> omega
  · simp only [Bool.or_eq_true, beq_iff_eq]
    intro h
    split
    · omega
    · rw [if_pos (by omega)]; omega
  · simp only [Bool.or_eq_true, beq_iff_eq]
    intro h
    split
    · omega
    · rw [if_neg (by omega), if_pos (by omega)]; omega
theorem regs1_le {n : Int} {i : In} {B : Int} (hn : n ≤ B) (hx : useX i = true → i.x < B) (ha : useA i = true → i.a < B) : regs1 n i ≤ B := by
  unfold useX at hx
  unfold useA at ha
  simp only [Bool.or_eq_true, beq_iff_eq] at hx ha
  unfold regs1
  split
  · have := hx (by omega); have := ha (by omega); omega
  · split
    · have := hx (by omega); omega
    · split
      · have := ha (by omega); omega
      · exact hn
theorem regsF_ge : ∀ (l : List In) (n : Int), n ≤ regsF n l ∧ ∀ i ∈ l, (useX i = true → i.x + 1 ≤ regsF n l) ∧ (useA i = true → i.a + 1 ≤ regsF n l)
  | [], n => ⟨Int.le_refl _, by simp⟩
  | i :: l, n => by
    obtain ⟨h1, h2⟩ := regsF_ge l (regs1 n i)
    obtain ⟨h3, h4, h5⟩ := regs1_ge n i
    have e : regsF n (i :: l) = regsF (regs1 n i) l := rfl
    rw [e]
    refine ⟨by omega, fun j hj => ?_⟩
    rcases List.mem_cons.1 hj with rfl | hj
    · exact ⟨fun h => by have := h4 h; omega, fun h => by have := h5 h; omega⟩
    · exact h2 j hj
theorem regsF_le {B : Int} : ∀ (l : List In) (n : Int), n ≤ B → (∀ i ∈ l, (useX i = true → i.x < B) ∧ (useA i = true → i.a < B)) → regsF n l ≤ B
  | [], n, h, _ => h
  | i :: l, n, h, hl => regsF_le l (regs1 n i) (regs1_le h (hl i (by simp)).1 (hl i (by simp)).2) fun j hj => hl j (by simp [hj])
theorem Sets.use {k k' : Nat} {i : In} (h : Sets k i k') : i.x < k' + 1 ∧ i.a < k' + 1 ∧ (useX i = true → i.x < k') ∧ (useA i = true → i.a < k') ∧ k ≤ k' ∧ 0 ≤ i.x ∧ 0 ≤ i.a := by
  unfold useX useA
  simp only [Bool.or_eq_true, beq_iff_eq]
  rcases h.cases with ⟨e, h⟩ | ⟨e, h⟩ | ⟨e, h⟩ | ⟨e, h⟩ | ⟨e, h⟩ | ⟨e, h⟩ | ⟨e, h⟩ <;> subst e <;> refine ⟨?_, ?_, ?_, ?_, ?_, ?_, ?_⟩ <;> omega
theorem OnceE.use : ∀ {u : List In} {a b : Nat}, OnceE a u b → ∀ i ∈ u, (useX i = true → i.x < b) ∧ (useA i = true → i.a < b)
  | i :: u, a, b, ⟨j, h1, h2⟩, x, hx => by
    have hle := OnceE.le h2
    rcases List.mem_cons.1 hx with rfl | hx
    · have := h1.use
      exact ⟨fun h => by have := this.2.2.1 h; omega, fun h => by have := this.2.2.2.1 h; omega⟩
    · exact OnceE.use h2 x hx
/-- CodeOnce in plain words: how many registers are set, of n -/
def Once (n : Nat) : Nat → List In → Prop
  | k, [] => k = n
  | k, i :: l => k ≤ n ∧ (0 ≤ i.x ∧ i.x ≤ n ∧ 0 ≤ i.a ∧ i.a ≤ n) ∧ ∃ j, j ≤ n ∧ Sets k i j ∧ Once n j l
theorem OnceE.once {n : Nat} : ∀ {u : List In} {a b : Nat}, OnceE a u b → b = n → Once n a u
  | [], a, b, h, hn => by cases h; exact hn
  | i :: u, a, b, ⟨j, h1, h2⟩, hn => by
    have hle := OnceE.le h2
    have hu := h1.use
    have hx : i.x ≤ (n : Int) ∧ i.a ≤ (n : Int) := by omega
    exact ⟨by omega, ⟨hu.2.2.2.2.2.1, hx.1, hu.2.2.2.2.2.2, hx.2⟩, j, by omega, h1, OnceE.once h2 hn⟩
/-- each of the row's registers is asked for -/
theorem heads_args : ∀ (row : List (Tm × Int)) (f : Nat) (s : St) (more : List (Tm × Int)), row.length ≤ f → ∀ p ∈ row, ∃ i ∈ (headsF f s (row ++ more)).code, useA i = true ∧ i.a = p.2
  | [], _, _, _, _, p, hp => by simp at hp
  | q :: row, 0, _, _, h, _, _ => by simp at h
  | q :: row, f + 1, s, more, h, p, hp => by
    rw [List.cons_append, headsF_cons, List.append_assoc]
    rcases List.mem_cons.1 hp with rfl | hp
    · have h1 : ∃ i ∈ (headF s p).1.code, useA i = true ∧ i.a = p.2 := by
        obtain ⟨t, r⟩ := p
        cases t with
        | v n =>
          refine ⟨{ op := if (regF s n).2.2 then 1 else 2, x := (regF s n).2.1, a := r }, by simp [headF, St.emit], ?_, rfl⟩
          unfold useA
          simp only
          split <;> simp
        | i n => exact ⟨{ op := 3, a := r, n := n }, by simp [headF, St.emit], rfl, rfl⟩
        | f nm us =>
          rw [headF_fun s _ r rfl]
          obtain ⟨u, hu, _⟩ := em_unis (Tm.f nm us).args (s.emit { op := 4, a := r, name := (Tm.f nm us).c0.name, n := (Tm.f nm us).c0.n })
          exact ⟨{ op := 4, a := r, name := (Tm.f nm us).c0.name, n := (Tm.f nm us).c0.n }, by rw [hu]; simp [St.emit], rfl, rfl⟩
      obtain ⟨i, hi, h2⟩ := h1
      obtain ⟨u, hu, _⟩ := em_heads f (headF s p).1 (row ++ (more ++ (headF s p).2))
      exact ⟨i, by rw [hu]; simp [hi], h2⟩
    · exact heads_args row f _ _ (by simpa using h) p hp
theorem numbered_get : ∀ (ts : List Tm) (j k : Nat) (t : Tm), ts[k]? = some t → (t, ((j + k : Nat) : Int)) ∈ numbered j ts
  | x :: ts, j, 0, t, h => by simp at h; subst h; simp [numbered]
  | x :: ts, j, k + 1, t, h => by
    have := numbered_get ts (j + 1) k t (by simpa using h)
    rw [numbered, show j + (k + 1) = j + 1 + k by omega]
    exact List.mem_cons_of_mem _ this
theorem code_once (c : Cls) (hk : ∀ l ∈ c.body, l.t.c0.kind = 3) : ∃ n : Nat, regsF 0 (compF c) = n ∧ c.head.args.length ≤ n ∧ n ≤ c.head.args.length + (compF c).length ∧ Once n c.head.args.length (compF c) := by
  have hrow : RowLt (numbered 0 c.head.args) (startF c.head).next := fun p hp => by
    have := numbered_mem hp
    simp [startF]; omega
  have hs0 : RegLt (startF c.head) := fun r hr => by simp [startF] at hr
  have h1 := on_heads (sizes c.head.args) (startF c.head) _ hs0 hrow
  have hs1 := (h1 hs0).1
  have h2 := h1.trans (on_body c.body _ hs1 hk)
  obtain ⟨_, u, h3, h4⟩ := h2 hs0
  obtain ⟨k', hk'⟩ : ∃ k', (bodyF (headsF (sizes c.head.args) (startF c.head) (numbered 0 c.head.args)) c.body).next = k' := ⟨_, rfl⟩
  have hcode : compF c = u ++ [lastI c.head] := by rw [compF, h3]; rfl
  rw [hk'] at h4
  have hn0 : (startF c.head).next = c.head.args.length := rfl
  rw [hn0] at h4
  have h5 : OnceE c.head.args.length (compF c) k' := by
    rw [hcode]
    exact h4.append (OnceE.one (Sets.none (.inr (.inr rfl)) rfl rfl))
  have hle := h5.le
  have hge := regsF_ge (compF c) 0
  have hup : regsF 0 (compF c) ≤ k' := regsF_le _ _ (by omega) h5.use
  -- the greatest register that is set stands in the code
  have hlow : (c.head.args.length : Int) ≤ regsF 0 (compF c) := by
    by_cases h0 : c.head.args.length = 0
    · have := hge.1; omega
    · obtain ⟨t, ht⟩ : ∃ t, c.head.args[c.head.args.length - 1]? = some t := ⟨_, List.getElem?_eq_getElem (by omega)⟩
      have hm := numbered_get c.head.args 0 _ t ht
      obtain ⟨i, hi, hu, ha⟩ := heads_args (numbered 0 c.head.args) (sizes c.head.args) (startF c.head) [] (by rw [numbered_len]; exact length_sizes _) _ hm
      rw [List.append_nil] at hi
      obtain ⟨v, hv, _⟩ := em_body c.body (headsF (sizes c.head.args) (startF c.head) (numbered 0 c.head.args))
      have := (hge.2 i (by rw [compF, hv]; simp [hi])).2 hu
      rw [ha] at this
      simp only at this
      omega
  have hset : ∀ {u : List In} {a b : Nat}, OnceE a u b → a < b → ∃ i ∈ u, (useX i = true ∧ i.x = (b : Int) - 1) ∨ (useA i = true ∧ i.a = (b : Int) - 1) := by
    intro u
    induction u with
    | nil => intro a b h hab; cases h; omega
    | cons i u ih =>
      intro a b ⟨j, hj, hu⟩ hab
      by_cases hjb : j < b
      · obtain ⟨i', hi', h⟩ := ih hu hjb
        exact ⟨i', by simp [hi'], h⟩
      · have := (OnceE.le hu).1
        have hb : b = a + 1 := by rcases hj with ⟨_, h⟩ | ⟨_, h⟩ <;> omega
        refine ⟨i, by simp, ?_⟩
        unfold useX useA
        simp only [Bool.or_eq_true, beq_iff_eq]
        rcases hj.cases with ⟨e, h⟩ | ⟨e, h⟩ | ⟨e, h⟩ | ⟨e, h⟩ | ⟨e, h⟩ | ⟨e, h⟩ | ⟨e, h⟩
        · left; omega
        · left; omega
        · right; omega
        all_goals omega
  have heq : regsF 0 (compF c) = k' := by
    by_cases hab : c.head.args.length < k'
    · obtain ⟨i, hi, h⟩ := hset h5 hab
      have := hge.2 i hi
      rcases h with ⟨h6, h7⟩ | ⟨h6, h7⟩
      · have := this.1 h6; omega
      · have := this.2 h6; omega
    · omega
  exact ⟨k', heq, hle.1, hle.2, h5.once rfl⟩
end Go.Proofs.Ytdeaeiolehglaaa
