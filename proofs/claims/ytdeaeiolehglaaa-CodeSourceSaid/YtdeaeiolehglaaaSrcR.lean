/- The walk of the document's Source. -/
import Derived.Test.YtdeaeiolehglaaaLastOp
import Derived.Test.YtdeaeiolehglaaaDefY
import Derived.Test.YtdeaeiolehglaaaDefZ
import Derived.Test.YtdeaeiolehglaaaNum2
import Derived.Test.YtdeaeiolehglaaaMay3
import Derived.Test.YtdeaeiolehglaaaRComp
import Derived.Test.YtdeaeiolehglaaaOkr
import Derived.Test.YtdeaeiolehglaaaHead10
set_option linter.unusedVariables false
set_option linter.unusedSimpArgs false
namespace Go.Proofs.Ytdeaeiolehglaaa
open Go.RowKit

/-- rows of cells, and of literals, do not lie in a clause's block -/
theorem isC_off {w : World} {g n' c' m' d' : Nat} {A' B' : Option Addr} {t : TypeId} (hg : w.heap[g]? = some (.cells #[.slice A' n' c', .slice B' m' d'] t (0, 0))) {A : Option Addr} {n c : Nat} {cs : List C} (h : IsC w A n c cs) : Off A n g := fun hn a ha he => by
  obtain ⟨x, hx⟩ := h.get hn
  obtain ⟨b, off, rfl, hb, _, h0, _⟩ := h.at_ hx
  cases ha
  simp only at he
  subst he
  rw [cells_of hg] at h0
  have : off + 0 * 3 = 0 ∨ off + 0 * 3 = 1 ∨ 2 ≤ off + 0 * 3 := by omega
  rcases this with e | e | e
  · rw [e] at h0; simp at h0
  · rw [e] at h0; simp at h0
  · rw [Array.getElem?_eq_none (by simpa using e)] at h0; cases h0
theorem isLs_off {w : World} {g n' c' m' d' : Nat} {A' B' : Option Addr} {t : TypeId} (hg : w.heap[g]? = some (.cells #[.slice A' n' c', .slice B' m' d'] t (0, 0))) {A : Option Addr} {n c : Nat} {b : List (Bool × List C)} (h : IsLs w A n c b) : Off A n g := fun hn a ha he => by
  obtain ⟨x, hx⟩ := h.get hn
  obtain ⟨b, off, v, rfl, hb, _, ⟨A2, n2, c2, rfl, _⟩, hc⟩ := h.at_ hx
  have h0 := hc 0 _ rfl
  cases ha
  simp only at he
  subst he
  rw [cells_of hg] at h0
  have : off + 0 * 2 + 0 = 0 ∨ off + 0 * 2 + 0 = 1 ∨ 2 ≤ off + 0 * 2 + 0 := by omega
  rcases this with e | e | e
  · rw [e] at h0; simp at h0
  · rw [e] at h0; simp at h0
  · rw [Array.getElem?_eq_none (by simpa using e)] at h0; cases h0
theorem c_keep {w w' : World} {g n' c' m' d' : Nat} {A' B' : Option Addr} {t : TypeId} (hg : w.heap[g]? = some (.cells #[.slice A' n' c', .slice B' m' d'] t (0, 0))) {A : Option Addr} {n c : Nat} {cs : List C} (h : IsC w A n c cs) (hb : But w w' g) : IsC w' A n c cs := ⟨h.sl.but' hb (isC_off hg h), h.wf⟩
theorem ls_keep {w w' : World} {g n' c' m' d' : Nat} {A' B' : Option Addr} {t : TypeId} (hg : w.heap[g]? = some (.cells #[.slice A' n' c', .slice B' m' d'] t (0, 0))) {A : Option Addr} {n c : Nat} {b : List (Bool × List C)} (h : IsLs w A n c b) (hb : But w w' g) : IsLs w' A n c b := by
  have ho := isLs_off hg h
  obtain ⟨vs, h1, h2, h3, h4⟩ := h.rows
  exact ⟨h.len, vs, h1, h2, h3.but' hb ho, fun i x v hx hv => by
    obtain ⟨A2, n2, c2, k1, k2⟩ := h4 i x v hx hv
    exact ⟨A2, n2, c2, k1, c_keep hg k2 hb⟩⟩
theorem but2 (w : World) (g : Nat) (u v : Value) : But w ((w.setCell ⟨g, 0, none⟩ u).setCell ⟨g, 1, none⟩ v) g := (But.set w g 0 u).setB v
theorem set2 {w : World} {b : Nat} {a0 a1 : Value} {t : TypeId} (h : w.heap[b]? = some (.cells #[a0, a1] t (0, 0))) (v0 v1 : Value) : ((w.setCell ⟨b, 0, none⟩ v0).setCell ⟨b, 1, none⟩ v1).heap[b]? = some (.cells #[v0, v1] t (0, 0)) := by
  have h0 := set_block (k := 0) h v0
  have h1 := set_block (k := 1) h0 v1
  simpa using h1
theorem numR_len (t : List C) (b : List (Bool × List C)) : (numR (t, b)).1.length = t.length ∧ (numR (t, b)).2.length = b.length ∧ ∀ x ∈ (numR (t, b)).2, ∃ y ∈ b, x.2.length = y.2.length := by
  unfold numR
  refine ⟨by simp [turn_len], by simp, fun x hx => ?_⟩
  obtain ⟨y, hy, rfl⟩ := List.mem_map.1 hx
  exact ⟨y, hy, by simp [turn_len]⟩
set_option maxRecDepth 100000 in
set_option maxHeartbeats 8000000 in
theorem rsource_no (A : Option Addr) (n cap : Nat) (l : List In) (w : World) (h : IsK w A n cap l) (hn : n ≤ 400) (hok : okRegs l) (N : Nat) (hN : regsF 0 l = N) (hno : ∀ c r, IsCls c r → compF c ≠ l)
    (hbad : ∀ e, l[n - 1]? = some e → ¬ endD l N e) : Calls Try.prog 21 #[.slice A n cap] w (RetDoc w l) := by
  have hreg := fun w' (hb : Below w.heap.size w w') => rRegs_any A n cap l w' (IsG.below keepsIn h hb) (by omega) hok
  rw [hN] at hreg
  have Hreg := Lib.hid hreg
  have Hno := Lib.hid hno
  have hll := h.len
  rcases Nat.eq_zero_or_pos n with h0 | hpos
  · subst h0
    clear hbad hreg hno
    go_enter Try.func21, Try.ntmps21
    go_wp2_with fail
    refine (Hreg.out _ ((Below.refl _ _).alloc (Nat.le_refl _) _)).mono ?_
    rintro q w1 ⟨rfl, hb1⟩
    have hb1' : Below w.heap.size w w1 := ((Below.refl _ _).alloc (Nat.le_refl _) _).trans (hb1.mono (by simp))
    have x2 := (hb1.block w.heap.size (by simp)).trans (alloc_at (w := w) (o := .cells #[.slice none 0 0, .slice none 0 0] 25) rfl)
    obtain ⟨z0, z1, zl⟩ := open2 x2
    have zf0 := frozen_of x2 0
    have zf1 := frozen_of x2 1
    go_wp2_with fail
    refine bodyPost_ret (v := .tuple #[.agg #[.slice none 0 0, .slice none 0 0], .bool false]) (by simp [results, Try.results21, go_sem, *]) rfl ?_
    exact .inl ⟨rfl, Hno.out, by first | exact hb1' | exact Below.setCell (Below.setCell hb1' (Nat.le_refl _) _) (Nat.le_refl _) _⟩
  · obtain ⟨e, he⟩ : ∃ e, l[n - 1]? = some e := ⟨_, List.getElem?_eq_getElem (by omega)⟩
    have hb := hbad e he
    obtain ⟨b, off, rfl, hbb, hw, c0', c1, c2, c3, c4', c5⟩ := h.at' he
    have hcap := h.cap_le
    obtain ⟨m, rfl⟩ : ∃ m, n = m + 1 := ⟨n - 1, by omega⟩
    rw [Nat.add_sub_cancel] at c0' c4'
    have hwn := hw.n
    have hne : ((m + 1 : Nat) : Int) - 1 = m := by omega
    unfold endD at hb
    rw [hll] at hb
    clear he hbad hreg hno c1 c2 c3 c5 hok h
    by_cases q0 : m + 1 + 6 < N
    · have q0' : ((m : Int) + 1 + 6 < (N : Int)) := by omega
      have q0'' : decide ((m : Int) + 1 + 6 < (N : Int)) = true := by simpa using q0'
      clear hb
      go_enter Try.func21, Try.ntmps21
      go_wp2_with fail
      refine (Hreg.out _ ((Below.refl _ _).alloc (Nat.le_refl _) _)).mono ?_
      rintro q w1 ⟨rfl, hb1⟩
      have hb1' : Below w.heap.size w w1 := ((Below.refl _ _).alloc (Nat.le_refl _) _).trans (hb1.mono (by simp))
      have x2 := (hb1.block w.heap.size (by simp)).trans (alloc_at (w := w) (o := .cells #[.slice none 0 0, .slice none 0 0] 25) rfl)
      obtain ⟨z0, z1, zl⟩ := open2 x2
      have zf0 := frozen_of x2 0
      have zf1 := frozen_of x2 1
      have c0 := (hb1'.cell (p := ⟨b, off + m * 6, none⟩) hbb).trans c0'
      have c4 := (hb1'.cell (p := ⟨b, off + m * 6 + 4, none⟩) hbb).trans c4'
      go_wp2_with fail
      refine bodyPost_ret (v := .tuple #[.agg #[.slice none 0 0, .slice none 0 0], .bool false]) (by simp [results, Try.results21, go_sem, *]) rfl ?_
      exact .inl ⟨rfl, Hno.out, by first | exact hb1' | exact Below.setCell (Below.setCell hb1' (Nat.le_refl _) _) (Nat.le_refl _) _⟩
    · have q0' : ¬ ((m : Int) + 1 + 6 < (N : Int)) := by omega
      have q0'' : decide ((m : Int) + 1 + 6 < (N : Int)) = false := by simpa using q0'
      by_cases q1 : e.op = 13
      · have q1' : (e.op == 13) = true := by simpa using q1
        have q1'' : (e.op != 13) = false := by simpa using q1
        by_cases q2 : e.n < 0
        · have q2' : decide (e.n < 0) = true := by simpa using q2
          clear hb
          go_enter Try.func21, Try.ntmps21
          go_wp2_with fail
          refine (Hreg.out _ ((Below.refl _ _).alloc (Nat.le_refl _) _)).mono ?_
          rintro q w1 ⟨rfl, hb1⟩
          have hb1' : Below w.heap.size w w1 := ((Below.refl _ _).alloc (Nat.le_refl _) _).trans (hb1.mono (by simp))
          have x2 := (hb1.block w.heap.size (by simp)).trans (alloc_at (w := w) (o := .cells #[.slice none 0 0, .slice none 0 0] 25) rfl)
          obtain ⟨z0, z1, zl⟩ := open2 x2
          have zf0 := frozen_of x2 0
          have zf1 := frozen_of x2 1
          have c0 := (hb1'.cell (p := ⟨b, off + m * 6, none⟩) hbb).trans c0'
          have c4 := (hb1'.cell (p := ⟨b, off + m * 6 + 4, none⟩) hbb).trans c4'
          go_wp2_with fail
          refine bodyPost_ret (v := .tuple #[.agg #[.slice none 0 0, .slice none 0 0], .bool false]) (by simp [results, Try.results21, go_sem, *]) rfl ?_
          exact .inl ⟨rfl, Hno.out, by first | exact hb1' | exact Below.setCell (Below.setCell hb1' (Nat.le_refl _) _) (Nat.le_refl _) _⟩
        · have q2' : decide (e.n < 0) = false := by simpa using q2
          have q3 : (N : Int) < e.n := by
            rcases Int.lt_or_le (N : Int) e.n with h | h
            · exact h
            · exact absurd ⟨by omega, q1, by omega, h⟩ hb
          have q3' : decide ((N : Int) < e.n) = true := by simpa using q3
          clear hb
          go_enter Try.func21, Try.ntmps21
          go_wp2_with fail
          refine (Hreg.out _ ((Below.refl _ _).alloc (Nat.le_refl _) _)).mono ?_
          rintro q w1 ⟨rfl, hb1⟩
          have hb1' : Below w.heap.size w w1 := ((Below.refl _ _).alloc (Nat.le_refl _) _).trans (hb1.mono (by simp))
          have x2 := (hb1.block w.heap.size (by simp)).trans (alloc_at (w := w) (o := .cells #[.slice none 0 0, .slice none 0 0] 25) rfl)
          obtain ⟨z0, z1, zl⟩ := open2 x2
          have zf0 := frozen_of x2 0
          have zf1 := frozen_of x2 1
          have c0 := (hb1'.cell (p := ⟨b, off + m * 6, none⟩) hbb).trans c0'
          have c4 := (hb1'.cell (p := ⟨b, off + m * 6 + 4, none⟩) hbb).trans c4'
          go_wp2_with fail
          refine bodyPost_ret (v := .tuple #[.agg #[.slice none 0 0, .slice none 0 0], .bool false]) (by simp [results, Try.results21, go_sem, *]) rfl ?_
          exact .inl ⟨rfl, Hno.out, by first | exact hb1' | exact Below.setCell (Below.setCell hb1' (Nat.le_refl _) _) (Nat.le_refl _) _⟩
      · have q1' : (e.op == 13) = false := by simpa using q1
        have q1'' : (e.op != 13) = true := by simpa using q1
        clear hb
        go_enter Try.func21, Try.ntmps21
        go_wp2_with fail
        refine (Hreg.out _ ((Below.refl _ _).alloc (Nat.le_refl _) _)).mono ?_
        rintro q w1 ⟨rfl, hb1⟩
        have hb1' : Below w.heap.size w w1 := ((Below.refl _ _).alloc (Nat.le_refl _) _).trans (hb1.mono (by simp))
        have x2 := (hb1.block w.heap.size (by simp)).trans (alloc_at (w := w) (o := .cells #[.slice none 0 0, .slice none 0 0] 25) rfl)
        obtain ⟨z0, z1, zl⟩ := open2 x2
        have zf0 := frozen_of x2 0
        have zf1 := frozen_of x2 1
        have c0 := (hb1'.cell (p := ⟨b, off + m * 6, none⟩) hbb).trans c0'
        have c4 := (hb1'.cell (p := ⟨b, off + m * 6 + 4, none⟩) hbb).trans c4'
        go_wp2_with fail
        refine bodyPost_ret (v := .tuple #[.agg #[.slice none 0 0, .slice none 0 0], .bool false]) (by simp [results, Try.results21, go_sem, *]) rfl ?_
        exact .inl ⟨rfl, Hno.out, by first | exact hb1' | exact Below.setCell (Below.setCell hb1' (Nat.le_refl _) _) (Nat.le_refl _) _⟩
set_option maxRecDepth 100000 in
set_option maxHeartbeats 8000000 in
theorem rsource_main (A : Option Addr) (n cap : Nat) (l : List In) (w : World) (h : IsK w A n cap l) (hn : n ≤ 400) (hok : okRegs l) (N : Nat) (hN : regsF 0 l = N) (e : In) (he : l[n - 1]? = some e) (hE : endD l N e) : Calls Try.prog 21 #[.slice A n cap] w (RetDoc w l) := by
  have hreg := fun w' (hb : Below w.heap.size w w') => rRegs_any A n cap l w' (IsG.below keepsIn h hb) (by omega) hok
  rw [hN] at hreg
  have hll := h.len
  have hdefs := fun w' (hb : Below w.heap.size w w') => rdefs_any A n cap l N w' (IsG.below keepsIn h hb) (by omega) (by have := hE.1; omega)
  obtain ⟨D, hDe⟩ : ∃ D, defsF l N = D := ⟨_, rfl⟩
  have hDlen : D.length = N := by rw [← hDe]; exact defs_len l N
  have hDp : ∀ y ∈ D, y.parts.length ≤ 4000 := fun y hy => by
    rw [← hDe] at hy
    have := defs_parts l N y hy
    omega
  obtain ⟨hE1, hE2, hE3, hE4⟩ := hE
  rw [hll] at hE1
  have hpos : 0 < n := by have := (List.getElem?_eq_some_iff.1 he).1; omega
  obtain ⟨nh, hnh⟩ : ∃ nh : Nat, e.n = nh := ⟨e.n.toNat, by omega⟩
  have hnN : nh ≤ N := by omega
  have hcand : candD l N e = (⟨3, e.name, (nh : Int)⟩ :: tHead D nh 0, tBody D l) := by
    unfold candD
    rw [hnh, hDe, Int.toNat_natCast, Nat.min_eq_left hnN]
  have he' : l[l.length - 1]? = some e := by rw [hll]; exact he
  have hcv := cand_vars l N e
  obtain ⟨hcl1, hcl2, hcl3⟩ := cand_len l N e
  have hmay := @doc_may l e N he' hN
  have hne := fun (c' : Cls) (k : IsCls c' (numR (candD l N e))) (k' : compF c' ≠ l) => doc_ne he' hN k k'
  have heq := fun (c' : Cls) (k : IsCls c' (numR (candD l N e))) (k' : compF c' = l) => doc_eq he' hN k k'
  rw [hcand] at hcv hcl1 hcl2 hcl3 hmay hne heq
  simp only at hcv hcl1 hcl2 hcl3
  rw [hll] at hcl2
  obtain ⟨H, hH⟩ : ∃ H, (⟨3, e.name, (nh : Int)⟩ :: tHead D nh 0 : List C) = H := ⟨_, rfl⟩
  obtain ⟨Bd, hBd⟩ : ∃ Bd, tBody D l = Bd := ⟨_, rfl⟩
  rw [hH, hBd] at hcv hmay hne heq
  rw [hH] at hcl1
  rw [hBd] at hcl2 hcl3
  rw [hDe] at hdefs
  have Hreg := Lib.hid hreg
  have Hdefs := Lib.hid hdefs
  have Hmay := Lib.hid hmay
  have Hne := Lib.hid hne
  have Heq := Lib.hid heq
  have Hcv := Lib.hid hcv
  have Hcl1 := Lib.hid hcl1
  have Hcl2 := Lib.hid hcl2
  have Hcl3 := Lib.hid hcl3
  have HH := Lib.hid hH
  have HBd := Lib.hid hBd
  have Hll := Lib.hid hll
  have HDlen := Lib.hid hDlen
  have HDp := Lib.hid hDp
  have HK := Lib.hid h
  obtain ⟨b, off, rfl, hbb, hw, c0', c1', c2', c3', c4', c5'⟩ := h.at' he
  have hcap := h.cap_le
  obtain ⟨m, rfl⟩ : ∃ m, n = m + 1 := ⟨n - 1, by omega⟩
  rw [Nat.add_sub_cancel] at c0' c1' c2' c3' c4' c5'
  rw [hnh] at c4'
  rw [hE2] at c0'
  have hm1 : ((m + 1 : Nat) : Int) - 1 = m := by omega
  have p1 : ((m : Int) + 1 == 0) = false := by simp; omega
  have p2 : decide ((4000 : Int) < (m : Int) + 1) = false := by simp; omega
  have q0 : decide ((m : Int) + 1 + 6 < (N : Int)) = false := by simp; omega
  have q0' : ¬ ((m : Int) + 1 + 6 < (N : Int)) := by omega
  have q2 : decide ((nh : Int) < 0) = false := by simp
  have q3 : decide ((N : Int) < (nh : Int)) = false := by simpa using hnN
  have q3' : ¬ (N : Int) < (nh : Int) := by omega
  have q3'' : ¬ N < nh := by omega
  have hwname := hw.name
  clear hreg hdefs hmay hne heq hcv hcl1 hcl2 hcl3 hH hBd hll hDlen hDp hE1 hE2 hE3 hE4 he he' hcand hDe hN hok h hnh hw
  go_enter Try.func21, Try.ntmps21
  go_wp2_with fail
  refine (Hreg.out _ ((Below.refl _ _).alloc (Nat.le_refl _) _)).mono ?_
  rintro q w1 ⟨rfl, hb1⟩
  have hb1' : Below w.heap.size w w1 := ((Below.refl _ _).alloc (Nat.le_refl _) _).trans (hb1.mono (by simp))
  have x2 := (hb1.block w.heap.size (by simp)).trans (alloc_at (w := w) (o := .cells #[.slice none 0 0, .slice none 0 0] 25) rfl)
  obtain ⟨z0, z1, zl⟩ := open2 x2
  have zf0 := frozen_of x2 0
  have zf1 := frozen_of x2 1
  have c0 := (hb1'.cell (p := ⟨b, off + m * 6, none⟩) hbb).trans c0'
  have c4 := (hb1'.cell (p := ⟨b, off + m * 6 + 4, none⟩) hbb).trans c4'
  have c1 := (hb1'.cell (p := ⟨b, off + m * 6 + 1, none⟩) hbb).trans c1'
  have c2 := (hb1'.cell (p := ⟨b, off + m * 6 + 2, none⟩) hbb).trans c2'
  have c3 := (hb1'.cell (p := ⟨b, off + m * 6 + 3, none⟩) hbb).trans c3'
  have c5 := (hb1'.cell (p := ⟨b, off + m * 6 + 5, none⟩) hbb).trans c5'
  clear Hreg hb1
  go_wp2_with fail
  refine (Hdefs.out _ hb1').mono ?_
  rintro q w3 ⟨AD, nd, cd, rfl, hD3, hb3⟩
  have hb3' := hb1'.trans (hb3.mono hb1'.size)
  have x3 := (hb3.block w.heap.size zl).trans x2
  have hbb1 : b < w1.heap.size := Nat.lt_of_lt_of_le hbb hb1'.size
  replace c0 := (hb3.cell (p := ⟨b, off + m * 6, none⟩) hbb1).trans c0
  replace c1 := (hb3.cell (p := ⟨b, off + m * 6 + 1, none⟩) hbb1).trans c1
  replace c2 := (hb3.cell (p := ⟨b, off + m * 6 + 2, none⟩) hbb1).trans c2
  replace c3 := (hb3.cell (p := ⟨b, off + m * 6 + 3, none⟩) hbb1).trans c3
  replace c4 := (hb3.cell (p := ⟨b, off + m * 6 + 4, none⟩) hbb1).trans c4
  replace c5 := (hb3.cell (p := ⟨b, off + m * 6 + 5, none⟩) hbb1).trans c5
  obtain ⟨nd', hnd⟩ : ∃ nd', nd' = nd := ⟨_, rfl⟩
  have hndN : nd = N := by rw [← hD3.len]; exact HDlen.out
  subst hndN
  clear hnd z0 z1 zf0 zf1 x2 Hdefs hb3 hb1'
  go_upto_region 7 with fail
  refine on_world (fun V => Below w3.heap.size w3 V ∧ V.heap[w3.heap.size]? = some (.cells #[.int .i64 13, .int .i64 e.x, .int .i64 e.a, .string e.name, .int .i64 (nh : Int), .bool e.neg] 48 (0, 0)) ∧ V.heap[w3.heap.size + 1]? = some (.cells #[.int .i64 3, .string e.name, .int .i64 (nh : Int)] 45 (0, 0)) ∧
      V.heap[w3.heap.size + 1 + 1]? = some (.cells #[.slice (some ⟨w3.heap.size + 1, 0, none⟩) 1 1, .slice none 0 0] 25 (0, 0)))
    ⟨(((Below.refl _ _).alloc (Nat.le_refl _) _).alloc (by simp) _).alloc (by simp; omega) _, (alloc_past (by simp; omega)).trans ((alloc_past (by simp)).trans (alloc_at rfl)), (alloc_past (by simp)).trans (alloc_at (by simp)), alloc_at (by simp)⟩ ?_
  rintro V ⟨hbV, xi, xh, xc⟩
  obtain ⟨gi, hgi⟩ : ∃ gi, gi = w3.heap.size := ⟨_, rfl⟩
  obtain ⟨gh, hgh⟩ : ∃ gh, gh = w3.heap.size + 1 := ⟨_, rfl⟩
  obtain ⟨gc, hgc⟩ : ∃ gc, gc = w3.heap.size + 1 + 1 := ⟨_, rfl⟩
  rw [← hgc] at xc ⊢
  rw [← hgh] at xh xc
  rw [← hgi] at xi ⊢
  have x2 : V.heap[w.heap.size]? = _ := (hbV.block w.heap.size (block_lt x3)).trans x3
  have hg1 : gi < gh := by omega
  have hg2 : gh < gc := by omega
  have hg0 : w.heap.size < gi := by have := block_lt x3; omega
  have hg3 : w3.heap.size ≤ gi := by omega
  have hgcV := block_lt xc
  have hDV := hD3.below (keepsDf AnyQ) hbV
  have hbwV : Below w.heap.size w V := hb3'.trans (hbV.mono hb3'.size)
  have hDg : ∀ wr, Below gi V wr → IsG (RDf AnyQ) 4 wr AD nd cd D := fun wr hb => hD3.below (keepsDf AnyQ) (hbV.trans (hb.mono hg3))
  have hbel3 : ∀ wr, Below gi V wr → Below w3.heap.size w3 wr := fun wr hb => hbV.trans (hb.mono hg3)
  have Hbel3 := Lib.hid hbel3
  have HD3 := Lib.hid hD3
  have hbgi : b < gi := by omega
  have hg4 : gi = w3.heap.size := hgi
  have Hg4 := Lib.hid hg4
  have hKg : ∀ wr, Below gi V wr → IsK wr (some ⟨b, off, none⟩) (m + 1) cap l := fun wr hb => IsG.below keepsIn HK.out (hbwV.trans (hb.mono (Nat.le_of_lt hg0)))
  have HDg := Lib.hid hDg
  have HKg := Lib.hid hKg
  have ht0 : Tail V gh 45 3 (some ⟨gh, 0, none⟩) 1 1 (flatC [⟨3, e.name, (nh : Int)⟩]) := tail_lit xh (Nat.le_refl _) rfl (by simp [maxLen])
  have hwf0 : (⟨3, e.name, (nh : Int)⟩ : C).wf := ⟨i64_3, i64_nat (by omega), hwname⟩
  have hnd6 : nd ≤ 406 := by omega
  have HbwV := Lib.hid hbwV
  clear hgi hgh hgc hbV hbwV hDV hDg hKg hD3 hbel3 hg4 hb3' x3 c0 c1 c2 c3 c4 c5 c0' c1' c2' c3' c4' c5' xh p1 p2 q0 q0' q2 q3 q3' q3'' hwname hbb hbb1 zl HK hpos
  go_wp2
  go_loopw [8] (fun iv wr => ∃ (k n5 c5 : Nat) (A5 : Option Addr) (ts : List C), k ≤ nh ∧ iv = .int .i64 k ∧ wr.heap[gc]? = some (.cells #[.slice A5 n5 c5, .slice none 0 0] 25 (0, 0)) ∧ Tail wr gh 45 3 A5 n5 c5 (flatC ts) ∧ (∀ c ∈ ts, c.wf) ∧ Hid (ts.length = n5) ∧ Hid (ts ++ tHead D (nh - k) k = H) ∧ Hid (n5 ≤ 1 + 200 * k) ∧ Below gi V wr ∧
      wr.heap[gi]? = some (.cells #[.int .i64 13, .int .i64 e.x, .int .i64 e.a, .string e.name, .int .i64 (nh : Int), .bool e.neg] 48 (0, 0)) ∧ V.heap.size ≤ wr.heap.size ∧ (∀ a, A5 = some a → gh ≤ a.block ∧ a.block ≠ gc ∧ a.block < wr.heap.size)) (fun iv _ => nh - (intOf iv).toNat)
  case atStart => exact ⟨0, 1, 1, _, [⟨3, e.name, (nh : Int)⟩], Nat.zero_le _, rfl, xc, ht0, fun c hc => by simp at hc; subst hc; exact hwf0, Lib.hid rfl, Lib.hid HH.out, Lib.hid (by omega), Below.refl _ _, xi, Nat.le_refl _, fun a ha => by cases ha; exact ⟨Nat.le_refl _, by simp only; omega, by simp only; omega⟩⟩
  case round =>
    clear ht0 hwf0 xi xc
    obtain ⟨k, n5, c5, A5, ts, hk, rfl, q7, ht, hwt, htl, hres, hbd, hbr, qi, hsr, hA5⟩ := hrel
    have y4 := cells_of qi 4
    simp at y4
    have hgcr := block_lt q7
    by_cases hlt : k < nh
    · have hDr := HDg.out wr hbr
      obtain ⟨z, hz⟩ := hDr.get (show k < nd by omega)
      obtain ⟨b2, o2, P2, m2, q2, rfl, hb2, hP2, hzw, r0, r1, r2, r3⟩ := df_at hDr hz
      have hcapD := hDr.cap_le
      have hgd : getD' D (k : Int) = z := by unfold getD'; rw [Int.toNat_natCast, hz]; rfl
      have hth : tHead D (nh - k) k = toldK D 400 400 z k ++ tHead D (nh - (k + 1)) (k + 1) := by
        rw [show nh - k = (nh - (k + 1)) + 1 by omega, tHead, hgd]
      have Hth := Lib.hid hth
      have htold := fun (w' : World) (h1 : Below wr.heap.size wr w') => told_any 400 _ nd cd D z P2 m2 q2 (k : Int) 400 w' (hDr.below (keepsDf _) h1) (hP2.below keepsPt h1) hzw HDp.out (HDp.out z (List.mem_of_getElem? hz)) (by omega) (by omega) (by omega) (by omega) (i64_nat (by omega))
      have Htold := Lib.hid htold
      have htlen := toldK_len D 400 400 z k
      obtain ⟨T, hT⟩ : ∃ T, toldK D 400 400 z k = T := ⟨_, rfl⟩
      have hHth := Hth.out
      rw [hT] at hHth htlen htold
      have Htold := Lib.hid htold
      have Hth := Lib.hid hHth
      have hkn : k < nd := by omega
      have hki : (k : Int) < (nd : Int) := by omega
      have hkh : (k : Int) < (nh : Int) := by omega
      have hn5 : n5 ≤ 100000 := by have := hbd.out; omega
      have Hn5 := Lib.hid hn5
      have y0 := cells_of q7 0
      have yf0 := frozen_of q7 0
      simp at y0
      have hghr : gh ≤ wr.heap.size := by omega
      clear hDr hz hgd hth htold hHth hP2 hT hn5
      go_upto_region 10 with fail
      go_region_law (first
          | (refine step_append_any (xs := flatC ts) (by rfl) (.tmp 90) (.tmp 97) 22 (by rfl) gh 45 Try.underlying22 infoC (by rfl) (by omega) (by rfl) ?_ ?_ (by rfl) ?_ (oneC T) ?_ (by omega) ?_ ?_ ?_; (focus (exact ht.below hb6')); (focus (exact fun b hb => Nat.lt_of_lt_of_le (hA5 b hb).2.2 hb6'.size)); (focus (exact hI6.sl)); (focus (have := Hn5.out; have := hI6.len; omega)); (focus (exact Nat.le_trans hghr hb6'.size)); (focus (exact ht.none_cap)); intro A7 c7 w7 ht7 hbn7 hap7; have y7 := (hap7.old gc (Nat.lt_of_lt_of_le hgcr hb6'.size) (fun a ha => (hA5 a ha).2.1)).trans ((hb6'.block gc hgcr).trans q7); have k7 := cells_of y7 0; have f7 := frozen_of y7 0; have l7 := block_lt y7; simp at k7)
          | (go_simp; go_at_call 42; refine (Htold.out _ (Below.refl _ _).drew).mono ?_; rintro e6 w6 ⟨A6, n6, c6, rfl, hI6, hnw6, hb6⟩; have hb6' : Below wr.heap.size wr w6 := ((Below.refl _ _).drew).trans hb6; have y6 := (hb6'.block gc hgcr).trans q7; have k6 := cells_of y6 0; have f6 := frozen_of y6 0; have l6 := block_lt y6; simp at k6)
          | fail)
      all_goals
        have hn6 := hI6.len
        have hs6 := hb6'.size
        have hz7 := set_block (k := 0) y7 (.slice A7 (n5 + n6) c7)
        simp at hz7
        have hA7 : ∀ a, A7 = some a → gh ≤ a.block ∧ a.block ≠ gc ∧ a.block < w7.heap.size := fun a ha => by
          obtain ⟨p1, p2⟩ := hap7.blk a ha
          rcases p2 with ⟨a0, h0, he⟩ | h2
          · have := hA5 a0 h0
            rw [he]
            exact ⟨this.1, this.2.1, by rw [← he]; exact p1⟩
          · exact ⟨by omega, by omega, p1⟩
        have htY : Tail (w7.setCell ⟨gc, 0, none⟩ (.slice A7 (n5 + n6) c7)) gh 45 3 A7 (n5 + n6) c7 (flatC ts ++ flatC T) := ht7.at_ fun a ha => set_other (hA7 a ha).2.1 _
        have hgig : gi ≤ gc := by omega
        have hbY : Below gi V (w7.setCell ⟨gc, 0, none⟩ (.slice A7 (n5 + n6) c7)) := Below.setCell ((hbr.trans (hb6'.mono (by omega))).trans (hbn7.mono (Nat.le_of_lt hg1))) hgig _
        have hgir := block_lt qi
        have qiY : (w7.setCell ⟨gc, 0, none⟩ (.slice A7 (n5 + n6) c7)).heap[gi]? = _ := (set_other (by omega) _).trans ((hap7.old gi (Nat.lt_of_lt_of_le hgir hs6) (fun a ha => by have := (hA5 a ha).1; omega)).trans ((hb6'.block gi hgir).trans qi))
        have hszY : V.heap.size ≤ (w7.setCell ⟨gc, 0, none⟩ (.slice A7 (n5 + n6) c7)).heap.size := by have := hap7.size; simp; omega
        go_wp2_with fail
        go_roundw
        case rel => exact ⟨k + 1, n5 + n6, c7, A7, ts ++ T, by omega, by go_num, hz7, by rw [flatC_append]; exact htY, fun c hc => (List.mem_append.1 hc).elim (hwt c) (hI6.wf c), Lib.hid (by rw [List.length_append, htl.out, hn6]), Lib.hid (by have := hres.out; rw [Hth.out] at this; rw [List.append_assoc]; exact this), Lib.hid (by have := hbd.out; omega), hbY, qiY, hszY, fun a ha => by have := hA7 a ha; exact ⟨this.1, this.2.1, by simpa using this.2.2⟩⟩
        case measure => simp [intOf]; omega
    · have hkn : k = nh := by omega
      subst hkn
      have hH2 : ts = H := by
        have := hres.out
        rw [Nat.sub_self, tHead, List.append_nil] at this
        exact this
      have hI5 : IsC wr A5 n5 c5 ts := ⟨ht.sl (by omega), hwt⟩
      have hn5 : n5 ≤ 100000 := by have := hbd.out; omega
      have hA5' : ∀ a, A5 = some a → a.block ≠ gc := fun a ha => (hA5 a ha).2.1
      obtain ⟨w7, hw7⟩ : ∃ w7, w7 = wr := ⟨_, rfl⟩
      obtain ⟨base2, hbase2⟩ : ∃ base2, base2 = w7.heap.size := ⟨_, rfl⟩
      have hnk : ¬ (k : Int) < (k : Int) := by omega
      have HbrW := Lib.hid hbr
      have HH2 := Lib.hid hH2
      have HA5 := Lib.hid hA5
      have hf0 : Far none A5 n5 := fun a ha => by cases ha
      rw [← hw7] at q7 hI5 hbr HbrW qi y4 hgcr
      rw [← hw7]
      clear ht hwt htl hres hbd hA5 hsr HH hw7 hH2
      go_wp2
      go_loopw [9] (fun iv wr => ∃ (k2 mm d9 : Nat) (B9 : Option Addr) (bs : List (Bool × List C)), k2 ≤ m + 1 ∧ iv = .int .i64 k2 ∧ wr.heap[gc]? = some (.cells #[.slice A5 n5 c5, .slice B9 mm d9] 25 (0, 0)) ∧ IsC wr A5 n5 c5 ts ∧ Far B9 A5 n5 ∧ TailG (RLN gc base2 B9) 2 wr base2 55 B9 mm d9 bs ∧ Hid (bs ++ tBody D (l.drop k2) = Bd) ∧ mm ≤ k2 ∧
          (∀ a, B9 = some a → base2 ≤ a.block ∧ a.block < wr.heap.size) ∧ Below gi V wr ∧ base2 ≤ wr.heap.size) (fun iv _ => (m + 1) - (intOf iv).toNat)
      case atStart => exact ⟨0, 0, 0, none, [], Nat.zero_le _, rfl, q7, hI5, hf0, TailG.nil _ _ _ _, Lib.hid HBd.out, Nat.le_refl _, (fun a ha => by cases ha), hbr, by omega⟩
      case round =>
        clear q7 hI5 hbr hf0 qi y4
        obtain ⟨k2, mm, d9, B9, bs, hk2, rfl, q7, hI5, hf9, hT9, hres, hmm, hB9, hbr, hsr⟩ := hrel
        by_cases hlt : k2 < m + 1
        · have hKr := HKg.out wr hbr
          obtain ⟨i, hik⟩ := hKr.get hlt
          obtain ⟨b1, o1, hA1, hb1, hiw, i0, i1, i2, i3, i4, i5⟩ := hKr.at' hik
          injection hA1 with hA1
          injection hA1 with e1 e2
          subst e1 e2
          have hd := drop_get hik
          have hstep := hres.out
          rw [hd, tBody] at hstep
          have hp : (k2 : Int) < (m : Int) + 1 := by omega
          have hcapm := hcap.1
          clear i1 i3 i4 hd hik hKr hres
          by_cases hcall : i.op = 12 ∧ 0 ≤ i.a ∧ i.a < D.length
          · rw [if_pos hcall] at hstep
            obtain ⟨hc1, hc2, hc3⟩ := hcall
            rw [HDlen.out] at hc3
            obtain ⟨ja, hja⟩ : ∃ ja : Nat, i.a = ja := ⟨i.a.toNat, by omega⟩
            have hjn : ja < nd := by omega
            have hD3' := HD3.out
            have hbl3 := Hbel3.out wr hbr
            obtain ⟨z, hz⟩ := hD3'.get hjn
            obtain ⟨b2, o2, P2, m2, q2, rfl, hb2, hP3, hzw, r0', r1', r2', r3'⟩ := df_at hD3' hz
            have hDr := hD3'.below (keepsDf AnyQ) hbl3
            have hP2 := hP3.below keepsPt hbl3
            have hg4 := Hg4.out
            have hnb2 : ¬ gc = b2 := by omega
            have hnb2' : ¬ b2 = gc := by omega
            have hnb : ¬ gc = b := by omega
            have hnb' : ¬ b = gc := by omega
            have r0 := (hbl3.cell (p := ⟨b2, o2 + ja * 4, none⟩) hb2).trans r0'
            have r1 := (hbl3.cell (p := ⟨b2, o2 + ja * 4 + 1, none⟩) hb2).trans r1'
            have r2 := (hbl3.cell (p := ⟨b2, o2 + ja * 4 + 2, none⟩) hb2).trans r2'
            have r3 := (hbl3.cell (p := ⟨b2, o2 + ja * 4 + 3, none⟩) hb2).trans r3'
            have hb2r : b2 < wr.heap.size := Nat.lt_of_lt_of_le hb2 hbl3.size
            have hgcb : gc < base2 := by rw [hbase2]; exact hgcr
            have hb2b : b2 < base2 := by rw [hbase2]; exact Nat.lt_of_lt_of_le hb2 (Hbel3.out w7 HbrW.out).size
            have hbb2 : b < base2 := by rw [hbase2]; have := (Hbel3.out w7 HbrW.out).size; omega
            have hcapD := hDr.cap_le
            have hgd : getD' D (ja : Int) = z := by unfold getD'; rw [Int.toNat_natCast, hz]; rfl
            rw [hja, hgd] at hstep
            have htold := fun (w' : World) (h1 : Below wr.heap.size wr w') => told_any 400 _ nd cd D z P2 m2 q2 (ja : Int) 400 w' (hDr.below (keepsDf _) h1) (hP2.below keepsPt h1) hzw HDp.out (HDp.out z (List.mem_of_getElem? hz)) (by omega) (by omega) (by omega) (by omega) (i64_nat (by omega))
            obtain ⟨T, hT⟩ : ∃ T, toldK D 400 400 z ja = T := ⟨_, rfl⟩
            rw [hT] at hstep htold
            have Htold := Lib.hid htold
            have Hstep := Lib.hid hstep
            rw [hc1] at i0
            rw [hja] at i2
            obtain ⟨ng, hng⟩ : ∃ ng, i.neg = ng := ⟨_, rfl⟩
            rw [hng] at i5
            have Hng := Lib.hid hng
            have g2 : decide ((ja : Int) < (nd : Int)) = true := by simpa using hjn
            have g1 : decide (0 ≤ (ja : Int)) = true := by simp
            have g3 : ¬ nd ≤ ja := by omega
            obtain ⟨o0, o1', ol⟩ := open2 q7
            have fr1 := frozen_of q7 1
            obtain ⟨us, s1, s2, s3, s4⟩ := hT9.rows
            have hne7 : ∀ a, B9 = some a → a.block ≠ gc := fun a ha => by have := (hB9 a ha).1; omega
            have hk12 : mm + 1 ≤ 1000000000000 := by omega
            have Hk12 := Lib.hid hk12
            have hT9len := hT9.len
            have hOff5 : Off A5 n5 gc := fun _ a ha => (HA5.out a ha).2.1
            have HT9l := Lib.hid hT9len
            have Hmm := Lib.hid hmm
            have Hmm2 := Lib.hid (show k2 + 1 ≤ m + 1 by omega)
            have Hm4 := Lib.hid hn
            clear htold hstep hc1 hc2 hc3 hDr hz hgd hP2 hP3 hT hja hng hk12 hT9len hmm hnd6 hn5 hnN hn hbase2 hD3' hbl3 hg4 r0' r1' r2' r3' hb2
            go_upto_region 15 with fail
            refine region_but 26 (fun w' => w'.cell? ⟨b, off + k2 * 6 + 5, none⟩ = some (.bool ng) ∧ w'.cell? ⟨b, off + k2 * 6 + 2, none⟩ = some (.int .i64 (ja : Int)) ∧ w'.cell? ⟨b2, o2 + ja * 4, none⟩ = some (.int .i64 z.is) ∧ w'.cell? ⟨b2, o2 + ja * 4 + 1, none⟩ = some (.string z.name) ∧ w'.cell? ⟨b2, o2 + ja * 4 + 2, none⟩ = some (.int .i64 z.n) ∧ w'.cell? ⟨b2, o2 + ja * 4 + 3, none⟩ = some (.slice P2 m2 q2) ∧ w'.cell? ⟨gc, 1, none⟩ = some (.slice B9 mm d9)) (by kernel_rfl) ?_
            have hHeld : (fun w' : World => w'.cell? ⟨b, off + k2 * 6 + 5, none⟩ = some (.bool ng) ∧ w'.cell? ⟨b, off + k2 * 6 + 2, none⟩ = some (.int .i64 (ja : Int)) ∧ w'.cell? ⟨b2, o2 + ja * 4, none⟩ = some (.int .i64 z.is) ∧ w'.cell? ⟨b2, o2 + ja * 4 + 1, none⟩ = some (.string z.name) ∧ w'.cell? ⟨b2, o2 + ja * 4 + 2, none⟩ = some (.int .i64 z.n) ∧ w'.cell? ⟨b2, o2 + ja * 4 + 3, none⟩ = some (.slice P2 m2 q2) ∧ w'.cell? ⟨gc, 1, none⟩ = some (.slice B9 mm d9)) wr.drew := by simp [*]
            refine but_take (i := 0) (oi := ?oi0) (v := ?v0) ?hi0 (by kernel_rfl) (by kernel_rfl) (by kernel_rfl) (by kernel_rfl) ?hQ0 (Or.inl ⟨?hw0, ?hy0⟩) hHeld ?rest0
            case hi0 => (simp only [List.getElem?_toArray, List.getElem?_cons_succ, List.getElem?_cons_zero]; exact rfl)
            case hQ0 => exact fun _ _ _ h => h
            case hw0 => rfl
            case hy0 => (intro w hSw; (try dsimp only at hSw); go_simp <;> with_reducible rfl)
            try simp only [Act.put, List.setIfInBounds_toArray, List.set_cons_zero, List.set_cons_succ]
            refine but_take (i := 1) (oi := ?oi1) (v := ?v1) ?hi1 (by kernel_rfl) (by kernel_rfl) (by kernel_rfl) (by kernel_rfl) ?hQ1 (Or.inl ⟨?hw1, ?hy1⟩) hHeld ?rest1
            case hi1 => (simp only [List.getElem?_toArray, List.getElem?_cons_succ, List.getElem?_cons_zero]; exact rfl)
            case hQ1 => exact fun _ _ _ h => h
            case hw1 => rfl
            case hy1 => (intro w hSw; (try dsimp only at hSw); go_simp <;> with_reducible rfl)
            try simp only [Act.put, List.setIfInBounds_toArray, List.set_cons_zero, List.set_cons_succ]
            refine but_take (i := 2) (oi := ?oi2) (v := ?v2) ?hi2 (by kernel_rfl) (by kernel_rfl) (by kernel_rfl) (by kernel_rfl) ?hQ2 (Or.inl ⟨?hw2, ?hy2⟩) hHeld ?rest2
            case hi2 => (simp only [List.getElem?_toArray, List.getElem?_cons_succ, List.getElem?_cons_zero]; exact rfl)
            case hQ2 => exact fun _ _ _ h => h
            case hw2 => rfl
            case hy2 => (intro w hSw; (try dsimp only at hSw); go_simp <;> with_reducible rfl)
            try simp only [Act.put, List.setIfInBounds_toArray, List.set_cons_zero, List.set_cons_succ]
            refine but_take (i := 3) (oi := ?oi3) (v := ?v3) ?hi3 (by kernel_rfl) (by kernel_rfl) (by kernel_rfl) (by kernel_rfl) ?hQ3 (Or.inl ⟨?hw3, ?hy3⟩) hHeld ?rest3
            case hi3 => (simp only [List.getElem?_toArray, List.getElem?_cons_succ, List.getElem?_cons_zero]; exact rfl)
            case hQ3 => exact fun _ _ _ h => h
            case hw3 => rfl
            case hy3 => (intro w hSw; (try dsimp only at hSw); go_simp <;> with_reducible rfl)
            try simp only [Act.put, List.setIfInBounds_toArray, List.set_cons_zero, List.set_cons_succ]
            refine but_take (i := 4) (oi := ?oi4) (v := ?v4) ?hi4 (by kernel_rfl) (by kernel_rfl) (by kernel_rfl) (by kernel_rfl) ?hQ4 (Or.inl ⟨?hw4, ?hy4⟩) hHeld ?rest4
            case hi4 => (simp only [List.getElem?_toArray, List.getElem?_cons_succ, List.getElem?_cons_zero]; exact rfl)
            case hQ4 => exact fun _ _ _ h => h
            case hw4 => rfl
            case hy4 => (intro w hSw; (try dsimp only at hSw); go_simp <;> with_reducible rfl)
            try simp only [Act.put, List.setIfInBounds_toArray, List.set_cons_zero, List.set_cons_succ]
            refine but_take (i := 5) (oi := ?oi5) (v := ?v5) ?hi5 (by kernel_rfl) (by kernel_rfl) (by kernel_rfl) (by kernel_rfl) ?hQ5 (Or.inl ⟨?hw5, ?hy5⟩) hHeld ?rest5
            case hi5 => (simp only [List.getElem?_toArray, List.getElem?_cons_succ, List.getElem?_cons_zero]; exact rfl)
            case hQ5 => exact fun _ _ _ h => h
            case hw5 => rfl
            case hy5 => (intro w hSw; (try dsimp only at hSw); go_simp <;> with_reducible rfl)
            try simp only [Act.put, List.setIfInBounds_toArray, List.set_cons_zero, List.set_cons_succ]
            refine but_take (i := 6) (oi := ?oi6) (v := ?v6) ?hi6 (by kernel_rfl) (by kernel_rfl) (by kernel_rfl) (by kernel_rfl) ?hQ6 (Or.inl ⟨?hw6, ?hy6⟩) hHeld ?rest6
            case hi6 => (simp only [List.getElem?_toArray, List.getElem?_cons_succ, List.getElem?_cons_zero]; exact rfl)
            case hQ6 => exact fun _ _ _ h => h
            case hw6 => rfl
            case hy6 => (intro w hSw; (try dsimp only at hSw); go_simp <;> with_reducible rfl)
            try simp only [Act.put, List.setIfInBounds_toArray, List.set_cons_zero, List.set_cons_succ]
            refine but_take (i := 7) (oi := ?oi7) (v := ?v7) ?hi7 (by kernel_rfl) (by kernel_rfl) (by kernel_rfl) (by kernel_rfl) ?hQ7 (Or.inl ⟨?hw7, ?hy7⟩) hHeld ?rest7
            case hi7 => (simp only [List.getElem?_toArray, List.getElem?_cons_succ, List.getElem?_cons_zero]; exact rfl)
            case hQ7 => exact fun _ _ _ h => h
            case hw7 => rfl
            case hy7 => (intro w hSw; (try dsimp only at hSw); go_simp <;> with_reducible rfl)
            try simp only [Act.put, List.setIfInBounds_toArray, List.set_cons_zero, List.set_cons_succ]
            refine but_take (i := 8) (oi := ?oi8) (v := ?v8) ?hi8 (by kernel_rfl) (by kernel_rfl) (by kernel_rfl) (by kernel_rfl) ?hQ8 (Or.inl ⟨?hw8, ?hy8⟩) hHeld ?rest8
            case hi8 => (simp only [List.getElem?_toArray, List.getElem?_cons_succ, List.getElem?_cons_zero]; exact rfl)
            case hQ8 => exact fun _ _ _ h => h
            case hw8 => rfl
            case hy8 => (intro w hSw; (try dsimp only at hSw); go_simp <;> with_reducible rfl)
            try simp only [Act.put, List.setIfInBounds_toArray, List.set_cons_zero, List.set_cons_succ]
            refine but_take (i := 9) (oi := ?oi9) (v := ?v9) ?hi9 (by kernel_rfl) (by kernel_rfl) (by kernel_rfl) (by kernel_rfl) ?hQ9 (Or.inl ⟨?hw9, ?hy9⟩) hHeld ?rest9
            case hi9 => (simp only [List.getElem?_toArray, List.getElem?_cons_succ, List.getElem?_cons_zero]; exact rfl)
            case hQ9 => exact fun _ _ _ h => h
            case hw9 => rfl
            case hy9 => (intro w hSw; (try dsimp only at hSw); go_simp <;> with_reducible rfl)
            try simp only [Act.put, List.setIfInBounds_toArray, List.set_cons_zero, List.set_cons_succ]
            refine but_take (i := 10) (oi := ?oi10) (v := ?v10) ?hi10 (by kernel_rfl) (by kernel_rfl) (by kernel_rfl) (by kernel_rfl) ?hQ10 (Or.inl ⟨?hw10, ?hy10⟩) hHeld ?rest10
            case hi10 => (simp only [List.getElem?_toArray, List.getElem?_cons_succ, List.getElem?_cons_zero]; exact rfl)
            case hQ10 => exact fun _ _ _ h => h
            case hw10 => rfl
            case hy10 => (intro w hSw; (try dsimp only at hSw); go_simp <;> with_reducible rfl)
            try simp only [Act.put, List.setIfInBounds_toArray, List.set_cons_zero, List.set_cons_succ]
            refine but_take (i := 11) (oi := ?oi11) (v := ?v11) ?hi11 (by kernel_rfl) (by kernel_rfl) (by kernel_rfl) (by kernel_rfl) ?hQ11 (Or.inl ⟨?hw11, ?hy11⟩) hHeld ?rest11
            case hi11 => (simp only [List.getElem?_toArray, List.getElem?_cons_succ, List.getElem?_cons_zero]; exact rfl)
            case hQ11 => exact fun _ _ _ h => h
            case hw11 => rfl
            case hy11 => (intro w hSw; (try dsimp only at hSw); go_simp <;> with_reducible rfl)
            try simp only [Act.put, List.setIfInBounds_toArray, List.set_cons_zero, List.set_cons_succ]
            refine but_take (i := 12) (oi := ?oi12) (v := ?v12) ?hi12 (by kernel_rfl) (by kernel_rfl) (by kernel_rfl) (by kernel_rfl) ?hQ12 (Or.inl ⟨?hw12, ?hy12⟩) hHeld ?rest12
            case hi12 => (simp only [List.getElem?_toArray, List.getElem?_cons_succ, List.getElem?_cons_zero]; exact rfl)
            case hQ12 => exact fun _ _ _ h => h
            case hw12 => rfl
            case hy12 => (intro w hSw; (try dsimp only at hSw); go_simp <;> with_reducible rfl)
            try simp only [Act.put, List.setIfInBounds_toArray, List.set_cons_zero, List.set_cons_succ]
            refine but_take (i := 13) (oi := ?oi13) (v := ?v13) ?hi13 (by kernel_rfl) (by kernel_rfl) (by kernel_rfl) (by kernel_rfl) ?hQ13 (Or.inl ⟨?hw13, ?hy13⟩) hHeld ?rest13
            case hi13 => (simp only [List.getElem?_toArray, List.getElem?_cons_succ, List.getElem?_cons_zero]; exact rfl)
            case hQ13 => exact fun _ _ _ h => h
            case hw13 => rfl
            case hy13 => (intro w hSw; (try dsimp only at hSw); go_simp <;> with_reducible rfl)
            try simp only [Act.put, List.setIfInBounds_toArray, List.set_cons_zero, List.set_cons_succ]
            refine but_take (i := 14) (oi := ?oi14) (v := ?v14) ?hi14 (by kernel_rfl) (by kernel_rfl) (by kernel_rfl) (by kernel_rfl) ?hQ14 (Or.inl ⟨?hw14, ?hy14⟩) hHeld ?rest14
            case hi14 => (simp only [List.getElem?_toArray, List.getElem?_cons_succ, List.getElem?_cons_zero]; exact rfl)
            case hQ14 => exact fun _ _ _ h => h
            case hw14 => rfl
            case hy14 => (intro w hSw; (try dsimp only at hSw); go_simp <;> with_reducible rfl)
            try simp only [Act.put, List.setIfInBounds_toArray, List.set_cons_zero, List.set_cons_succ]
            refine but_take (i := 15) (oi := ?oi15) (v := ?v15) ?hi15 (by kernel_rfl) (by kernel_rfl) (by kernel_rfl) (by kernel_rfl) ?hQ15 (Or.inl ⟨?hw15, ?hy15⟩) hHeld ?rest15
            case hi15 => (simp only [List.getElem?_toArray, List.getElem?_cons_succ, List.getElem?_cons_zero]; exact rfl)
            case hQ15 => exact fun _ _ _ h => h
            case hw15 => rfl
            case hy15 => (intro w hSw; (try dsimp only at hSw); go_simp <;> with_reducible rfl)
            try simp only [Act.put, List.setIfInBounds_toArray, List.set_cons_zero, List.set_cons_succ]
            refine but_take (i := 16) (oi := ?oi16) (v := ?v16) ?hi16 (by kernel_rfl) (by kernel_rfl) (by kernel_rfl) (by kernel_rfl) ?hQ16 (Or.inl ⟨?hw16, ?hy16⟩) hHeld ?rest16
            case hi16 => (simp only [List.getElem?_toArray, List.getElem?_cons_succ, List.getElem?_cons_zero]; exact rfl)
            case hQ16 => exact fun _ _ _ h => h
            case hw16 => rfl
            case hy16 => (intro w hSw; (try dsimp only at hSw); go_simp <;> with_reducible rfl)
            try simp only [Act.put, List.setIfInBounds_toArray, List.set_cons_zero, List.set_cons_succ]
            refine but_take (i := 17) (oi := ?oi17) (v := ?v17) ?hi17 (by kernel_rfl) (by kernel_rfl) (by kernel_rfl) (by kernel_rfl) ?hQ17 (Or.inl ⟨?hw17, ?hy17⟩) hHeld ?rest17
            case hi17 => (simp only [List.getElem?_toArray, List.getElem?_cons_succ, List.getElem?_cons_zero]; exact rfl)
            case hQ17 => exact fun _ _ _ h => h
            case hw17 => rfl
            case hy17 => (intro w hSw; (try dsimp only at hSw); go_simp <;> with_reducible rfl)
            try simp only [Act.put, List.setIfInBounds_toArray, List.set_cons_zero, List.set_cons_succ]
            refine but_take (i := 18) (oi := ?oi18) (v := ?v18) ?hi18 (by kernel_rfl) (by kernel_rfl) (by kernel_rfl) (by kernel_rfl) ?hQ18 (Or.inl ⟨?hw18, ?hy18⟩) hHeld ?rest18
            case hi18 => (simp only [List.getElem?_toArray, List.getElem?_cons_succ, List.getElem?_cons_zero]; exact rfl)
            case hQ18 => exact fun _ _ _ h => h
            case hw18 => rfl
            case hy18 => (intro w hSw; (try dsimp only at hSw); go_simp <;> with_reducible rfl)
            try simp only [Act.put, List.setIfInBounds_toArray, List.set_cons_zero, List.set_cons_succ]
            refine but_take (i := 19) (oi := ?oi19) (v := ?v19) ?hi19 (by kernel_rfl) (by kernel_rfl) (by kernel_rfl) (by kernel_rfl) ?hQ19 (Or.inl ⟨?hw19, ?hy19⟩) hHeld ?rest19
            case hi19 => (simp only [List.getElem?_toArray, List.getElem?_cons_succ, List.getElem?_cons_zero]; exact rfl)
            case hQ19 => exact fun _ _ _ h => h
            case hw19 => rfl
            case hy19 => (intro w hSw; (try dsimp only at hSw); go_simp <;> with_reducible rfl)
            try simp only [Act.put, List.setIfInBounds_toArray, List.set_cons_zero, List.set_cons_succ]
            refine but_take (i := 20) (oi := ?oi20) (v := ?v20) ?hi20 (by kernel_rfl) (by kernel_rfl) (by kernel_rfl) (by kernel_rfl) ?hQ20 (Or.inl ⟨?hw20, ?hy20⟩) hHeld ?rest20
            case hi20 => (simp only [List.getElem?_toArray, List.getElem?_cons_succ, List.getElem?_cons_zero]; exact rfl)
            case hQ20 => exact fun _ _ _ h => h
            case hw20 => rfl
            case hy20 => (intro w hSw; (try dsimp only at hSw); go_simp <;> with_reducible rfl)
            try simp only [Act.put, List.setIfInBounds_toArray, List.set_cons_zero, List.set_cons_succ]
            refine but_one (i := 21) (o := ?oi21) (by kernel_rfl) ?hi21 (fun K hK => ?rest21)
            case hi21 => (simp only [List.getElem?_toArray, List.getElem?_cons_succ, List.getElem?_cons_zero]; exact rfl)
            go_simp
            go_at_call 42; refine (Htold.out _ (Below.refl _ _).drew).mono ?_; rintro e8 w8 ⟨A8, n8, c8, rfl, hI8, hn8, hb8⟩; have hb8' : Below wr.heap.size wr w8 := ((Below.refl _ _).drew).trans hb8; have hs8 := hb8'.size; have x78 := (hb8'.block gc ol).trans q7; have k1 := cells_of x78 1; have kf := frozen_of x78 1; have kl := block_lt x78; have j5 := (hb8'.cell (p := ⟨b, off + k2 * 6 + 5, none⟩) hb1).trans i5; have j2 := (hb8'.cell (p := ⟨b, off + k2 * 6 + 2, none⟩) hb1).trans i2; have d0 := (hb8'.cell (p := ⟨b2, o2 + ja * 4, none⟩) hb2r).trans r0; have d1' := (hb8'.cell (p := ⟨b2, o2 + ja * 4 + 1, none⟩) hb2r).trans r1; have d2 := (hb8'.cell (p := ⟨b2, o2 + ja * 4 + 2, none⟩) hb2r).trans r2; have d3 := (hb8'.cell (p := ⟨b2, o2 + ja * 4 + 3, none⟩) hb2r).trans r3; simp at k1
            try go_simp
            have hHeld8 : (fun w' : World => w'.cell? ⟨b, off + k2 * 6 + 5, none⟩ = some (.bool ng) ∧ w'.cell? ⟨b, off + k2 * 6 + 2, none⟩ = some (.int .i64 (ja : Int)) ∧ w'.cell? ⟨b2, o2 + ja * 4, none⟩ = some (.int .i64 z.is) ∧ w'.cell? ⟨b2, o2 + ja * 4 + 1, none⟩ = some (.string z.name) ∧ w'.cell? ⟨b2, o2 + ja * 4 + 2, none⟩ = some (.int .i64 z.n) ∧ w'.cell? ⟨b2, o2 + ja * 4 + 3, none⟩ = some (.slice P2 m2 q2) ∧ w'.cell? ⟨gc, 1, none⟩ = some (.slice B9 mm d9)) w8 := ⟨j5, j2, d0, d1', d2, d3, k1⟩
            refine hK _ _ (.inr hHeld8) ?_
            clear hK K hHeld
            have hHeld := hHeld8
            clear hHeld8
            try simp only [Act.put, List.setIfInBounds_toArray, List.set_cons_zero, List.set_cons_succ]
            refine but_take (i := 22) (oi := ?oi22) (v := ?v22) ?hi22 (by kernel_rfl) (by kernel_rfl) (by kernel_rfl) (by kernel_rfl) ?hQ22 (Or.inl ⟨?hw22, ?hy22⟩) hHeld ?rest22
            case hi22 => (simp only [List.getElem?_toArray, List.getElem?_cons_succ, List.getElem?_cons_zero]; exact rfl)
            case hQ22 => exact fun _ _ _ h => h
            case hw22 => rfl
            case hy22 => (intro w hSw; (try dsimp only at hSw); go_simp <;> with_reducible rfl)
            try simp only [Act.put, List.setIfInBounds_toArray, List.set_cons_zero, List.set_cons_succ]
            refine but_one (i := 23) (o := ?oi23) (by kernel_rfl) ?hi23 (fun K hK => ?rest23)
            case hi23 => (simp only [List.getElem?_toArray, List.getElem?_cons_succ, List.getElem?_cons_zero]; exact rfl)
            go_simp
            have hHeld8 : (fun w' : World => w'.cell? ⟨b, off + k2 * 6 + 5, none⟩ = some (.bool ng) ∧ w'.cell? ⟨b, off + k2 * 6 + 2, none⟩ = some (.int .i64 (ja : Int)) ∧ w'.cell? ⟨b2, o2 + ja * 4, none⟩ = some (.int .i64 z.is) ∧ w'.cell? ⟨b2, o2 + ja * 4 + 1, none⟩ = some (.string z.name) ∧ w'.cell? ⟨b2, o2 + ja * 4 + 2, none⟩ = some (.int .i64 z.n) ∧ w'.cell? ⟨b2, o2 + ja * 4 + 3, none⟩ = some (.slice P2 m2 q2) ∧ w'.cell? ⟨gc, 1, none⟩ = some (.slice B9 mm d9)) (w8.alloc (.cells #[.bool ng, .slice A8 n8 c8] 55)) := by simp [World.cell?_alloc_some, *]
            refine hK _ _ (.inr hHeld8) ?_
            clear hK K hHeld
            have hHeld := hHeld8
            clear hHeld8
            try simp only [Act.put, List.setIfInBounds_toArray, List.set_cons_zero, List.set_cons_succ]
            refine but_one (i := 24) (o := ?oi24) (by kernel_rfl) ?hi24 (fun K hK => ?rest24)
            case hi24 => (simp only [List.getElem?_toArray, List.getElem?_cons_succ, List.getElem?_cons_zero]; exact rfl)
            refine step_append_any (xs := us.flatten) (by rfl) (.tmp 131) (.tmp 153) 23 (by rfl) base2 55 Try.underlying23 infoLitN (by rfl) (by omega) (by rfl) ?_ ?_ (by rfl) ?_ (one_litN ng A8 n8 c8) (Hk12.out) (by omega) ?_ ?_ ?_; (focus (exact (s3.below hb8').below ((Below.refl _ _).alloc (Nat.le_refl _) _))); (focus (exact fun b hb => Nat.lt_of_lt_of_le (hB9 b hb).2 (Nat.le_trans hs8 (alloc_le _ _)))); (focus (exact Sl.blk (cs := #[.bool ng, .slice A8 n8 c8]) (t := 55) (alloc_at rfl) rfl (by simp [maxLen]))); (focus (exact Nat.le_trans hsr (Nat.le_trans hs8 (alloc_le _ _)))); (focus (exact s3.none_cap)); intro B1 d1 w9 ht9 hbn9 hap9; have x79 := (hap9.old gc (Nat.lt_of_lt_of_le (block_lt x78) (alloc_le _ _)) hne7).trans ((alloc_past (block_lt x78)).trans x78); have k2' := cells_of x79 1; have kf2 := frozen_of x79 1; have kl2 := block_lt x79; have hbA : Below base2 w8 (w8.alloc (.cells #[.bool ng, .slice A8 n8 c8] 55)) := (Below.refl _ _).alloc (Nat.le_trans hsr hs8) _; have hb89 := hbA.trans hbn9; have m5 := (hb89.cell (p := ⟨b, off + k2 * 6 + 5, none⟩) hbb2).trans j5; have m2' := (hb89.cell (p := ⟨b, off + k2 * 6 + 2, none⟩) hbb2).trans j2; have l0 := (hb89.cell (p := ⟨b2, o2 + ja * 4, none⟩) hb2b).trans d0; have l1 := (hb89.cell (p := ⟨b2, o2 + ja * 4 + 1, none⟩) hb2b).trans d1'; have l2 := (hb89.cell (p := ⟨b2, o2 + ja * 4 + 2, none⟩) hb2b).trans d2; have l3 := (hb89.cell (p := ⟨b2, o2 + ja * 4 + 3, none⟩) hb2b).trans d3; simp at k2'
            have hHeld8 : (fun w' : World => w'.cell? ⟨b, off + k2 * 6 + 5, none⟩ = some (.bool ng) ∧ w'.cell? ⟨b, off + k2 * 6 + 2, none⟩ = some (.int .i64 (ja : Int)) ∧ w'.cell? ⟨b2, o2 + ja * 4, none⟩ = some (.int .i64 z.is) ∧ w'.cell? ⟨b2, o2 + ja * 4 + 1, none⟩ = some (.string z.name) ∧ w'.cell? ⟨b2, o2 + ja * 4 + 2, none⟩ = some (.int .i64 z.n) ∧ w'.cell? ⟨b2, o2 + ja * 4 + 3, none⟩ = some (.slice P2 m2 q2) ∧ w'.cell? ⟨gc, 1, none⟩ = some (.slice B9 mm d9)) w9 := ⟨m5, m2', l0, l1, l2, l3, k2'⟩
            refine hK _ _ (.inr hHeld8) ?_
            clear hK K hHeld
            have hHeld := hHeld8
            clear hHeld8
            try simp only [Act.put, List.setIfInBounds_toArray, List.set_cons_zero, List.set_cons_succ]
            refine but_take (i := 25) (oi := ?oi25) (v := ?v25) ?hi25 (by kernel_rfl) (by kernel_rfl) (by kernel_rfl) (by kernel_rfl) ?hQ25 (Or.inl ⟨?hw25, ?hy25⟩) hHeld ?rest25
            case hi25 => (simp only [List.getElem?_toArray, List.getElem?_cons_succ, List.getElem?_cons_zero]; exact rfl)
            case hQ25 => exact fun _ _ _ h => h
            case hw25 => rfl
            case hy25 => (intro w hSw; (try dsimp only at hSw); go_simp <;> with_reducible rfl)
            try simp only [Act.put, List.setIfInBounds_toArray, List.set_cons_zero, List.set_cons_succ]
            refine but_one (i := 26) (o := ?oi26) (by kernel_rfl) ?hi26 (fun K hK => ?rest26)
            case hi26 => (simp only [List.getElem?_toArray, List.getElem?_cons_succ, List.getElem?_cons_zero]; exact rfl)
            go_simp
            refine hK _ _ (.inl rfl) ?_
            clear hK K hHeld
            try simp only [Act.put, List.setIfInBounds_toArray, List.set_cons_zero, List.set_cons_succ]
            refine but_done (by kernel_rfl) ?_ _
            all_goals
              have hu : RLN gc base2 B1 (w9.setCell ⟨gc, 1, none⟩ (.slice B1 (mm + 1) d1)) (ng, T) [.bool ng, .slice A8 n8 c8] := by
                have h8a := hI8.below ((Below.refl _ _).alloc (Nat.le_refl _) (.cells #[.bool ng, .slice A8 n8 c8] 55))
                have h8f : Far B9 A8 n8 := fun a ha hn a' ha' he => by have := (hB9 a ha).2; have := hn8 a' ha'; have e9 : w8.heap.size = w8.heap.size := rfl; simp at this; omega
                exact ⟨A8, n8, c8, rfl, ⟨(h8a.sl.far hap9 h8f).but' (But.set w9 gc 1 _) (fun _ a ha => by have := hn8 a ha; simp at this; omega), h8a.wf⟩, fun _ a ha => by have := hn8 a ha; simp at this; omega, h8f.app hap9 h8a.sl, fun a ha => by have := hn8 a ha; simp at this; omega⟩
              have hB1 : ∀ a, B1 = some a → base2 ≤ a.block ∧ a.block < w9.heap.size := fun a ha => by
                obtain ⟨p1, p2⟩ := hap9.blk a ha
                rcases p2 with ⟨a0, p3, p4⟩ | p2
                · rw [p4]; exact ⟨(hB9 a0 p3).1, by rw [← p4]; exact p1⟩
                · simp at p2; exact ⟨by omega, p1⟩
              have hh5 : IsC (w9.setCell ⟨gc, 1, none⟩ (.slice B1 (mm + 1) d1)) A5 n5 c5 ts := by
                have h5a := (hI5.below hb8').below ((Below.refl _ _).alloc (Nat.le_refl _) (.cells #[.bool ng, .slice A8 n8 c8] 55))
                exact ⟨(h5a.sl.far hap9 hf9).but' (But.set w9 gc 1 _) hOff5, h5a.wf⟩
              have hf5 : Far B1 A5 n5 := hf9.app hap9 ((hI5.below hb8').below ((Below.refl _ _).alloc (Nat.le_refl _) (.cells #[.bool ng, .slice A8 n8 c8] 55))).sl
              have hTl : TailG (RLN gc base2 B1) 2 (w9.setCell ⟨gc, 1, none⟩ (.slice B1 (mm + 1) d1)) base2 55 B1 (mm + 1) d1 (bs ++ [(ng, T)]) := TailG.snoc (ht9.at_ fun a ha => set_other (by have := (hB1 a ha).1; omega) _) HT9l.out s1 s2 rfl (fun q x v hx hv => lit_stepN (s4 q x v hx hv) hb8' hap9) hu
              have hz7 := set_block (k := 1) x79 (.slice B1 (mm + 1) d1)
              simp at hz7
              have hgigc : gi ≤ gc := by omega
              have hbl : Below gi V (w9.setCell ⟨gc, 1, none⟩ (.slice B1 (mm + 1) d1)) := Below.setCell (((hbr.trans (hb8'.mono (by omega))).alloc (by omega) _).trans (hbn9.mono (by omega))) hgigc _
              have hk12 := Hk12.out
              have hmm := Hmm.out
              have hmm2 := Hmm2.out
              have hm4 := Hm4.out
              have hlast : bs ++ [(ng, T)] ++ tBody D (l.drop (k2 + 1)) = Bd := by
                rw [List.append_assoc, ← Hstep.out, Hng.out]
                rfl
              go_wp2_with fail
              go_roundw
              case rel => exact ⟨k2 + 1, mm + 1, d1, B1, _, by omega, by go_num, hz7, hh5, hf5, hTl, Lib.hid hlast, by omega, fun a ha => ⟨(hB1 a ha).1, by simpa using (hB1 a ha).2⟩, hbl, by have := hap9.size; simp at this ⊢; omega⟩
              case measure => simp [intOf]; omega
          · rw [if_neg hcall] at hstep
            rw [HDlen.out] at hcall
            have Hstep := Lib.hid hstep
            have hcapk : m + 1 ≤ 400 := hn
            clear hstep
            by_cases f1 : i.op = 12
            · rw [f1] at i0
              by_cases f2 : 0 ≤ i.a
              · have f3 : (nd : Int) ≤ i.a := by
                  rcases Int.lt_or_le i.a nd with h | h
                  · exact absurd ⟨f1, f2, h⟩ hcall
                  · exact h
                have g2 : decide (0 ≤ i.a) = true := by simpa using f2
                have g3 : decide (i.a < (nd : Int)) = false := by simpa using f3
                clear f1 hcall
                go_wp2_with fail
                go_roundw
                case rel => exact ⟨k2 + 1, mm, d9, B9, bs, by omega, by go_num, q7, hI5, hf9, hT9, Hstep, by omega, hB9, hbr, hsr⟩
                case measure => simp [intOf]; omega
              · have g2 : decide (0 ≤ i.a) = false := by simpa using f2
                clear f1 hcall
                go_wp2_with fail
                go_roundw
                case rel => exact ⟨k2 + 1, mm, d9, B9, bs, by omega, by go_num, q7, hI5, hf9, hT9, Hstep, by omega, hB9, hbr, hsr⟩
                case measure => simp [intOf]; omega
            · have g1 : (i.op == 12) = false := by simpa using f1
              clear hcall
              go_wp2_with fail
              go_roundw
              case rel => exact ⟨k2 + 1, mm, d9, B9, bs, by omega, by go_num, q7, hI5, hf9, hT9, Hstep, by omega, hB9, hbr, hsr⟩
              case measure => simp [intOf]; omega
        · have hkm : k2 = m + 1 := by omega
          subst hkm
          have hbs : bs = Bd := by
            have := hres.out
            rw [List.drop_of_length_le (by rw [Hll.out]; exact Nat.le_refl _), tBody, List.append_nil] at this
            exact this
          obtain rfl := HH2.out
          subst hbs
          have hn5b : n5 ≤ 1 + 200 * 406 := by
            have := Hcl1.out
            have := hI5.len
            omega
          have hmb : mm ≤ 401 := by omega
          have hLs : IsLs wr B9 mm d9 bs := by
            obtain ⟨us, s1, s2, s3, s4⟩ := hT9.rows
            exact ⟨hT9.len, us, s1, s2, s3.sl (by omega), fun q x v hx hv => by
              obtain ⟨A, n, c, h1, h2, h3, h4, h5⟩ := s4 q x v hx hv
              exact ⟨A, n, c, h1, h2⟩⟩
          have hnum := rNumber10_any A5 n5 c5 ts B9 mm d9 bs wr hI5 hLs (by omega) (by omega) (fun x hx => by have := Hcl3.out x hx; omega) (by have := Hcv.out; omega)
          obtain ⟨r, hr⟩ : ∃ r, numR (ts, bs) = r := ⟨_, rfl⟩
          have hrl := numR_len ts bs
          have hmay := Hmay.out
          have hne := Hne.out
          have heq := Heq.out
          rw [hr] at hnum hrl hmay hne heq
          obtain ⟨hr1, hr2, hr3⟩ := hrl
          have hr1' : r.1.length ≤ 100000 := by rw [hr1, hI5.len]; omega
          have hr2' : r.2.length ≤ 1000 := by rw [hr2, hT9.len]; omega
          have hr3' : ∀ x ∈ r.2, x.2.length ≤ 100000 := fun x hx => by
            obtain ⟨y, hy, e1⟩ := hr3 x hx
            have := Hcl3.out y hy
            omega
          have Hnum := Lib.hid hnum
          have Hmay2 := Lib.hid hmay
          have Hne2 := Lib.hid hne
          have Heq2 := Lib.hid heq
          have Hr1 := Lib.hid hr1'
          have Hr2 := Lib.hid hr2'
          have Hr3 := Lib.hid hr3'
          have hgigc : gi ≤ gc := by omega
          have hKr := HKg.out wr hbr
          have hx2r := (hbr.block w.heap.size hg0).trans x2
          obtain ⟨y0, y1, yl⟩ := open2 q7
          clear hnum hr hr1 hr2 hr3 hmay hne heq Hcv Hcl1 Hcl2 Hcl3 HBd hres hT9 hLs hI5 hf9 hB9 x2 HKg HDg HDp HDlen HA5 Hmay Hne Heq hlt HH2 hr1' hr2' hr3'
          go_wp2_with fail
          refine Hnum.out.mono ?_
          rintro q w9 ⟨A6, n6, c6, B6, m6, d6, rfl, hI6, hB6, hb9⟩
          have x9 := (hb9.block gc yl).trans q7
          have u0 := cells_of x9 0
          have u1 := cells_of x9 1
          have uf0 := frozen_of x9 0
          have uf1 := frozen_of x9 1
          simp at u0 u1
          have hKW : IsK w9 (some ⟨b, off, none⟩) (m + 1) cap l := IsG.below keepsIn hKr hb9
          have hx29 := (hb9.block w.heap.size (block_lt hx2r)).trans hx2r
          have hb9V : Below gi V w9 := hbr.trans (hb9.mono (by have := block_lt q7; omega))
          clear y0 y1 Hnum hb9 hKr hx2r
          go_upto_region 17 with fail
          refine on_world (fun W => But w9 W gc ∧ W.heap[gc]? = some (.cells #[.slice A6 n6 c6, .slice B6 m6 d6] 25 (0, 0)) ∧ Below gi V W) ⟨but2 w9 gc _ _, set2 x9 _ _, Below.setCell (Below.setCell hb9V hgigc _) hgigc _⟩ ?_
          rintro W ⟨hbW, xW, hbVW⟩
          have hI6W := c_keep x9 hI6 hbW
          have hB6W := ls_keep x9 hB6 hbW
          have hx2W := (hbW.block w.heap.size (block_lt hx29) (by omega)).trans hx29
          have hKW2 : IsK W (some ⟨b, off, none⟩) (m + 1) cap l := by
            have hoff : Off (some ⟨b, off, none⟩) (m + 1) gc := fun hn a ha he => by
              obtain ⟨i0, hi0⟩ := hKW.get hn
              obtain ⟨b0, o0, hA0, hb0, _, h0, _⟩ := hKW.at' hi0
              cases ha
              injection hA0 with hA0
              injection hA0 with e1 e2
              subst e1 e2
              simp only at he
              subst he
              rw [cells_of x9] at h0
              have : off + 0 * 6 = 0 ∨ off + 0 * 6 = 1 ∨ 2 ≤ off + 0 * 6 := by omega
              rcases this with e | e | e
              · rw [e] at h0; simp at h0
              · rw [e] at h0; simp at h0
              · rw [Array.getElem?_eq_none (by simpa using e)] at h0; cases h0
            exact IsG.but (fun _ _ _ _ h => h) hKW hbW hoff
          have hn6 := hI6W.len
          have hm6 := hB6W.len
          obtain ⟨y0, y1, yl2⟩ := open2 xW
          have hbwW : Below w.heap.size w W := HbwV.out.trans (hbVW.mono (by have := HbwV.out.size; omega))
          have HbwW := Lib.hid hbwW
          have Hn6 := Lib.hid hn6
          have Hm6 := Lib.hid hm6
          clear hI6 hB6 hbW hx29 hKW x9 u0 u1 uf0 uf1 hb9V hbVW hbwW hn6 hm6 hbr q7
          cases hm : mayB r
          · have hcc := rcompile_nob A6 n6 c6 r.1 B6 m6 d6 r.2 W hI6W hB6W (by have := Hn6.out; have := Hr1.out; omega) (by have := Hm6.out; have := Hr2.out; omega) Hr3.out hm
            have Hno := Lib.hid (Hmay2.out hm)
            have Hcc := Lib.hid hcc
            clear hcc hm
            go_wp2_with fail
            refine Hcc.out.mono ?_
            rintro q w10 ⟨rfl, hb10⟩
            have hbw10 := HbwW.out.trans (hb10.mono HbwW.out.size)
            have x210 := (hb10.block w.heap.size (block_lt hx2W)).trans hx2W
            obtain ⟨z0, z1, zl⟩ := open2 x210
            have zf0 := frozen_of x210 0
            have zf1 := frozen_of x210 1
            go_wp2_with fail
            refine bodyPost_ret (v := .tuple #[.agg #[.slice none 0 0, .slice none 0 0], .bool false]) (by simp [results, Try.results21, go_sem, *]) rfl ?_
            exact .inl ⟨rfl, Hno.out, Below.setCell (Below.setCell hbw10 (Nat.le_refl _) _) (Nat.le_refl _) _⟩
          · obtain ⟨cl, hcl⟩ := mayB_cls hm
            have hcc := rcompile_yes cl A6 n6 c6 r.1 B6 m6 d6 r.2 W hI6W hB6W hcl hm
            have Hcc := Lib.hid hcc
            have Hcl := Lib.hid hcl
            have hl4 := compF_len4 hcl
            have Hl4 := Lib.hid hl4
            clear hcc hm hcl hl4
            go_wp2_with fail
            refine Hcc.out.mono ?_
            rintro q w10 ⟨Ax, nx, cx, rfl, hX, hb10⟩
            have hbw10 := HbwW.out.trans (hb10.mono HbwW.out.size)
            have x210 := (hb10.block w.heap.size (block_lt hx2W)).trans hx2W
            have xc10 := (hb10.block gc yl2).trans xW
            have hI10 := hI6W.below hb10
            have hB10 : IsLs w10 B6 m6 d6 r.2 := IsG.below keepsLit hB6W hb10
            have hK10 : IsK w10 (some ⟨b, off, none⟩) (m + 1) cap l := IsG.below keepsIn hKW2 hb10
            have hsm := same10_V Ax (some ⟨b, off, none⟩) nx (m + 1) cx cap (compF cl) l w10 hX hK10 (by have := hX.len; have := Hl4.out; omega) (by omega)
            by_cases hce : compF cl = l
            · rw [(sameIn_iff _ _).2 hce] at hsm
              have Hsm := Lib.hid hsm
              have hfin := Heq2.out cl Hcl.out hce
              have Hfin := Lib.hid hfin
              have Hce := Lib.hid hce
              clear hsm y0 y1 hb10 hce hX hfin
              go_wp2_with fail
              refine Hsm.out.mono ?_
              rintro q w11 ⟨rfl, hb11⟩
              have hbw11 := hbw10.trans (hb11.mono hbw10.size)
              have x211 := (hb11.block w.heap.size (block_lt x210)).trans x210
              have xc11 := (hb11.block gc (block_lt xc10)).trans xc10
              obtain ⟨z0, z1, zl⟩ := open2 x211
              have zf0 := frozen_of x211 0
              have zf1 := frozen_of x211 1
              obtain ⟨y0, y1, yl3⟩ := open2 xc11
              have hI11 := hI10.below hb11
              have hB11 : IsLs w11 B6 m6 d6 r.2 := IsG.below keepsLit hB10 hb11
              go_wp2_with fail
              refine bodyPost_ret (v := .tuple #[.agg #[.slice A6 n6 c6, .slice B6 m6 d6], .bool true]) (by simp [results, Try.results21, go_sem, *]) rfl ?_
              have hrc := Hfin.out
              have hcl' := Hcl.out
              subst hrc
              exact .inr ⟨cl, A6, n6, c6, B6, m6, d6, hcl', Hce.out, rfl, c_keep x211 hI11 (but2 _ _ _ _), ls_keep x211 hB11 (but2 _ _ _ _), Below.setCell (Below.setCell hbw11 (Nat.le_refl _) _) (Nat.le_refl _) _⟩
            · have hsf : sameIn (compF cl) l = false := by rw [← Bool.not_eq_true, sameIn_iff]; exact hce
              rw [hsf] at hsm
              have Hsm := Lib.hid hsm
              have Hno := Lib.hid (Hne2.out cl Hcl.out hce)
              clear hsm y0 y1 hb10 hce hX hsf
              go_wp2_with fail
              refine Hsm.out.mono ?_
              rintro q w11 ⟨rfl, hb11⟩
              have hbw11 := hbw10.trans (hb11.mono hbw10.size)
              have x211 := (hb11.block w.heap.size (block_lt x210)).trans x210
              obtain ⟨z0, z1, zl⟩ := open2 x211
              have zf0 := frozen_of x211 0
              have zf1 := frozen_of x211 1
              go_wp2_with fail
              refine bodyPost_ret (v := .tuple #[.agg #[.slice none 0 0, .slice none 0 0], .bool false]) (by simp [results, Try.results21, go_sem, *]) rfl ?_
              exact .inl ⟨rfl, Hno.out, Below.setCell (Below.setCell hbw11 (Nat.le_refl _) _) (Nat.le_refl _) _⟩
end Go.Proofs.Ytdeaeiolehglaaa
