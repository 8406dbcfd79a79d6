/- Texts of this proof that belong together: words of memory, plain laws, walks. -/
import Derived.BigQuiet
import Derived.WalkMore
import Derived.Test.YtgipiplklaeplaaDoorB02
import Derived.Test.YtgipiplklaeplaaDoorB08
import Derived.Test.YtgipiplklaeplaaDoorB09
import Derived.Test.YtgipiplklaeplaaDoorB10
import Derived.Test.YtgipiplklaeplaaDoorB11
import Derived.Test.YtgipiplklaeplaaDoorB14
import Derived.Test.YtgipiplklaeplaaDoorB15
import Derived.Test.YtgipiplklaeplaaDoorB16
import Derived.Test.YtgipiplklaeplaaDoorB20
import Derived.Test.YtgipiplklaeplaaDoorB21
import Derived.Test.YtgipiplklaeplaaDoorB35
import Derived.Test.YtgipiplklaeplaaDoorB41
import Derived.Test.YtgipiplklaeplaaDoorB42
set_option linter.unusedVariables false
set_option linter.unusedSimpArgs false
namespace Go.Proofs.YtgipiplklaeplaaDoor
open Go.RowKit
def fewB (r : Raw) (most : Int) : Bool := decide ((r.1.length : Int) ≤ most) && (decide (r.2.length ≤ 8) && (r.2.all (fun l => decide ((l.2.length : Int) ≤ most)) && mayB r))
theorem atom11_any (A : Option Addr) (n cap : Nat) (t : List C) (w : World) (h : IsC w A n cap t) :
  Calls Tryd.prog 11 #[.slice A n cap] w (RetV w (.bool (decide (t.length ≤ 40) && atomB t))) := by
 have hl := h.len
 by_cases h40 : t.length ≤ 40
 ·have hr : (decide (t.length ≤ 40) && atomB t) = atomB t := by simp [h40]
  rw [hr]
  have hat := rAtom_any A n cap t w h (by omega)
  have Hat := Lib.hid hat
  have hn : (n : Int) ≤ 40 := by omega
  clear hat hr h40 hl
  go_enter Tryd.func11, Tryd.ntmps11
  go_wp2_with (first | (go_at_call 38; go_must (refine Hat.out.mono ?_); rintro e w1 ⟨rfl, hb⟩))
  go_ret
  exact ⟨rfl, hb⟩
 ·have hr : (decide (t.length ≤ 40) && atomB t) = false := by simp [h40]
  rw [hr]
  have hn : ¬ (n : Int) ≤ 40 := by omega
  clear hr h40 hl
  go_enter Tryd.func11, Tryd.ntmps11
  go_wp2
  go_ret
  exact ⟨rfl, Below.refl _ _⟩
set_option maxRecDepth 100000 in
set_option maxHeartbeats 2000000 in
theorem rFew_any (A : Option Addr) (n cap : Nat) (t : List C) (B : Option Addr) (m d : Nat) (b : List (Bool × List C)) (most : Int) (w : World) (h : IsC w A n cap t) (hB : IsLs w B m d b) (hmost : 0 ≤ most ∧ most ≤ 1000) (hmi : i64 most) :
  Calls Tryd.prog 12 #[.agg #[.slice A n cap, .slice B m d], .int .i64 most] w (RetV w (.bool (fewB (t, b) most))) := by
 have hal : Below w.heap.size w (w.alloc (.cells #[.slice A n cap, .slice B m d] 25)) := (Below.refl _ _).alloc (Nat.le_refl _) _
 have hl := h.len
 have hml := hB.len
 by_cases h1 : most < (n : Int)
 ·have hr : fewB (t, b) most = false := by
   have : ¬ (t.length : Int) ≤ most := by omega
   simp [fewB, this]
  rw [hr]
  clear hr hl hml h hB
  go_enter Tryd.func12, Tryd.ntmps12
  go_wp2
  go_ret
  exact ⟨rfl, hal⟩
 by_cases h2 : 8 < m
 ·have hr : fewB (t, b) most = false := by
   have : ¬ b.length ≤ 8 := by omega
   simp [fewB, this]
  rw [hr]
  have h3 : (8 : Int) < (m : Int) := by omega
  clear hr hl hml h hB
  go_enter Tryd.func12, Tryd.ntmps12
  go_wp2
  go_ret
  exact ⟨rfl, hal⟩
 have h3 : ¬ (8 : Int) < (m : Int) := by omega
 have hfew : fewB (t, b) most = (b.all (fun l => decide ((l.2.length : Int) ≤ most)) && mayB (t, b)) := by
  have e1 : (t.length : Int) ≤ most := by omega
  have e2 : b.length ≤ 8 := by omega
  simp [fewB, e1, e2]
 obtain ⟨R, hR⟩ : ∃ R, fewB (t, b) most = R := ⟨_, rfl⟩
 rw [hR]
 rw [hfew] at hR
 have HR := Lib.hid hR
 clear hR
 have Hml := Lib.hid hml
 have Hl := Lib.hid hl
 clear hfew hl hml
 go_enter Tryd.func12, Tryd.ntmps12
 go_upto_region 1 with fail
 refine wp_world' (Φ := fun X => Below w.heap.size w X ∧ X.heap[w.heap.size]? = some (.cells #[.slice A n cap, .slice B m d] 25 (0, 0))) ⟨hal, alloc_at rfl⟩ ?_
 rintro X ⟨hbX, x0⟩
 obtain ⟨y0, y1, yl⟩ := open2 x0
 have hBX := Lib.hid (IsG.below keepsLit hB hbX)
 have hHX := Lib.hid (h.below hbX)
 have hcap := hB.cap_le
 go_wp2
 go_loopw [5] (fun i wr => ∃ k : Nat, k ≤ m ∧ i = .int .i64 k ∧ Hid ((b.take k).all (fun l => decide ((l.2.length : Int) ≤ most)) = true) ∧ wr = X) (fun i _ => m - (intOf i).toNat)
 case atStart => exact ⟨0, Nat.zero_le _, rfl, by exact Lib.hid rfl, rfl⟩
 case round =>
  obtain ⟨k, hk, rfl, hall, rfl⟩ := hrel
  by_cases hlt : k < m
  ·obtain ⟨p, hpk⟩ := hBX.out.get hlt
   obtain ⟨b1, o1, A1, n1, c1, rfl, hb1, i1, u0, u1⟩ := lits_at hBX.out hpk
   have hn1 := i1.len
   have hp : (k : Int) < (m : Int) := by omega
   by_cases h4 : most < (n1 : Int)
   ·have hr : (b.all (fun l => decide ((l.2.length : Int) ≤ most)) && mayB (t, b)) = false := by
     have : b.all (fun l => decide ((l.2.length : Int) ≤ most)) = false := by
      rw [List.all_eq_false]
      exact ⟨p, List.mem_of_getElem? hpk, by simp; omega⟩
     rw [this]; rfl
    have hRf : R = false := by rw [← HR.out, hr]
    subst hRf
    clear hr hpk
    go_wp2
    go_ret
    exact ⟨rfl, hbX⟩
   ·have Hpk := Lib.hid hpk
    have Hn1 := Lib.hid hn1
    clear hpk hn1
    go_wp2
    go_roundw
    case rel =>
     refine ⟨k + 1, by omega, by go_num, Lib.hid ?_, by first | rfl | trivial⟩
     obtain ⟨hl2, he⟩ := List.getElem?_eq_some_iff.1 Hpk.out
     rw [List.take_succ_eq_append_getElem hl2, he, List.all_append, hall.out]
     have := Hn1.out
     simp
     omega
    case measure => simp [intOf]; omega
  ·have hall2 : b.all (fun l => decide ((l.2.length : Int) ≤ most)) = true := by
    have := hall.out
    rw [List.take_of_length_le (by have := Hml.out; omega)] at this
    exact this
   have hRt := HR.out
   rw [hall2, Bool.true_and] at hRt
   have HRt := Lib.hid hRt
   clear hRt
   have hs : ∀ x ∈ b, x.2.length ≤ 1000 := fun x hx => by
    have := List.all_eq_true.1 hall2 x hx
    simp at this
    omega
   have hmay := rMay_any A n cap t B m d b _ hHX.out hBX.out (by omega) (by omega) hs
   have Hmay := Lib.hid hmay
   rw [HRt.out] at Hmay
   clear hall hall2 hs hmay
   go_wp2_with (first | (go_at_call 39; go_must (refine Hmay.out.mono ?_); rintro e w1 ⟨rfl, hb⟩))
   go_ret
   exact ⟨rfl, hbX.trans (hb.mono hbX.size)⟩
end Go.Proofs.YtgipiplklaeplaaDoor
namespace Go.Proofs.YtgipiplklaeplaaDoor
open Go.RowKit
def subT : List Tm → Nat → Option Tm
 | [], _ => none
 | t :: _, 0 => some t
 | .f _ us :: ts, i + 1 => subT (us ++ ts) i
 | .v _ :: ts, i + 1 => subT ts i
 | .i _ :: ts, i + 1 => subT ts i
theorem flats_app9 : ∀ a b : List Tm, flats (a ++ b) = flats a ++ flats b
 | [], b => rfl
 | t :: a, b => by rw [List.cons_append, flats_cons, flats_cons, flats_app9 a b, List.append_assoc]
theorem sizes_app9 : ∀ a b : List Tm, sizes (a ++ b) = sizes a + sizes b
 | [], b => by simp [sizes]
 | t :: a, b => by rw [List.cons_append]; simp only [sizes]; rw [sizes_app9 a b]; omega
theorem subT_drop : ∀ (i : Nat) (ts : List Tm) (u : Tm), subT ts i = some u → ∃ r, (flats ts).drop i = u.flat ++ r
 | 0, [], u, h => by simp [subT] at h
 | 0, t :: ts, u, h => by
  simp [subT] at h
  subst h
  exact ⟨flats ts, by rw [flats_cons]; rfl⟩
 | i + 1, [], u, h => by simp [subT] at h
 | i + 1, .v n :: ts, u, h => by
  obtain ⟨r, hr⟩ := subT_drop i ts u h
  exact ⟨r, by rw [flats_cons]; simpa [Tm.flat] using hr⟩
 | i + 1, .i n :: ts, u, h => by
  obtain ⟨r, hr⟩ := subT_drop i ts u h
  exact ⟨r, by rw [flats_cons]; simpa [Tm.flat] using hr⟩
 | i + 1, .f s us :: ts, u, h => by
  obtain ⟨r, hr⟩ := subT_drop i (us ++ ts) u h
  exact ⟨r, by rw [flats_cons]; rw [flats_app9] at hr; simpa [Tm.flat] using hr⟩
theorem subT_some : ∀ (i : Nat) (ts : List Tm), i < sizes ts → ∃ u, subT ts i = some u
 | i, [], h => by simp [sizes] at h
 | 0, t :: ts, _ => ⟨t, rfl⟩
 | i + 1, .v n :: ts, h => subT_some i ts (by simp [sizes, Tm.size] at h; omega)
 | i + 1, .i n :: ts, h => subT_some i ts (by simp [sizes, Tm.size] at h; omega)
 | i + 1, .f s us :: ts, h => subT_some i (us ++ ts) (by rw [sizes_app9]; simp [sizes, Tm.size] at h; omega)
theorem flats_size9 (ts : List Tm) : (flats ts).length = sizes ts := flats_size ts
theorem subT_lt {i : Nat} {ts : List Tm} {u : Tm} (h : subT ts i = some u) : i + u.size ≤ sizes ts := by
 obtain ⟨r, hr⟩ := subT_drop i ts u h
 have h1 := congrArg List.length hr
 rw [List.length_drop, List.length_append, flat_size, flats_size9] at h1
 have := u.size_pos
 omega
theorem flat_c0 (u : Tm) : ∃ r, u.flat = u.c0 :: r := by
 cases u with
 | v n => exact ⟨[], rfl⟩
 | i n => exact ⟨[], rfl⟩
 | f s us => exact ⟨flats us, rfl⟩
end Go.Proofs.YtgipiplklaeplaaDoor
namespace Go.Proofs.YtgipiplklaeplaaDoor
open Go.RowKit
theorem sizes_len9 (ts : List Tm) : ts.length ≤ sizes ts := by
 induction ts with
 | nil => simp
 | cons t ts ih => simp only [sizes, List.length_cons]; have := t.size_pos; omega
set_option maxHeartbeats 1000000 in
theorem uEnd_any (A : Option Addr) (n c : Nat) (ts : List Tm) (i : Nat) (u : Tm) (w : World) (h : IsC w A n c (flats ts)) (hu : subT ts i = some u) (hn : n ≤ 100000) :
  Calls Tryd.prog 48 #[.slice A n c, .int .i64 i] w fun e w' => e = .returned (.int .i64 ((i + u.size : Nat) : Int)) ∧ w = w' := by
 have hl := h.len
 rw [flats_size9] at hl
 have hend := subT_lt hu
 obtain ⟨r0, hr0⟩ := subT_drop i ts u hu
 have hN : i + u.size ≤ n := by omega
 generalize hE : i + u.size = E at *
 have HE := Lib.hid hE
 have HC := Lib.hid h
 have Hr0 := Lib.hid hr0
 have hcd := h.sl.hcap
 have hcm := h.sl.hmax
 unfold maxLen at hcm
 clear hl h hr0 hE hu hend
 go_enter Tryd.func48, Tryd.ntmps48
 go_wp2
 go_loop [5, 1] (fun lv av => ∃ (k : Nat) (ws : List Tm) (r : List C) (m : Nat), m ≤ n ∧ k ≤ E ∧ lv = .int .i64 m ∧ av = .int .i64 k ∧ Hid (ws.length = m ∧ (flats ts).drop k = flats ws ++ r ∧ k + sizes ws = E)) (fun _ av => E - (intOf av).toNat)
 case atStart => exact ⟨i, [u], r0, 1, by have := HE.out; have := u.size_pos; omega, by have := HE.out; omega, rfl, rfl, Lib.hid ⟨rfl, by rw [Hr0.out]; simp [flats], by have := HE.out; simp [sizes]; omega⟩⟩
 case round =>
  obtain ⟨k, ws, r, m, hm, hk, rfl, rfl, hq⟩ := hrel
  cases ws with
  | nil =>
   obtain rfl : m = 0 := by have := hq.out.1; simpa using this.symm
   have hkE : k = E := by have := hq.out.2.2; simpa [sizes] using this
   go_wp2
   go_ret
   exact ⟨ret_int (by first | rfl | omega), rfl⟩
  | cons t ws =>
   obtain ⟨q1, q2, q3⟩ := hq.out
   simp only [List.length_cons] at q1
   simp only [sizes] at q3
   have hts := t.size_pos
   have hwl := sizes_len9 ws
   have hkn : k < n := by omega
   have hm0 : (0 : Int) < (m : Int) := by omega
   obtain ⟨r2, hr2⟩ := flat_c0 t
   have hcell : (flats ts)[k]? = some t.c0 := by
    have : ((flats ts).drop k)[0]? = some t.c0 := by rw [q2, flats_cons, hr2]; rfl
    rw [List.getElem?_drop] at this
    simpa using this
   obtain ⟨b, off, rfl, hb, hwf, e0, e1, e2⟩ := HC.out.at_ hcell
   have hd1 : (flats ts).drop (k + 1) = r2 ++ flats ws ++ r := by
    have := congrArg (List.drop 1) q2
    rw [List.drop_drop, flats_cons, hr2] at this
    simpa using this
   have Hd1 := Lib.hid hd1
   have hmw : m = ws.length + 1 := by omega
   cases t with
   | v x =>
    have hr2' : r2 = [] := by simpa [Tm.flat, Tm.c0] using hr2.symm
    have Hr2 := Lib.hid hr2'
    simp only [Tm.c0] at e0 e2
    simp only [Tm.size] at q3
    clear hq q1 q2 hr2 hr2' hcell hwf hd1
    go_wp2
    go_round
    case rel => exact ⟨k + 1, ws, r, m - 1, by omega, by omega, by go_num, by go_num, Lib.hid ⟨by omega, by rw [Hd1.out, Hr2.out]; rfl, by omega⟩⟩
    case measure => simp [intOf]; omega
   | i x =>
    have hr2' : r2 = [] := by simpa [Tm.flat, Tm.c0] using hr2.symm
    have Hr2 := Lib.hid hr2'
    simp only [Tm.c0] at e0 e2
    simp only [Tm.size] at q3
    clear hq q1 q2 hr2 hr2' hcell hwf hd1
    go_wp2
    go_round
    case rel => exact ⟨k + 1, ws, r, m - 1, by omega, by omega, by go_num, by go_num, Lib.hid ⟨by omega, by rw [Hd1.out, Hr2.out]; rfl, by omega⟩⟩
    case measure => simp [intOf]; omega
   | f s us =>
    have hr2' : r2 = flats us := by simpa [Tm.flat, Tm.c0] using hr2.symm
    have Hr2 := Lib.hid hr2'
    have hul := sizes_len9 us
    simp only [Tm.c0] at e0 e2
    simp only [Tm.size] at q3
    clear hq q1 q2 hr2 hr2' hcell hwf hd1
    go_wp2
    go_round
    case rel => exact ⟨k + 1, us ++ ws, r, m - 1 + us.length, by omega, by omega, by go_num, by go_num, Lib.hid ⟨by rw [List.length_append]; omega, by rw [Hd1.out, Hr2.out, flats_app9], by rw [sizes_app9]; omega⟩⟩
    case measure => simp [intOf]; omega
end Go.Proofs.YtgipiplklaeplaaDoor
namespace Go.Proofs.YtgipiplklaeplaaDoor
open Go.RowKit
theorem Sl.same9 {w w' : World} {size n c : Nat} {A : Option Addr} {xs : List Value} (h : Sl w size A n c xs) (hs : w.heap.size ≤ w'.heap.size) (hb : n ≠ 0 → ∀ a, A = some a → w'.heap[a.block]? = w.heap[a.block]?) : Sl w' size A n c xs :=
 ⟨h.len, h.hcap, h.hmax, fun hp => by
  obtain ⟨b, off, hA, hlt, hc⟩ := h.cells hp
  exact ⟨b, off, hA, Nat.lt_of_lt_of_le hlt hs, fun i v hv => (World.cell?_of_block (a := ⟨b, off + i, none⟩) (show w'.heap[b]? = w.heap[b]? from hb (by omega) _ hA)).trans (hc i v hv)⟩⟩
theorem own_typ9 {w : World} {base size n cap : Nat} {e : TypeId} {a : Addr} {xs : List Value} (h : w.ownsRow base e size (.slice (some a) n cap) n xs) : ∃ cur, w.heap[a.block]? = some (.cells cur e (0, 0)) := by
 rcases h.2 with ⟨h1, _⟩ | ⟨g, cap', cur, h1, hb, h2, _⟩
 ·cases h1
 ·injection h1 with e1 e2 e3
  injection e1 with e1
  subst e1
  exact ⟨_, h2⟩
theorem IsI.from9 {w : World} {B : Option Addr} {m d mt : Nat} {tr : List Int} (h : IsI w B m d tr) (hmt : mt ≤ m) : IsI w (if d = mt then B else B.map (·.add mt)) (m - mt) (d - mt) (tr.drop mt) := by
 refine ⟨?_, fun x hx => h.wf x (List.mem_of_mem_drop hx)⟩
 have hl := h.len
 have := h.sl.cut hmt (Nat.le_refl _) (by omega)
 simp only [Nat.mul_one] at this
 rw [← List.map_drop, List.take_of_length_le (by rw [List.length_map, List.length_drop]; omega)] at this
 exact this
def IT (w : World) (A : Option Addr) (n c : Nat) (l : List Int) : Prop := IsI w A n c l ∧ ∀ a, A = some a → ∃ cur, w.heap[a.block]? = some (.cells cur 3 (0, 0))
theorem IT.below {w w' : World} {A : Option Addr} {n c : Nat} {l : List Int} (h : IT w A n c l) (hb : Below w.heap.size w w') : IT w' A n c l :=
 ⟨h.1.below hb, fun a ha => by obtain ⟨cur, hc⟩ := h.2 a ha; exact ⟨cur, (hb.block a.block (block_lt hc)).trans hc⟩⟩
end Go.Proofs.YtgipiplklaeplaaDoor
namespace Go.Proofs.YtgipiplklaeplaaDoor
open Go.RowKit
theorem add_flat9 (b o k : Nat) : (⟨b, o, none⟩ : Addr).add k = ⟨b, o + k, none⟩ := by
 unfold Addr.add
 split
 ·rename_i h; subst h; rfl
 ·rfl
def RisOk (l : List C) (k : Nat) (L : List Int) : Prop := ∀ x, x ∈ L ↔ ∃ j c, j < k ∧ l[j]? = some c ∧ c.kind = 1 ∧ c.n = x
theorem RisOk.skip {l : List C} {k : Nat} {L : List Int} (h : RisOk l k L) {c : C} (hc : l[k]? = some c) (hk : c.kind ≠ 1 ∨ c.n ∈ L) : RisOk l (k + 1) L := fun x => by
 refine ⟨fun hx => ?_, ?_⟩
 ·obtain ⟨j, c', h1, h2⟩ := (h x).1 hx
  exact ⟨j, c', by omega, h2⟩
 ·rintro ⟨j, c', h1, h2, h3, h4⟩
  by_cases e : j = k
  ·subst e
   rw [hc] at h2
   injection h2 with h2
   subst h2
   rcases hk with hk | hk
   ·exact absurd h3 hk
   ·rw [← h4]; exact hk
  ·exact (h x).2 ⟨j, c', by omega, h2, h3, h4⟩
theorem RisOk.put {l : List C} {k : Nat} {L : List Int} (h : RisOk l k L) {c : C} (hc : l[k]? = some c) (hk : c.kind = 1) (i : Nat) : RisOk l (k + 1) (L.take i ++ [c.n] ++ L.drop i) := fun x => by
 have hm : x ∈ L.take i ++ [c.n] ++ L.drop i ↔ x ∈ L ∨ x = c.n := by
  conv => rhs; rw [← List.take_append_drop i L]
  simp only [List.mem_append, List.mem_singleton]
  constructor
  ·rintro ((h | h) | h)
   ·exact .inl (.inl h)
   ·exact .inr h
   ·exact .inl (.inr h)
  ·rintro ((h | h) | h)
   ·exact .inl (.inl h)
   ·exact .inr h
   ·exact .inl (.inr h)
 rw [hm]
 constructor
 ·rintro (hx | rfl)
  ·obtain ⟨j, c', h1, h2⟩ := (h x).1 hx
   exact ⟨j, c', by omega, h2⟩
  ·exact ⟨k, c, by omega, hc, hk, rfl⟩
 ·rintro ⟨j, c', h1, h2, h3, h4⟩
  by_cases e : j = k
  ·subst e
   rw [hc] at h2
   injection h2 with h2
   subst h2
   exact .inr h4.symm
  ·exact .inl ((h x).2 ⟨j, c', by omega, h2, h3, h4⟩)
def RetRis (l : List C) (w : World) (e : Ending) (w' : World) : Prop := ∃ A n c L, e = .returned (.slice A n c) ∧ IT w' A n c L ∧ Below w.heap.size w w' ∧ n ≤ l.length ∧ RisOk l l.length L
set_option maxRecDepth 100000 in
set_option maxHeartbeats 8000000 in
theorem urising_any (A : Option Addr) (n c : Nat) (l : List C) (w : World) (h : IsC w A n c l) (hn : n ≤ 100000) :
  Calls Tryd.prog 50 #[.slice A n c] w (RetRis l w) := by
 have hl := h.len
 have HC := Lib.hid h
 have Hl := Lib.hid hl
 have hcd := h.sl.hcap
 have hcm := h.sl.hmax
 unfold maxLen at hcm
 clear h hl
 go_enter Tryd.func50, Tryd.ntmps50
 go_wp2
 go_loopw [3, 4] (fun ov iv wr => ∃ (i n2 c2 : Nat) (L : List Int) (A2 : Option Addr), i ≤ n ∧ n2 ≤ i ∧ iv = .int .i64 i ∧ ov = .slice A2 n2 c2 ∧ IT wr A2 n2 c2 L ∧ Hid (RisOk l i L) ∧ Below w.heap.size w wr) (fun _ iv _ => n - (intOf iv).toNat)
 case atStart => exact ⟨0, 0, 0, [], _, Nat.zero_le _, Nat.le_refl _, rfl, rfl, ⟨IsI.nil _ _ _ (by simp [maxLen]), fun a ha => by injection ha with ha; subst ha; exact ⟨_, alloc_at rfl⟩⟩, Lib.hid (fun x => by simp), (Below.refl _ _).alloc (Nat.le_refl _) _⟩
 case round =>
  obtain ⟨i, n2, c2, L, A2, hi, hn2, rfl, rfl, hI, hris, hb⟩ := hrel
  have HIT := Lib.hid hI
  replace hI := hI.1
  have HI := Lib.hid hI
  have hLl := hI.len
  have HLl := Lib.hid hLl
  have hc1 := hI.sl.hcap
  have hc2 := hI.sl.hmax
  unfold maxLen at hc2
  have Hb := Lib.hid hb
  have hszb := hb.size
  clear hI hLl hb
  by_cases hin : i < n
  ·obtain ⟨x, hx⟩ : ∃ x, l[i]? = some x := ⟨_, List.getElem?_eq_getElem (by have := Hl.out; omega)⟩
   obtain ⟨b, off, rfl, hbb, hwf, e0, e1, e2⟩ := HC.out.at_ hx
   have Hx := Lib.hid hx
   have Hwf := Lib.hid hwf
   have k0 := (Hb.out.cell (p := ⟨b, off + i * 3, none⟩) hbb).trans e0
   have k2 := (Hb.out.cell (p := ⟨b, off + i * 3 + 2, none⟩) hbb).trans e2
   have hbbr : b < wr.heap.size := Nat.lt_of_lt_of_le hbb hszb
   clear hx hwf e0 e1 e2
   obtain ⟨wr0, hwr0⟩ : ∃ wr0, wr0 = wr := ⟨_, rfl⟩
   go_wp2
   go_loopw [5] (fun av wr3 => ∃ at_ : Nat, at_ ≤ n2 ∧ av = .int .i64 at_ ∧ Below wr0.heap.size wr0 wr3) (fun av _ => n2 - (intOf av).toNat)
   case atStart => exact ⟨0, Nat.zero_le _, rfl, by rw [hwr0]; exact Below.refl _ _⟩
   case round =>
    subst hwr0
    obtain ⟨at_, hat, rfl, hb3⟩ := hrel
    have j0 := (hb3.cell (p := ⟨b, off + i * 3, none⟩) hbbr).trans k0
    have j2 := (hb3.cell (p := ⟨b, off + i * 3 + 2, none⟩) hbbr).trans k2
    have hbr3 : b < wr.heap.size := Nat.lt_of_lt_of_le hbbr hb3.size
    by_cases han : at_ < n2
    ·obtain ⟨y, hy⟩ : ∃ y, L[at_]? = some y := ⟨_, List.getElem?_eq_getElem (by have := HLl.out; omega)⟩
     obtain ⟨b2, off2, rfl, hb2, hwfy, f0⟩ := HI.out.at_ hy
     have f0' := (hb3.cell (p := ⟨b2, off2 + at_, none⟩) hb2).trans f0
     have hb2r : b2 < wr.heap.size := Nat.lt_of_lt_of_le hb2 hb3.size
     have hym := List.mem_of_getElem? hy
     have Hym := Lib.hid hym
     have hlt2 : ((at_ : Int) < (n2 : Int)) := by omega
     clear hy hwfy f0 hym
     by_cases hyx : y < x.n
     ·first | go_upto_region 6 with fail | skip
      go_quiet (fail)
      go_wp2
      go_roundw
      case rel => exact ⟨at_ + 1, by omega, by go_num, below_drewN hb3 _⟩
      case measure => simp [intOf]; omega
     ·by_cases hye : y = x.n
      ·have hyb : (y == x.n) = true := by simp [hye]
       have Hmem := Lib.hid (show x.n ∈ L by rw [← hye]; exact Hym.out)
       clear hye
       first | go_upto_region 6 with fail | skip
       go_quiet (fail)
       by_cases hk1 : x.kind = 1
       ·have hk1' : (x.kind != 1) = false := by simp [hk1]
        have Hsk := Lib.hid (hris.out.skip Hx.out (.inr Hmem.out))
        clear hk1
        go_upto_region 8 with fail
        go_quiet (fail)
        go_wp2
        go_roundw
        case rel => exact ⟨i + 1, n2, c2, L, _, by omega, by omega, by go_num, rfl, HIT.out.below (below_drewN hb3 _), Hsk, Hb.out.trans ((below_drewN hb3 _).mono hszb)⟩
        case measure => simp [intOf]; omega
       ·have hk1' : (x.kind != 1) = true := by simp [hk1]
        have Hsk := Lib.hid (hris.out.skip Hx.out (.inl hk1))
        clear hk1
        go_upto_region 8 with fail
        go_quiet (fail)
        go_wp2
        go_roundw
        case rel => exact ⟨i + 1, n2, c2, L, _, by omega, by omega, by go_num, rfl, HIT.out.below (below_drewN hb3 _), Hsk, Hb.out.trans ((below_drewN hb3 _).mono hszb)⟩
        case measure => simp [intOf]; omega
      ·have hyb : (y == x.n) = false := by simp [hye]
       clear hye
       first | go_upto_region 6 with fail | skip
       go_quiet (fail)
       by_cases hk1 : x.kind = 1
       ·have Hput := Lib.hid (hris.out.put Hx.out hk1 at_)
        have hk1' : (x.kind != 1) = false := by simp [hk1]
        have Hbr := Lib.hid (fun q => below_drewN hb3 q)
        clear hk1
        go_upto_region 8 with fail
        go_quiet (fail)
        have HT0 := Lib.hid (HI.out.take hat)
        go_upto_region 10 with (first
         | (at_builtin; go_must (refine wpList_append_sl rfl (.tmp 56) (.tmp 59) 42 rfl wr0.heap.size 3 Tryd.underlying42 infoI rfl (by omega) rfl (World.ownsRow_lit _ #[] 0 ((Hbr.out _).size) (by simp [maxLen]) rfl) rfl ((HT0.out.below (Hbr.out _)).below ((Below.refl _ _).alloc (Nat.le_refl _) _)).sl (oneI _ (L.take at_)) (by omega) (by omega) (by have := hb3.size; simp; omega) ?_); intro A3 c3 w3 hown3 hb4 _ _; have Hown3 := Lib.hid (show w3.ownsRow wr0.heap.size 3 1 (.slice A3 at_ c3) at_ ((L.take at_).map (Value.int .i64)) by simpa using hown3); have Hb3 := Lib.hid (((Hbr.out _).alloc ((Hbr.out _).size) _).trans hb4); clear hown3 hb4))
        have h3z := Hb3.out.size
        have r0 := (Hb3.out.cell (p := ⟨b, off + i * 3 + 2, none⟩) hbbr).trans k2
        have hbb3 : b < w3.heap.size := by omega
        have HOa := Lib.hid (Hown3.out.alloc (.cells #[.int .i64 x.n] 3))
        clear Hown3
        go_upto_region 11 with (first
         | (at_builtin; go_must (refine wpList_append_sl rfl (.tmp 61) (.tmp 67) 42 rfl wr0.heap.size 3 Tryd.underlying42 infoI rfl (by omega) rfl HOa.out rfl (Sl.lit w3 _ [.int .i64 x.n] 3 1 1 (by simp) rfl (by simp [maxLen])) (one1 rfl) (by omega) (by omega) (by simp; omega) ?_); intro A4 c4 w4 hown4 hb5 _ _; have Hown4 := Lib.hid hown4; have Hb4 := Lib.hid ((Hb3.out.alloc h3z _).trans hb5); clear hown4 hb5))
        have h4z := Hb4.out.size
        have hfr := HI.out.from9 hat
        by_cases hct : c2 = at_
        ·obtain rfl : at_ = n2 := by omega
         subst hct
         rw [if_pos rfl, Nat.sub_self] at hfr
         have HQ := Lib.hid hfr
         clear hfr
         go_wp2_with (first
          | (at_builtin; go_must (refine wpList_append_sl rfl (.tmp 69) (.tmp 72) 42 rfl wr0.heap.size 3 Tryd.underlying42 infoI rfl (by omega) rfl Hown4.out rfl (HQ.out.below Hb4.out).sl (oneI _ _) (by omega) (by omega) (by omega) ?_); intro A5 c5 w5 hown5 hb6 _ _; have Hown5 := Lib.hid hown5; have Hb5 := Lib.hid (Hb4.out.trans hb6); clear hown5 hb6))
         go_roundw
         case rel => exact ⟨i + 1, _, _, _, _, by omega, by omega, by go_num, rfl, ⟨⟨by have h9 := Sl.own Hown5.out (by omega); rw [List.map_append, List.map_append]; exact h9, fun y hy => by
          rcases List.mem_append.1 hy with hy | hy
          ·rcases List.mem_append.1 hy with hy | hy
           ·exact HI.out.wf y (List.mem_of_mem_take hy)
           ·obtain rfl := List.mem_singleton.1 hy
            exact Hwf.out.n
          ·exact HI.out.wf y (List.mem_of_mem_drop hy)⟩, fun a ha => by subst ha; exact own_typ9 Hown5.out⟩, Hput, Hb.out.trans (Hb5.out.mono hszb)⟩
         case measure => simp [intOf]; omega
        ·rw [if_neg hct] at hfr
         try simp only [Option.map_some, add_flat9] at hfr
         have HQ := Lib.hid hfr
         clear hfr
         go_wp2_with (first
          | (at_builtin; go_must (refine wpList_append_sl rfl (.tmp 69) (.tmp 72) 42 rfl wr0.heap.size 3 Tryd.underlying42 infoI rfl (by omega) rfl Hown4.out rfl (HQ.out.below Hb4.out).sl (oneI _ _) (by omega) (by omega) (by omega) ?_); intro A5 c5 w5 hown5 hb6 _ _; have Hown5 := Lib.hid hown5; have Hb5 := Lib.hid (Hb4.out.trans hb6); clear hown5 hb6))
         go_roundw
         case rel => exact ⟨i + 1, _, _, _, _, by omega, by omega, by go_num, rfl, ⟨⟨by have h9 := Sl.own Hown5.out (by omega); rw [List.map_append, List.map_append]; exact h9, fun y hy => by
          rcases List.mem_append.1 hy with hy | hy
          ·rcases List.mem_append.1 hy with hy | hy
           ·exact HI.out.wf y (List.mem_of_mem_take hy)
           ·obtain rfl := List.mem_singleton.1 hy
            exact Hwf.out.n
          ·exact HI.out.wf y (List.mem_of_mem_drop hy)⟩, fun a ha => by subst ha; exact own_typ9 Hown5.out⟩, Hput, Hb.out.trans (Hb5.out.mono hszb)⟩
         case measure => simp [intOf]; omega
       ·have hk1' : (x.kind != 1) = true := by simp [hk1]
        have Hsk := Lib.hid (hris.out.skip Hx.out (.inl hk1))
        clear hk1
        go_upto_region 8 with fail
        go_quiet (fail)
        go_wp2
        go_roundw
        case rel => exact ⟨i + 1, n2, c2, L, _, by omega, by omega, by go_num, rfl, HIT.out.below (below_drewN hb3 _), Hsk, Hb.out.trans ((below_drewN hb3 _).mono hszb)⟩
        case measure => simp [intOf]; omega
    ·first | go_upto_region 6 with fail | skip
     go_quiet (fail)
     by_cases hk1 : x.kind = 1
     ·have Hput := Lib.hid (hris.out.put Hx.out hk1 at_)
      have hk1' : (x.kind != 1) = false := by simp [hk1]
      have Hbr := Lib.hid (fun q => below_drewN hb3 q)
      clear hk1
      go_upto_region 8 with fail
      go_quiet (fail)
      have HT0 := Lib.hid (HI.out.take hat)
      go_upto_region 10 with (first
       | (at_builtin; go_must (refine wpList_append_sl rfl (.tmp 56) (.tmp 59) 42 rfl wr0.heap.size 3 Tryd.underlying42 infoI rfl (by omega) rfl (World.ownsRow_lit _ #[] 0 ((Hbr.out _).size) (by simp [maxLen]) rfl) rfl ((HT0.out.below (Hbr.out _)).below ((Below.refl _ _).alloc (Nat.le_refl _) _)).sl (oneI _ (L.take at_)) (by omega) (by omega) (by have := hb3.size; simp; omega) ?_); intro A3 c3 w3 hown3 hb4 _ _; have Hown3 := Lib.hid (show w3.ownsRow wr0.heap.size 3 1 (.slice A3 at_ c3) at_ ((L.take at_).map (Value.int .i64)) by simpa using hown3); have Hb3 := Lib.hid (((Hbr.out _).alloc ((Hbr.out _).size) _).trans hb4); clear hown3 hb4))
      have h3z := Hb3.out.size
      have r0 := (Hb3.out.cell (p := ⟨b, off + i * 3 + 2, none⟩) hbbr).trans k2
      have hbb3 : b < w3.heap.size := by omega
      have HOa := Lib.hid (Hown3.out.alloc (.cells #[.int .i64 x.n] 3))
      clear Hown3
      go_upto_region 11 with (first
       | (at_builtin; go_must (refine wpList_append_sl rfl (.tmp 61) (.tmp 67) 42 rfl wr0.heap.size 3 Tryd.underlying42 infoI rfl (by omega) rfl HOa.out rfl (Sl.lit w3 _ [.int .i64 x.n] 3 1 1 (by simp) rfl (by simp [maxLen])) (one1 rfl) (by omega) (by omega) (by simp; omega) ?_); intro A4 c4 w4 hown4 hb5 _ _; have Hown4 := Lib.hid hown4; have Hb4 := Lib.hid ((Hb3.out.alloc h3z _).trans hb5); clear hown4 hb5))
      have h4z := Hb4.out.size
      have hfr := HI.out.from9 hat
      by_cases hct : c2 = at_
      ·obtain rfl : at_ = n2 := by omega
       subst hct
       rw [if_pos rfl, Nat.sub_self] at hfr
       have HQ := Lib.hid hfr
       clear hfr
       go_wp2_with (first
        | (at_builtin; go_must (refine wpList_append_sl rfl (.tmp 69) (.tmp 72) 42 rfl wr0.heap.size 3 Tryd.underlying42 infoI rfl (by omega) rfl Hown4.out rfl (HQ.out.below Hb4.out).sl (oneI _ _) (by omega) (by omega) (by omega) ?_); intro A5 c5 w5 hown5 hb6 _ _; have Hown5 := Lib.hid hown5; have Hb5 := Lib.hid (Hb4.out.trans hb6); clear hown5 hb6))
       go_roundw
       case rel => exact ⟨i + 1, _, _, _, _, by omega, by omega, by go_num, rfl, ⟨⟨by have h9 := Sl.own Hown5.out (by omega); rw [List.map_append, List.map_append]; exact h9, fun y hy => by
        rcases List.mem_append.1 hy with hy | hy
        ·rcases List.mem_append.1 hy with hy | hy
         ·exact HI.out.wf y (List.mem_of_mem_take hy)
         ·obtain rfl := List.mem_singleton.1 hy
          exact Hwf.out.n
        ·exact HI.out.wf y (List.mem_of_mem_drop hy)⟩, fun a ha => by subst ha; exact own_typ9 Hown5.out⟩, Hput, Hb.out.trans (Hb5.out.mono hszb)⟩
       case measure => simp [intOf]; omega
      ·rw [if_neg hct] at hfr
       try simp only [Option.map_some, add_flat9] at hfr
       have HQ := Lib.hid hfr
       clear hfr
       go_wp2_with (first
        | (at_builtin; go_must (refine wpList_append_sl rfl (.tmp 69) (.tmp 72) 42 rfl wr0.heap.size 3 Tryd.underlying42 infoI rfl (by omega) rfl Hown4.out rfl (HQ.out.below Hb4.out).sl (oneI _ _) (by omega) (by omega) (by omega) ?_); intro A5 c5 w5 hown5 hb6 _ _; have Hown5 := Lib.hid hown5; have Hb5 := Lib.hid (Hb4.out.trans hb6); clear hown5 hb6))
       go_roundw
       case rel => exact ⟨i + 1, _, _, _, _, by omega, by omega, by go_num, rfl, ⟨⟨by have h9 := Sl.own Hown5.out (by omega); rw [List.map_append, List.map_append]; exact h9, fun y hy => by
        rcases List.mem_append.1 hy with hy | hy
        ·rcases List.mem_append.1 hy with hy | hy
         ·exact HI.out.wf y (List.mem_of_mem_take hy)
         ·obtain rfl := List.mem_singleton.1 hy
          exact Hwf.out.n
        ·exact HI.out.wf y (List.mem_of_mem_drop hy)⟩, fun a ha => by subst ha; exact own_typ9 Hown5.out⟩, Hput, Hb.out.trans (Hb5.out.mono hszb)⟩
       case measure => simp [intOf]; omega
     ·have hk1' : (x.kind != 1) = true := by simp [hk1]
      have Hsk := Lib.hid (hris.out.skip Hx.out (.inl hk1))
      clear hk1
      go_upto_region 8 with fail
      go_quiet (fail)
      go_wp2
      go_roundw
      case rel => exact ⟨i + 1, n2, c2, L, _, by omega, by omega, by go_num, rfl, HIT.out.below (below_drewN hb3 _), Hsk, Hb.out.trans ((below_drewN hb3 _).mono hszb)⟩
      case measure => simp [intOf]; omega
  ·have hie : i = n := by omega
   have hr := hris.out
   rw [hie] at hr
   have Hr := Lib.hid hr
   clear hie hr
   go_wp2
   go_ret
   exact ⟨_, _, _, L, rfl, HIT.out, Hb.out, by have := Hl.out; omega, by rw [Hl.out]; exact Hr.out⟩
end Go.Proofs.YtgipiplklaeplaaDoor
namespace Go.Proofs.YtgipiplklaeplaaDoor
open Go.RowKit
theorem bas (w : World) (o : Obj) : Below w.heap.size w (w.alloc o) := (Below.refl _ _).alloc (Nat.le_refl _) _
end Go.Proofs.YtgipiplklaeplaaDoor
namespace Go.Proofs.YtgipiplklaeplaaDoor
open Go.RowKit
def RetB (w : World) (v : Value) (e : Ending) (w' : World) : Prop := e = .returned v ∧ w = w'
end Go.Proofs.YtgipiplklaeplaaDoor
namespace Go.Proofs.YtgipiplklaeplaaDoor
open Go.RowKit
theorem kind_v {u : Tm} (h : u.c0.kind = 1) : u = .v u.c0.n := by
 cases u with
 | v m => rfl
 | i m => simp [Tm.c0] at h
 | f s us => simp [Tm.c0] at h
theorem lkB_none : ∀ {s : List (Int × List C)} {n : Int}, lkB s n = none → n ∉ s.map Prod.fst
 | [], n, _ => by simp
 | p :: s, n, h => by
  unfold lkB at h
  by_cases e : p.1 = n
  ·rw [if_pos e] at h; cases h
  ·rw [if_neg e] at h
   rw [List.map_cons, List.mem_cons, not_or]
   exact ⟨fun e2 => e e2.symm, lkB_none h⟩
theorem lkB_some : ∀ {s : List (Int × List C)} {n : Int} {t : List C}, lkB s n = some t → (n, t) ∈ s
 | p :: s, n, t, h => by
  unfold lkB at h
  by_cases e : p.1 = n
  ·rw [if_pos e] at h
   injection h with h
   rw [← e, ← h]
   exact List.mem_cons_self ..
  ·rw [if_neg e] at h
   exact List.mem_cons_of_mem _ (lkB_some h)
theorem IT.grownB {w w' : World} {A As : Option Addr} {n c base n' c' : Nat} {l : List Int} {xs : List Value} {o : Obj} (h : IT w A n c l) (ho : w.ownsRow base 100 2 (.slice As n' c') n' xs) (hg : (w.alloc o).grownBy w' (Value.slice As n' c').ownBlock) : IT w' A n c l := by
 have h2 := h.below ((Below.refl w.heap.size w).alloc (Nat.le_refl _) o)
 have ho2 := ho.alloc o
 have hk : ∀ a, A = some a → w'.heap[a.block]? = (w.alloc o).heap[a.block]? := fun a ha => by
  obtain ⟨cur, hc⟩ := h2.2 a ha
  exact grown_block hg (block_lt hc) (own_ne ho2 hc (by intro cur' he; simp at he))
 exact ⟨⟨h2.1.sl.same9 hg.size fun _ a ha => hk a ha, h2.1.wf⟩, fun a ha => by obtain ⟨cur, hc⟩ := h2.2 a ha; exact ⟨cur, (hk a ha).trans hc⟩⟩
end Go.Proofs.YtgipiplklaeplaaDoor
namespace Go.Proofs.YtgipiplklaeplaaDoor
open Go.RowKit
theorem Good.den_vle {l : List C} (h : Good l) (hN : l.length ≤ 1000) : ∀ p, p < l.length → (den l p).vle 999 = true := by
 refine h.induct fun p hp ih => ?_
 cases ho : onB l p
 ·rcases ok_kind (shp_at h.shp hp) with k | k | k | k
  ·have hf : Free1 l p := ⟨hp, k, by rw [on_ref k] at ho; simpa using ho⟩
   rw [h.den_free hf]
   simp [Tm.vle]
   omega
  ·rw [h.den_num k]
   simp [Tm.vle]
  ·rw [on_ptr k] at ho; cases ho
  ·rw [h.den_top k]
   simp only [Tm.vle, vles_all, List.all_eq_true]
   intro x hx
   obtain ⟨i, hi, rfl⟩ := List.mem_map.1 hx
   exact ih _ (by rw [leads_top k]; exact List.mem_map.2 ⟨i, hi, rfl⟩)
 ·rw [h.den_step ho]
  exact ih _ (by rw [leads_on ho]; simp)
end Go.Proofs.YtgipiplklaeplaaDoor
