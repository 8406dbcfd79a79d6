/- Texts of this proof that belong together: words of memory, plain laws, walks. -/
import Derived.BigQuiet
import Derived.Deep.DeepCutAuto
import Derived.Deep.RegionHeld3
import Derived.Deep.RegionLaw
import Derived.Deep.RegionWith
import Derived.IntWalk
import Derived.StillTailTactics
import Derived.Test.YtgipiplklaeplaaDoorB08
import Derived.Test.YtgipiplklaeplaaDoorB13
import Derived.Test.YtgipiplklaeplaaDoorB29
import Derived.Test.YtgipiplklaeplaaDoorB30
import Derived.Test.YtgipiplklaeplaaDoorB34
set_option linter.unusedVariables false
set_option linter.unusedSimpArgs false
namespace Go.Proofs.YtgipiplklaeplaaDoor
open Go.RowKit
def RetCN (w : World) (cs : List C) (e : Ending) (w' : World) : Prop := ∃ A n cap, e = .returned (.slice A n cap) ∧ IsC w' A n cap cs ∧ (∀ a, A = some a → w.heap.size ≤ a.block) ∧ Below w.heap.size w w'
set_option maxHeartbeats 800000 in
theorem rturn_any (A : Option Addr) (n cap : Nat) (t : List C) (A1 : Option Addr) (n1 c1 : Nat) (vs : List Int) (w : World) (h : IsC w A n cap t) (hn : n ≤ 100000) (hv : IsI w A1 n1 c1 vs) (hn1 : n1 ≤ 100000) :
  Calls Tryd.prog 67 #[.slice A n cap, .slice A1 n1 c1] w (RetCN w (turnF (placeI vs) t)) := by
 have hl := h.len
 have Hl := Lib.hid hl
 clear hl
 have hvl := hv.len
 go_enter Tryd.func67, Tryd.ntmps67
 go_wp2_with (first
  | (at_builtin; go_must (refine wpList_append_sl rfl (.tmp 7) (.tmp 8) 22 rfl w.heap.size 66 Tryd.underlying22 infoC rfl (by omega) rfl (World.ownsRow_lit _ #[] 0 (Nat.le_refl _) (by simp [maxLen]) rfl) rfl (h.sl.below ((Below.refl _ _).alloc (Nat.le_refl _) _)) (oneC t) (by omega) (by omega) (by simp) ?_); intro A0 cap0 w0 hown0 hb0 _ _; replace hown0 : w0.ownsRow w.heap.size 66 3 (.slice A0 n cap0) n (flatC t) := by simpa using hown0))
 have hb0' : Below w.heap.size w w0 := Below.trans ((Below.refl _ _).alloc (Nat.le_refl _) _) hb0
 go_loopw [6] (fun i wr => ∃ (k : Nat), k ≤ n ∧ i = .int .i64 k ∧ wr.ownsRow w.heap.size 66 3 (.slice A0 n cap0) n (flatC (turnF (placeI (vs)) (t.take k) ++ t.drop k)) ∧ Below w.heap.size w wr) (fun i _ => n - (intOf i).toNat)
 case atStart => exact ⟨0, Nat.zero_le _, rfl, by simpa [turnF] using hown0, hb0'⟩
 case round =>
  obtain ⟨k, hk, rfl, hown, hb⟩ := hrel
  by_cases hlt : k < n
  ·obtain ⟨x, hxk⟩ := h.get hlt
   have hwf := h.wf x (List.mem_of_getElem? hxk)
   obtain ⟨gg, rfl⟩ : ∃ gg, A0 = some ⟨gg, 0, none⟩ := by
    obtain ⟨g, cap', hv, _⟩ := hown.form (by omega)
    injection hv with hv
    exact ⟨g, hv⟩
   have hxk' : (turnF (placeI (vs)) (t.take k) ++ t.drop k)[k]? = some x := by
    rw [List.getElem?_append_right (by simp [turnF]; omega)]
    have := Hl.out
    simp [turnF, hxk, show min k t.length = k by omega]
   obtain ⟨f0, f1, f2⟩ := flatC_get _ _ _ hxk'
   have hkl : k * 3 + 2 < n * 3 := by omega
   have h0 := (hown.cellAt (k * 3) (by omega)).trans f0
   have h1 := (hown.cellAt (k * 3 + 1) (by omega)).trans f1
   have h2 := (hown.cellAt (k * 3 + 2) (by omega)).trans f2
   have hz0 := hown.frozenAt (k * 3 + 2)
   have hgl := (hown.lt gg rfl)
   obtain ⟨hg1, hg2⟩ := hgl
   have hset : x.kind = 1 → (flatC (turnF (placeI (vs)) (t.take k) ++ t.drop k)).set (k * 3 + 2) (.int .i64 ((placeI (vs)) x.n)) = flatC (turnF (placeI (vs)) (t.take (k + 1)) ++ t.drop (k + 1)) := fun hk1 => turn_step (placeI (vs)) hxk hk1
   have hkeep : x.kind ≠ 1 → turnF (placeI (vs)) (t.take k) ++ t.drop k = turnF (placeI (vs)) (t.take (k + 1)) ++ t.drop (k + 1) := fun hk1 => turn_keep (placeI (vs)) hxk hk1
   have Hset := Lib.hid hset
   have Hkeep := Lib.hid hkeep
   clear hset hkeep hxk hxk' f0 f1 f2
   obtain ⟨hc, hf⟩ := bcell hb
   by_cases hk1 : x.kind = 1
   ·have hbk : (x.kind == 1) = true := by simp [hk1]
    have Hk1 := Lib.hid hk1
    clear hk1
    have hvr : IsI wr A1 n1 c1 (vs) := hv.below hb
    go_wp2_with (first | (go_at_call 65; go_must (refine (Place_any A1 n1 c1 (vs) x.n _ hvr hn1).mono ?_); rintro e w2 ⟨rfl, rfl⟩))
    go_roundw
    case rel =>
     refine ⟨k + 1, by omega, by go_num, ?_, ?_⟩
     ·rw [← Hset.out Hk1.out]
      exact (hown.stored (k * 3 + 2) _).1
     ·exact Below.setCell (p := ⟨gg, k * 3 + 2, none⟩) hb hg1 _
    case measure => simp [intOf]; omega
   ·have hbk : (x.kind == 1) = false := by simp [hk1]
    have Hk1 := Lib.hid hk1
    clear hk1
    go_wp2
    go_roundw
    case rel => exact ⟨k + 1, by omega, by go_num, by rw [← Hkeep.out Hk1.out]; exact hown, hb⟩
    case measure => simp [intOf]; omega
  ·have hkn : k = n := by omega
   subst hkn
   have hfin : turnF (placeI (vs)) (t.take k) ++ t.drop k = turnF (placeI (vs)) t := by rw [drop_end Hl.out (by omega), List.take_of_length_le (by rw [Hl.out]; exact Nat.le_refl _)]; simp
   rw [hfin] at hown
   have hres : IsC wr A0 k cap0 (turnF (placeI (vs)) t) := ⟨Sl.own hown (by omega), turn_wf (fun n => place_i64 (vs) n (by omega)) h.wf⟩
   clear hfin
   go_wp2
   go_ret
   exact ⟨_, _, _, rfl, hres, fun a ha => (Own0.lt hown a ha).1, hb⟩
set_option maxHeartbeats 400000 in
theorem rVarsO_any (A : Option Addr) (n cap : Nat) (t : List C) (w : World) (h : IsC w A n cap t) (hn : n ≤ 100000) :
  Calls Tryd.prog 28 #[.slice A n cap] w fun e w' => ∃ A' n' c', e = .returned (.slice A' n' c') ∧ w'.ownsRow w.heap.size 3 1 (.slice A' n' c') n' ((varsF t).map (Value.int .i64)) ∧ (∀ x ∈ varsF t, i64 x) ∧ Below w.heap.size w w' := by
 go_enter Tryd.func28, Tryd.ntmps28
 go_wp2
 go_loopw [3, 4] (fun o i wr => ∃ (k m c' : Nat) (Ao : Option Addr) (acc : List Int), k ≤ n ∧ i = .int .i64 k ∧ o = .slice Ao m c' ∧ m ≤ k ∧ wr.ownsRow w.heap.size 3 1 (.slice Ao m c') m (acc.map (Value.int .i64)) ∧ (∀ x ∈ acc, i64 x) ∧ Hid (varsA acc (t.drop k) = varsF t) ∧ Below w.heap.size w wr) (fun _ i _ => n - (intOf i).toNat)
 case atStart => exact ⟨0, 0, 0, _, [], Nat.zero_le _, rfl, rfl, Nat.le_refl _, World.ownsRow_lit w #[] 0 (Nat.le_refl _) (by simp [maxLen]) rfl, by simp, rfl, (Below.refl _ _).alloc (Nat.le_refl _) _⟩
 case round =>
  obtain ⟨k, m, c', Ao, acc, hk, rfl, rfl, hm, hown, hwa, hres, hb⟩ := hrel
  have hacc : IsI wr Ao m c' acc := ⟨Sl.own hown (by omega), hwa⟩
  by_cases hlt : k < n
  ·obtain ⟨x, hxk⟩ := h.get hlt
   obtain ⟨b, off, rfl, hbb, hwf, h0, h1, h2⟩ := h.at_ hxk
   have hd := drop_get hxk
   have Hd := Lib.hid hd
   clear hxk hd
   obtain ⟨hc, hf⟩ := bcell hb
   by_cases hk1 : x.kind = 1
   ·have hbk : (x.kind == 1) = true := by simp [hk1]
    have Hk1 := Lib.hid hk1
    clear hk1
    have hcon := In_any Ao m c' acc x.n
    cases hin : inI acc x.n
    ·rw [hin] at hcon
     have Hcon := Lib.hid hcon
     have Hin := Lib.hid hin
     clear hcon hin
     go_wp2_with (first
      | (go_at_call 66; go_must (refine (Hcon.out _ (hacc.below (by repeat (first | assumption | exact Below.refl _ _ | refine Below.drew ?_ | refine below_drewN ?_ _ | refine Below.alloc ?_ ?_ _ | refine Below.setCell ?_ ?_ _ | (apply Below.size; assumption) | (simp; done) | (simp; omega) | (have hz := hb.size; simp; omega) | (have hz := hb.size; omega) | omega))) (by omega)).mono ?_); rintro e w1 ⟨rfl, rfl⟩)
      | (at_builtin; go_must (refine wpList_append_sl rfl (.tmp 28) (.tmp 34) 42 rfl w.heap.size 3 Tryd.underlying42 infoI rfl (by omega) rfl (hown.alloc _) rfl (Sl.lit _ _ [.int .i64 x.n] 3 1 1 (by simp) rfl (by simp [maxLen])) (one1 rfl) (by omega) (by omega) (by have := hb.size; simp; omega) ?_); intro A' cap' w1 hown1 hb1 _ _))
     have hb2 : Below w.heap.size w w1 := Below.trans (by repeat (first | assumption | exact Below.refl _ _ | refine Below.drew ?_ | refine below_drewN ?_ _ | refine Below.alloc ?_ ?_ _ | refine Below.setCell ?_ ?_ _ | (apply Below.size; assumption) | (simp; done) | (simp; omega) | (have hz := hb.size; simp; omega) | (have hz := hb.size; omega) | omega)) hb1
     go_roundw
     case rel =>
      refine ⟨k + 1, m + 1, cap', A', acc ++ [x.n], by omega, by go_num, rfl, by omega, by simpa using hown1, ?_, Lib.hid ?_, hb2⟩
      ·intro y hy
       rcases List.mem_append.1 hy with hy | hy
       ·exact hwa y hy
       ·simp at hy; subst hy; exact hwf.n
      ·have := hres.out
       rw [Hd.out, varsA_cons, if_pos ⟨Hk1.out, Hin.out⟩] at this
       exact this
     case measure => simp [intOf]; omega
    ·rw [hin] at hcon
     have Hcon := Lib.hid hcon
     have Hin := Lib.hid hin
     clear hcon hin
     go_wp2_with (first
      | (go_at_call 66; go_must (refine (Hcon.out _ (hacc.below (by repeat (first | assumption | exact Below.refl _ _ | refine Below.drew ?_ | refine below_drewN ?_ _ | refine Below.alloc ?_ ?_ _ | refine Below.setCell ?_ ?_ _ | (apply Below.size; assumption) | (simp; done) | (simp; omega) | (have hz := hb.size; simp; omega) | (have hz := hb.size; omega) | omega))) (by omega)).mono ?_); rintro e w1 ⟨rfl, rfl⟩))
     go_roundw
     case rel =>
      refine ⟨k + 1, m, c', Ao, acc, by omega, by go_num, rfl, by omega, hown, hwa, Lib.hid ?_, (by repeat (first | assumption | exact Below.refl _ _ | refine Below.drew ?_ | refine below_drewN ?_ _ | refine Below.alloc ?_ ?_ _ | refine Below.setCell ?_ ?_ _ | (apply Below.size; assumption) | (simp; done) | (simp; omega) | (have hz := hb.size; simp; omega) | (have hz := hb.size; omega) | omega))⟩
      have := hres.out
      rw [Hd.out, varsA_cons, if_neg (by simp [Hin.out])] at this
      exact this
     case measure => simp [intOf]; omega
   ·have hbk : (x.kind == 1) = false := by simp [hk1]
    have Hk1 := Lib.hid hk1
    clear hk1
    go_wp2
    go_roundw
    case rel =>
     refine ⟨k + 1, m, c', Ao, acc, by omega, by go_num, rfl, by omega, hown, hwa, Lib.hid ?_, (by repeat (first | assumption | exact Below.refl _ _ | refine Below.drew ?_ | refine below_drewN ?_ _ | refine Below.alloc ?_ ?_ _ | refine Below.setCell ?_ ?_ _ | (apply Below.size; assumption) | (simp; done) | (simp; omega) | (have hz := hb.size; simp; omega) | (have hz := hb.size; omega) | omega))⟩
     have := hres.out
     rw [Hd.out, varsA_cons, if_neg (by simp [Hk1.out])] at this
     exact this
    case measure => simp [intOf]; omega
  ·go_wp2
   go_ret
   have hfin : acc = varsF t := by have := hres.out; rw [drop_end h.len hlt] at this; exact this
   exact ⟨_, _, _, rfl, by rw [← hfin]; exact hown, by rw [← hfin]; exact hwa, hb⟩
theorem lits_at {w : World} {B : Option Addr} {m d k : Nat} {b : List (Bool × List C)} {p : Bool × List C} (h : IsLs w B m d b) (hk : b[k]? = some p) :
  ∃ bb off A n c, B = some ⟨bb, off, none⟩ ∧ bb < w.heap.size ∧ IsC w A n c p.2 ∧ w.cell? ⟨bb, off + k * 2, none⟩ = some (.bool p.1) ∧ w.cell? ⟨bb, off + k * 2 + 1, none⟩ = some (.slice A n c) := by
 obtain ⟨bb, off, v, rfl, hbb, _, ⟨A, n, c, rfl, hx⟩, hc⟩ := h.at_ hk
 exact ⟨bb, off, A, n, c, rfl, hbb, hx, hc 0 _ rfl, hc 1 _ rfl⟩
end Go.Proofs.YtgipiplklaeplaaDoor
namespace Go.Proofs.YtgipiplklaeplaaDoor
open Go.RowKit
section
variable {P : Program} {ops : Array Oper} {rest : List Oper} {o : Oper} {a : Act} {w : World} {Q : Exit → Act → World → Prop}
theorem run_append_zero (t ty e : TypeId) (i : TypeInfo) (ht : P.underlying t = some (.slice e)) (hi : P.info? e = some i) (As A : Option Addr) (n cs c : Nat) (hn : n ≤ cs) (h0 : As = none → n = 0 ∧ cs = 0) :
  (Builtin.append_ #[t, t] ty #[.slice As n cs, .slice A 0 c]).run P w = .ok (.slice As n cs) w := by
 cases As with
 | none =>
  obtain ⟨rfl, rfl⟩ := h0 rfl
  cases A <;> simp [Builtin.append_, run_underlying ht, sizeOf, typeInfo, hi, Builtin.lenOf, Builtin.firstCells, loadCells, loadCellsFrom]
 | some b =>
  cases A <;> simp [Builtin.append_, run_underlying ht, sizeOf, typeInfo, hi, Builtin.lenOf, Builtin.firstCells, loadCells, loadCellsFrom, hn, storeCells]
def AppZ (w : World) (base : Nat) (e : TypeId) (size n : Nat) (xs : List Value) (As : Option Addr) (v : Value) (w' : World) : Prop :=
 ∃ A' cap', v = .slice A' n cap' ∧ Tail w' base e size A' n cap' xs ∧ Below base w w' ∧ Apart w w' As A'
theorem run_append_any (s x : Operand) (t : TypeId) (ho : o.op = .call { callee := .builtin .append, args := #[s, x], argTypes := #[t, t] })
  (base : Nat) (e : TypeId) {z : Value} {size bytes : Nat} (ht : P.underlying t = some (.slice e)) (hinfo : (P.info? e).map (fun i => (i.zero, i.size, i.bytes)) = some (some z, size, bytes))
  (hzs : z.cells.size = size) (hsz : 0 < size) {As : Option Addr} {n cs : Nat} {xs : List Value} (hs : a.eval s = .slice As n cs) (hown : Tail w base e size As n cs xs) (hAs : ∀ b, As = some b → b.block < w.heap.size)
  {A : Option Addr} {m c : Nat} {news : List Value} (hx : a.eval x = .slice A m c) (hr : Sl w size A m c news) (h1 : ∀ u ∈ news, u.oneCell' = true)
  (h63 : n + m ≤ 1000000000000) (hbyt : bytes ≤ 64) (hbase : base ≤ w.heap.size) (h0 : As = none → cs = 0) :
  ∃ v w', (execOp a.eval o).run P w = .ok (.value v) w' ∧ AppZ w base e size (n + m) (xs ++ news) As v w' := by
 rcases Nat.eq_zero_or_pos m with hm | hm
 ·subst hm
  obtain ⟨i, hi, hz, hsize, hby⟩ := info_parts hinfo
  have hn0 : news = [] := List.eq_nil_of_length_eq_zero (by simpa using hr.len)
  subst hn0
  have hrun := run_append_zero (P := P) (w := w) t o.type e i ht hi As A n cs c hown.hcap (fun h => ⟨by have := h0 h; have := hown.hcap; omega, h0 h⟩)
  refine ⟨.slice As n cs, w, by simp only [execOp, ho, resolve, invoke, builtin, Sem.run_bind, Sem.run_pure, Result.andThen_ok, List.map_toArray, List.map_cons, List.map_nil, hs, hx, hrun], As, cs, rfl, by simpa using hown, Below.refl _ _, ⟨Nat.le_refl _, fun _ _ _ => rfl, fun a ha => ⟨hAs a ha, .inl ⟨a, ha, rfl⟩⟩⟩⟩
 ·obtain ⟨v, w', h2, A', cap', h3, _, h5⟩ := run_append_tail s x t ho base e ht hinfo hzs hsz hs hown hx hr h1 hm h63 hbyt hbase
  exact ⟨v, w', h2, A', cap', h3, h5⟩
theorem wpList_append_any (hw : Region.wanted o (yielded ops a.tmps) = true) (s x : Operand) (t : TypeId) (ho : o.op = .call { callee := .builtin .append, args := #[s, x], argTypes := #[t, t] })
  (base : Nat) (e : TypeId) {z : Value} {size bytes : Nat} (ht : P.underlying t = some (.slice e)) (hinfo : (P.info? e).map (fun i => (i.zero, i.size, i.bytes)) = some (some z, size, bytes))
  (hzs : z.cells.size = size) (hsz : 0 < size) {As : Option Addr} {n cs : Nat} {xs : List Value} (hs : a.eval s = .slice As n cs) (hown : Tail w base e size As n cs xs) (hAs : ∀ b, As = some b → b.block < w.heap.size)
  {A : Option Addr} {m c : Nat} {news : List Value} (hx : a.eval x = .slice A m c) (hr : Sl w size A m c news) (h1 : ∀ u ∈ news, u.oneCell' = true)
  (h63 : n + m ≤ 1000000000000) (hbyt : bytes ≤ 64) (hbase : base ≤ w.heap.size) (h0 : As = none → cs = 0)
  (k : ∀ A' cap' w', Tail w' base e size A' (n + m) cap' (xs ++ news) → Below base w w' → Apart w w' As A' → wpList P ops Q rest (a.put o.dst (.slice A' (n + m) cap')) w') :
  wpList P ops Q (o :: rest) a w :=
 wpList_run hw (run_append_any s x t ho base e ht hinfo hzs hsz hs hown hAs hx hr h1 h63 hbyt hbase h0) fun v w' ⟨A', cap', hv, h2, h3, h4⟩ => by
  subst hv
  exact k A' cap' w' h2 h3 h4
theorem step_append_any {K : Act → World → Prop} {E : Prop} (hw : Region.wanted o (yielded ops a.tmps) = true) (s x : Operand) (t : TypeId) (ho : o.op = .call { callee := .builtin .append, args := #[s, x], argTypes := #[t, t] })
  (base : Nat) (e : TypeId) {z : Value} {size bytes : Nat} (ht : P.underlying t = some (.slice e)) (hinfo : (P.info? e).map (fun i => (i.zero, i.size, i.bytes)) = some (some z, size, bytes))
  (hzs : z.cells.size = size) (hsz : 0 < size) {As : Option Addr} {n cs : Nat} {xs : List Value} (hs : a.eval s = .slice As n cs) (hown : Tail w base e size As n cs xs) (hAs : ∀ b, As = some b → b.block < w.heap.size)
  {A : Option Addr} {m c : Nat} {news : List Value} (hx : a.eval x = .slice A m c) (hr : Sl w size A m c news) (h1 : ∀ u ∈ news, u.oneCell' = true)
  (h63 : n + m ≤ 1000000000000) (hbyt : bytes ≤ 64) (hbase : base ≤ w.heap.size) (h0 : As = none → cs = 0)
  (k : ∀ A' cap' w', Tail w' base e size A' (n + m) cap' (xs ++ news) → Below base w w' → Apart w w' As A' → K (a.put o.dst (.slice A' (n + m) cap')) w') :
  if Region.wanted o (yielded ops a.tmps) = true then o.wp P a w K Q else E :=
 step_of_runA hw (run_append_any s x t ho base e ht hinfo hzs hsz hs hown hAs hx hr h1 h63 hbyt hbase h0) fun v w' ⟨A', cap', hv, h2, h3, h4⟩ => by
  subst hv
  exact k A' cap' w' h2 h3 h4
end
theorem Tail.none_cap {w : World} {base : Nat} {e : TypeId} {size n cap : Nat} {A : Option Addr} {xs : List Value} (h : Tail w base e size A n cap xs) : A = none → cap = 0 := by
 intro hA
 rcases h.form with h0 | ⟨g, off, cur, h1, _⟩
 ·exact h0
 ·rw [hA] at h1; cases h1
end Go.Proofs.YtgipiplklaeplaaDoor
namespace Go.Proofs.YtgipiplklaeplaaDoor
open Go.RowKit
structure But (w w' : World) (b : Nat) : Prop where
 os : w'.os = w.os
 tape : w'.tape = w.tape
 output : w'.output = w.output
 size : w.heap.size ≤ w'.heap.size
 block : ∀ k, k < w.heap.size → k ≠ b → w'.heap[k]? = w.heap[k]?
theorem But.trans {w w' w'' : World} {b : Nat} (h : But w w' b) (h' : But w' w'' b) : But w w'' b :=
 ⟨h'.os.trans h.os, h'.tape.trans h.tape, h'.output.trans h.output, Nat.le_trans h.size h'.size, fun k hk hne => (h'.block k (Nat.lt_of_lt_of_le hk h.size) hne).trans (h.block k hk hne)⟩
theorem But.set (w : World) (b k : Nat) (v : Value) : But w (w.setCell ⟨b, k, none⟩ v) b := ⟨rfl, rfl, rfl, by simp, fun _ _ hne => set_other hne v⟩
theorem But.setB {w w' : World} {b k : Nat} (h : But w w' b) (v : Value) : But w (w'.setCell ⟨b, k, none⟩ v) b := h.trans (But.set w' b k v)
def Off (A : Option Addr) (n b : Nat) : Prop := 0 < n → ∀ a, A = some a → a.block ≠ b
theorem Sl.but' {w w' : World} {b size n c : Nat} {A : Option Addr} {xs : List Value} (h : Sl w size A n c xs) (hb : But w w' b) (hne : Off A n b) : Sl w' size A n c xs := by
 refine ⟨h.len, h.hcap, h.hmax, fun hn => ?_⟩
 obtain ⟨g, off, rfl, hlt, hc⟩ := h.cells hn
 refine ⟨g, off, rfl, Nat.lt_of_lt_of_le hlt hb.size, fun j u hu => ?_⟩
 rw [← hc j u hu]
 exact World.cell?_of_block (hb.block g hlt (hne hn _ rfl))
end Go.Proofs.YtgipiplklaeplaaDoor
namespace Go.Proofs.YtgipiplklaeplaaDoor
open Go.RowKit
def Far (T : Option Addr) (A : Option Addr) (n : Nat) : Prop := ∀ a, T = some a → Off A n a.block
theorem Far.app {w w' : World} {T T' A : Option Addr} {n c size : Nat} {xs : List Value} (h : Far T A n) (hap : Apart w w' T T') (hs : Sl w size A n c xs) : Far T' A n := fun a ha hn a' ha' => by
 rcases (hap.blk a ha).2 with ⟨a0, h0, he⟩ | h2
 ·rw [he]; exact h a0 h0 hn a' ha'
 ·obtain ⟨g, off, h3, hlt, _⟩ := hs.cells hn
  rw [h3] at ha'
  cases ha'
  simp only
  omega
theorem Sl.far {w w' : World} {T T' A : Option Addr} {n c size : Nat} {xs : List Value} (h : Sl w size A n c xs) (hap : Apart w w' T T') (hf : Far T A n) : Sl w' size A n c xs := by
 refine ⟨h.len, h.hcap, h.hmax, fun hn => ?_⟩
 obtain ⟨g, off, rfl, hlt, hc⟩ := h.cells hn
 refine ⟨g, off, rfl, Nat.lt_of_lt_of_le hlt hap.size, fun j u hu => ?_⟩
 rw [← hc j u hu]
 exact World.cell?_of_block (hap.old g hlt fun a ha he => hf a ha hn _ rfl he.symm)
end Go.Proofs.YtgipiplklaeplaaDoor
