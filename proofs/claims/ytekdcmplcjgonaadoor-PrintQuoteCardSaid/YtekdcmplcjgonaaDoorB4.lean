/- Texts of this proof that belong together: words of memory, plain laws, short walks. -/
import Derived.RangeFuncNested
import Derived.RangeFuncBound
import Derived.RangeFuncCalls
import Derived.RangeFuncLeaves
import Derived.Shelf.Abstract
import Derived.Shelf.RegionOpen
import Derived.WalkKit
import Derived.OwnWalkIn
import Derived.TacticsInMore
import Derived.LoopNIn
import Derived.LoopIn
import Derived.Maps.AppendAt
import Derived.Test.YtekdcmplcjgonaaDoorB3
import Derived.Test.YtekdcmplcjgonaaDoorB2
import Derived.Test.YtekdcmplcjgonaaDoorB1
import Derived.Deep.RegionLaw
import Derived.Deep.CutBlock
import Derived.Test.YtekdcmplcjgonaaDoorB0
import Derived.Lib.AppendIntMem
set_option linter.unusedVariables false
set_option linter.unusedSimpArgs false
/- The walk that writes terms, with commas between: a range over a function. -/
namespace Go.Proofs.YtekdcmplcjgonaaDoor
open Go.RowKit Go.Shelf
attribute [local go_sem] Oper.semAt_some

/-- a term that is written, with whether a comma stands ahead of it -/
structure Itm (W : World) (N : Nat) where
  m : Bool
  A : Option Addr
  n : Nat
  cap : Nat
  T : Tm
  is : IsC W A n cap T.flat
  ok : T.ok = true
  sz : T.size ≤ N
def Itm.txt {W : World} {N : Nat} (x : Itm W N) : List UInt8 := (if x.m then [44] else []) ++ prT x.T
def Itm.val {W : World} {N : Nat} (x : Itm W N) : Value := .slice x.A x.n x.cap
def txts {W : World} {N : Nat} (l : List (Itm W N)) : List UInt8 := l.flatMap Itm.txt
def encs {W : World} {N : Nat} (x : Itm W N) : Array Value := #[.bool x.m, .slice x.A x.n x.cap]
theorem txts_snoc {W : World} {N : Nat} (l : List (Itm W N)) (x : Itm W N) : txts (l ++ [x]) = txts l ++ x.txt := by simp [txts]

/-- what a round keeps: all below the writer, and rows that are neither the writer nor bytes -/
structure Kp (b : Nat) (w w' : World) : Prop where
  low : Below b w w'
  keep : ∀ k c e fz, w.heap[k]? = some (.cells c e fz) → k ≠ b → e ≠ 5 → w'.heap[k]? = some (.cells c e fz)
theorem Kp.refl (b : Nat) (w : World) : Kp b w w := ⟨Below.refl _ _, fun _ _ _ _ h _ _ => h⟩
theorem Kp.trans {b : Nat} {u v w : World} (h : Kp b u v) (k : Kp b v w) : Kp b u w := ⟨h.low.trans k.low, fun i c e fz hi hb he => k.keep i c e fz (h.keep i c e fz hi hb he) hb he⟩
theorem Fr.kp {b : Nat} {w w' : World} (h : Fr b w w') : Kp b w w' := ⟨h.low, fun k c e fz hk hb he => h.keep k _ hk (fun x => hb (Option.some.inj x)) (fun c' fz' x => he (by cases x; rfl))⟩
theorem kp_put {b : Nat} {w : World} (hn : b ≤ w.heap.size) (W : World) (l : Nat) (o o' : Obj) (hl : w.heap.size ≤ l) (h : W.heap[l]? = some o) (hc : o.isCells = false) (hw : o.isWalk = false) : Kp b W (W.putObj l o') := by
  refine ⟨(Below.refl b W).grown (grownBy_putObj' W l o') (by have := (Array.getElem?_eq_some_iff.1 h).1; omega) (fun k e => by cases e; omega), fun k c e fz hk _ _ => ?_⟩
  by_cases hkl : k = l
  · subst hkl
    rw [h] at hk
    cases hk
    cases hc
  · exact (World.putObj_heap_other hkl).trans hk
theorem Fr.others {b : Nat} {w w' : World} (h : Fr b w w') {c : Array Value} {e : TypeId} {fz : Nat × Nat} (hb : w.heap[b]? = some (.cells c e fz)) : KeepsOthers w w' := by
  refine ⟨h.size, fun k o hk hc => ?_⟩
  refine h.keep k o hk (fun x => ?_) (fun c' fz' x => ?_)
  · cases x
    rw [hb] at hk
    cases hk
    cases hc
  · subst x
    cases hc
theorem Wr.block {b : Nat} {l : List UInt8} {w : World} (h : Wr b l w) : ∃ p v, w.heap[b]? = some (.cells #[p, v] 74 (0, 0)) := by
  rcases h with h | h
  · obtain ⟨_, v, hb, _⟩ := h; exact ⟨_, v, hb⟩
  · obtain ⟨_, v, hb, _⟩ := h; exact ⟨_, v, hb⟩
theorem Wr.turn {b : Nat} {l : List UInt8} {w w' : World} {row : Option Nat} (h : Wr b l w) (hg : w.grownBy w' row) (hr : ∀ r, row = some r → ∃ o : Obj, w.heap[r]? = some o ∧ o.isCells = false) : Wr b l w' := by
  have key : ∀ p, Lib.BuilderAtF 74 5 b b p (Lib.byteCells l) w → Lib.BuilderAtF 74 5 b b p (Lib.byteCells l) w' := by
    rintro p ⟨hB, v, hb, hown, hne⟩
    have hrb : some b ≠ row := fun e => by
      obtain ⟨o, ho, hc⟩ := hr b e.symm
      rw [hb] at ho
      cases ho
      cases hc
    refine ⟨hB, v, (hg.block b (Array.getElem?_eq_some_iff.1 hb).1 hrb).trans hb, hown.kept hg ?_, hne⟩
    rcases hown.2 with ⟨rfl, _⟩ | ⟨g, cap, cur, fz, rfl, _, hg2, _⟩
    · exact .inl rfl
    · refine .inr fun e => ?_
      obtain ⟨o, ho, hc⟩ := hr g e.symm
      rw [hg2] at ho
      cases ho
      cases hc
  exact h.imp (key _) (key _)
theorem keep_turn {b B : Nat} {w0 w w' : World} {row : Option Nat} (h : Lib.OthersKept 5 (some b) w0 w) (hB : w0.heap.size ≤ B) (hg : w.grownBy w' row) (hr : ∀ r, row = some r → B ≤ r) : Lib.OthersKept 5 (some b) w0 w' := by
  intro k o hk hb ho
  have h1 := h k o hk hb ho
  have hlt := (Array.getElem?_eq_some_iff.1 hk).1
  exact (hg.block k (Array.getElem?_eq_some_iff.1 h1).1 (fun e => by have := hr k e.symm; omega)).trans h1

theorem block_kept {k : Nat} {c : Array Value} {e : TypeId} {fz : Nat × Nat} {w w' : World} {row : Option Nat} (h : w.heap[k]? = some (.cells c e fz)) (hg : w.grownBy w' row) (hr : ∀ r, row = some r → ∃ o : Obj, w.heap[r]? = some o ∧ o.isCells = false) : w'.heap[k]? = some (.cells c e fz) := by
  refine (hg.block k (Array.getElem?_eq_some_iff.1 h).1 fun x => ?_).trans h
  obtain ⟨o, ho, hc⟩ := hr k x.symm
  rw [h] at ho
  cases ho
  cases hc
theorem Fr.block {b k : Nat} {c : Array Value} {e : TypeId} {fz : Nat × Nat} {w w' : World} (h : Fr b w w') (hk : w.heap[k]? = some (.cells c e fz)) (hb : k ≠ b) (he : e ≠ 5) : w'.heap[k]? = some (.cells c e fz) := h.kp.keep k c e fz hk hb he
set_option maxRecDepth 100000 in
set_option maxHeartbeats 4000000 in
/-- the closure that each hands back: one round for each -/
theorem each1_in {W0 : World} {N : Nat} (F : Fence) (n : Nat) (h94 : F.fn 94) (hro : F.round = none) (hn : 1 ≤ n) (l Bs b : Nat) (A : Option Addr) (len cap : Nat) (items : List (Itm W0 N)) (hlen : items.length = len) (h1000 : len ≤ 1000) (hm : ∀ (i : Nat) (x : Itm W0 N), items[i]? = some x → x.m = decide (0 < i)) (J Jx : List (Itm W0 N) → World → Prop)
    (hY : ∀ pre x W, J pre W → pre.length < len → YieldAt F (n - 1) Tryd.prog l (encs x) W fun e W' =>
      (e = .returned (.bool true) ∧ J (pre ++ [x]) W' ∧ Kp b W W') ∨ (e = .returned (.bool false) ∧ Jx (pre ++ [x]) W'))
    (W : World) (base : Nat) (hBs : W.cell? ⟨Bs, 0, none⟩ = some (.slice A len cap)) (hown : W.ownsRow base 22 1 (.slice A len cap) len (items.map Itm.val)) (hbt : ∃ p v, W.heap[b]? = some (.cells #[p, v] 74 (0, 0))) (h0 : J [] W) :
    CallsIn F n Tryd.prog 94 #[.func (.yield l) #[] #[], .pointer (some ⟨Bs, 0, none⟩)] W fun e W' => (∃ v, e = .returned v) ∧
      ((∃ ys, ys = items ∧ J ys W') ∨ (∃ pre, pre <+: items ∧ Jx pre W')) := by
  have hrow : ∀ wr, Kp b W wr → ∀ (k : Nat) (x : Itm W0 N), items[k]? = some x → ∃ g, A = some ⟨g, 0, none⟩ ∧ wr.cell? ⟨g, k, none⟩ = some (.slice x.A x.n x.cap) := by
    intro wr hk k x hx
    have hlt : k < len := by rw [← hlen]; exact (List.getElem?_eq_some_iff.1 hx).1
    rcases hown.2 with ⟨_, h0⟩ | ⟨g, cap', cur, hv, hb, hg, h1, h2, h3, h4⟩
    · omega
    · injection hv with hv1 hv2 hv3
      subst hv1
      refine ⟨g, rfl, ?_⟩
      have hne : g ≠ b := fun e => by
        obtain ⟨p, v, hb⟩ := hbt
        rw [e, hb] at hg
        cases hg
      have hg' := hk.keep g cur 22 (0, 0) hg hne (by decide)
      rw [cell_of_row wr g k cur 22 (0, 0) hg']
      have : (items.map Itm.val)[k]? = some x.val := by rw [List.getElem?_map, hx]; rfl
      rw [← h4, List.getElem?_take] at this
      split at this
      · simpa [Itm.val] using this
      · cases this
  have Hrow := Lib.hid hrow
  have Hm := Lib.hid hm
  clear hrow hown hbt hm
  have hcapl : len ≤ len := Nat.le_refl _
  refine callsIn_of_wp Tryd.func94 rfl h94 ?_ hro
  simp only [Tryd.ntmps94, List.size_toArray, List.length_cons, List.length_nil, Nat.reduceAdd, Nat.reduceSub, Array.replicate_succ, Array.replicate_zero, List.push_toArray, List.append_toArray, List.nil_append, List.cons_append]
  gi_wp2
  gi_loopw [7] (fun i wr => ∃ k : Nat, k ≤ len ∧ i = .int .i64 k ∧ J (items.take k) wr ∧ Kp b W wr) (fun i _ => len - (intOf i).toNat)
  case atStart => exact ⟨0, Nat.zero_le _, rfl, h0, Kp.refl _ _⟩
  case round =>
    obtain ⟨k, hk, rfl, hJs, hnx⟩ := hrel
    by_cases hlt : k < len
    · obtain ⟨x, hx⟩ : ∃ x, items[k]? = some x := ⟨_, List.getElem?_eq_getElem (by omega)⟩
      obtain ⟨g, rfl, hc⟩ := Hrow.out wr hnx k x hx
      have hmx := Hm.out k x hx
      have hmx' : decide ((0 : Int) < (k : Int)) = x.m := by rw [hmx]; exact decide_eq_decide.2 (by omega)
      obtain ⟨fn, tmps, assign, body, hy, hR⟩ := hY _ x wr hJs (by rw [List.length_take]; omega)
      have htk : items.take k ++ [x] = items.take (k + 1) := by rw [List.take_add_one, hx]; rfl
      rw [htk] at hR
      dsimp only [encs] at hy
      have hmx'' : decide (0 < k) = x.m := hmx.symm
      clear hmx hY htk hx hJs Hm Hrow
      gi_wp2
      refine hR.mono ?_
      rintro e W3 (⟨rfl, hJ3, hk3⟩ | ⟨rfl, hJx3⟩)
      · have hw64 : wrap64 ((k : Int) + 1) = (k : Int) + 1 := by unfold wrap64; omega
        gi_wp2
        go_roundw
        case rel => exact ⟨k + 1, by omega, by simp [hw64], hJ3, hnx.trans hk3⟩
        case measure => simp [intOf, hw64]; omega
      · gi_wp2
        refine bodyPost_ret (results_none rfl _ _ _) rfl ?_
        exact ⟨⟨_, rfl⟩, .inr ⟨_, List.take_prefix _ _, hJx3⟩⟩
    · obtain rfl : k = len := by omega
      gi_wp2
      go_end0
      exact ⟨⟨_, rfl⟩, .inl ⟨_, rfl, by rw [← hlen, List.take_length] at hJs; exact hJs⟩⟩

theorem each_in (F : Fence) (n : Nat) (h83 : F.fn 83) (hro : F.round = none) (a : Option Addr) (len cap : Nat) (w : World) :
    CallsIn F n Tryd.prog 83 #[.slice a len cap] w fun e w' => e = .returned (.func (.func 94) #[] #[.pointer (some ⟨w.heap.size, 0, none⟩)]) ∧ w' = w.alloc (.cells #[.slice a len cap] 62) := by
  refine callsIn_of_wp Tryd.func83 rfl h83 ?_ hro
  simp only [Tryd.ntmps83, List.size_toArray, List.length_cons, List.length_nil, Nat.reduceAdd, Nat.reduceSub, Array.replicate_succ, Array.replicate_zero, List.push_toArray, List.append_toArray, List.nil_append, List.cons_append]
  gi_wp2
  go_ret
  exact ⟨rfl, rfl⟩
theorem each_stops {W0 : World} {N : Nat} (F : Fence) (n : Nat) (h94 : F.fn 94) (hro : F.round = none) (hn : 1 ≤ n) (Bs b : Nat) (A : Option Addr) (len cap : Nat) (items : List (Itm W0 N)) (hlen : items.length = len) (h1000 : len ≤ 1000) (hm : ∀ (i : Nat) (x : Itm W0 N), items[i]? = some x → x.m = decide (0 < i))
    (w : World) (base : Nat) (hBs : w.cell? ⟨Bs, 0, none⟩ = some (.slice A len cap)) (hown : w.ownsRow base 22 1 (.slice A len cap) len (items.map Itm.val)) (hbt : ∃ p v, w.heap[b]? = some (.cells #[p, v] 74 (0, 0))) (hbl : Bs < w.heap.size) :
    SeqStopsK F n Tryd.prog 94 #[.pointer (some ⟨Bs, 0, none⟩)] (encs (W := W0) (N := N)) (Kp b) (fun ys => ys = items) (fun pre => pre <+: items) len w := fun l J Jx W hW _ _ hY h0 => by
  refine each1_in F n h94 hro hn l Bs b A len cap items hlen h1000 hm J Jx hY W base ((hW.cell (p := ⟨Bs, 0, none⟩) hbl).trans hBs) (own_below hown hW) ?_ h0
  obtain ⟨p, v, hb⟩ := hbt
  exact ⟨p, v, (hW.block b (Array.getElem?_eq_some_iff.1 hb).1).trans hb⟩

/-- what writing a term does, for all terms of so many cells -/
def TermC (W0 : World) (N b : Nat) : Prop := ∀ (A : Option Addr) (n cap : Nat) (T : Tm), IsC W0 A n cap T.flat → T.ok = true → T.size ≤ N → ∀ (l : List UInt8) (w : World), Below W0.heap.size W0 w → Wr b l w →
  l.length + 50000000 * N ≤ 100000000000000 → Calls Tryd.prog 38 #[.pointer (some ⟨b, 0, none⟩), .slice A n cap] w fun e w' => e = .returned (.tuple #[]) ∧ Wr b (l ++ prT T) w' ∧ Fr b w w'
theorem txts_len {W : World} {N : Nat} (l : List (Itm W N)) : (txts l).length ≤ l.length * (40 * N + 1) := by
  induction l with
  | nil => simp [txts]
  | cons x l ih =>
    have h1 : txts (x :: l) = x.txt ++ txts l := rfl
    have h2 : x.txt.length ≤ 40 * N + 1 := by
      have := prT_len x.T x.ok
      have := x.sz
      unfold Itm.txt
      split <;> simp <;> omega
    rw [h1, List.length_append, List.length_cons, Nat.succ_mul]
    omega

set_option maxRecDepth 100000 in
set_option maxHeartbeats 8000000 in
theorem all_any {W0 : World} {N b : Nat} (hW0 : W0.heap.size ≤ b) (hterm : TermC W0 N b) (A : Option Addr) (len cap : Nat) (items : List (Itm W0 N)) (hlen : items.length = len) (h1000 : len ≤ 1000) (hm : ∀ (i : Nat) (x : Itm W0 N), items[i]? = some x → x.m = decide (0 < i))
    (l : List UInt8) (w : World) (base : Nat) (hown : w.ownsRow base 22 1 (.slice A len cap) len (items.map Itm.val)) (hbw : Below W0.heap.size W0 w) (hwr : Wr b l w)
    (hl : l.length + 45000000 + 50000000 * N ≤ 100000000000000) (hN : N ≤ 1000) :
    Calls Tryd.prog 63 #[.pointer (some ⟨b, 0, none⟩), .slice A len cap] w fun e w' => e = .returned (.tuple #[]) ∧ Wr b (l ++ txts items) w' ∧ Fr b w w' := by
  refine (callsIn_wide (n := 3)).1 ?_
  refine callsIn_of_wp_marks Tryd.func63 rfl trivial ?_ rfl
  simp only [Tryd.ntmps63, List.size_toArray, List.length_cons, List.length_nil, Nat.reduceAdd, Nat.reduceSub, Array.replicate_succ, Array.replicate_zero, List.push_toArray, List.append_toArray, List.nil_append, List.cons_append]
  gi_wp2_with (refine ⟨trivial, ?_⟩; gi_at_call 83; refine (each_in Fence.wide _ trivial rfl _ _ _ _).mono ?_; rintro e w' ⟨rfl, rfl⟩)
  have hbsz := hwr.lt
  have hf : Fr b w ((w.alloc (.cells #[.pointer (some ⟨b, 0, none⟩)] 101)).alloc (.cells #[.slice A len cap] 62)) := ((Fr.refl b w).alloc (by omega) _).alloc (by simp; omega) _
  have hbx : ((w.alloc (.cells #[.pointer (some ⟨b, 0, none⟩)] 101)).alloc (.cells #[.slice A len cap] 62)).heap[w.heap.size]? = some (.cells #[.pointer (some ⟨b, 0, none⟩)] 101 (0, 0)) := (alloc_past (by simp)).trans (alloc_at rfl)
  have hbs : ((w.alloc (.cells #[.pointer (some ⟨b, 0, none⟩)] 101)).alloc (.cells #[.slice A len cap] 62)).cell? ⟨w.heap.size + 1, 0, none⟩ = some (.slice A len cap) := by
    simp
  have hwr2 : Wr b l ((w.alloc (.cells #[.pointer (some ⟨b, 0, none⟩)] 101)).alloc (.cells #[.slice A len cap] 62)) := (hwr.alloc _).alloc _
  have hown2 := own_below hown (((Below.refl _ w).alloc (Nat.le_refl _) (.cells #[.pointer (some ⟨b, 0, none⟩)] 101)).alloc (by simp) (.cells #[.slice A len cap] 62))
  have hsz : ((w.alloc (.cells #[.pointer (some ⟨b, 0, none⟩)] 101)).alloc (.cells #[.slice A len cap] 62)).heap.size = w.heap.size + 2 := by simp
  obtain ⟨W, hW⟩ : ∃ W, (w.alloc (.cells #[.pointer (some ⟨b, 0, none⟩)] 101)).alloc (.cells #[.slice A len cap] 62) = W := ⟨_, rfl⟩
  rw [hW] at hf hbx hbs hwr2 hown2 hsz ⊢
  clear hW hown
  refine wpIn_rangeFunc_ownF rfl (by omega) (gf := 94) (lb := #[.pointer (some ⟨w.heap.size + 1, 0, none⟩)]) rfl trivial (enters_of Tryd.func94 (by kernel_rfl) rfl)
    (each_stops Fence.wide _ trivial rfl (by omega) (w.heap.size + 1) b A len cap items hlen h1000 hm W base hbs hown2 hwr2.block (by omega)) Kp.trans (kp_put (by omega)) (Below.refl _ _) (fun _ => rfl)
    (fun pre V => (Wr b (l ++ txts pre) V ∧ V.heap[w.heap.size]? = some (.cells #[.pointer (some ⟨b, 0, none⟩)] 101 (0, 0))) ∧ Fr b w V)
    (fun _ _ _ => False)
    (fun s X Y row hs hg hr => ⟨⟨hs.1.1.turn hg (fun r e => (hr r e).2), block_kept hs.1.2 hg (fun r e => (hr r e).2)⟩, hs.2.low.grown hg (Nat.le_trans (by omega) hs.2.size) (fun k e => Nat.le_trans (by omega) (hr k e).1), keep_turn hs.2.keep (by omega) hg (fun r e => (hr r e).1)⟩)
    (fun _ _ _ _ _ hs _ _ => hs)
    ⟨⟨by simpa [txts] using hwr2, hbx⟩, hf⟩
    (fun x => { tmps := #[.pointer (some ⟨b, 0, none⟩), .slice A len cap, .pointer (some ⟨w.heap.size, 0, none⟩), undef, .bool x.m, .slice x.A x.n x.cap, .slice A len cap, .func (.func 94) #[] #[.pointer (some ⟨w.heap.size + 1, 0, none⟩)], .bool x.m, .slice x.A x.n x.cap, undef, undef, undef, undef, undef, undef, undef, undef], defers := [] }) ?assign ?body ?done ?stop
  case assign =>
    intro l x W K hK
    unfold encs
    gi_wp2
    exact hK
  case body =>
    rintro k pre x V ⟨⟨hV, hc0⟩, hfV⟩ hpre
    have hlenp := txts_len pre
    have hpn : pre.length * (40 * N + 1) ≤ 1000 * 40001 := Nat.mul_le_mul (by omega) (by omega)
    have hc := cells_of hc0 0
    simp at hc
    have hbV : Below W0.heap.size W0 V := hbw.trans (hfV.low.mono hW0)
    obtain ⟨p0, v0, hblk⟩ := hV.block
    have ht := fun (l' : List UInt8) (V' : World) (h1 : Below W0.heap.size W0 V') (h2 : Wr b l' V') (h3 : l'.length + 50000000 * N ≤ 100000000000000) => hterm x.A x.n x.cap x.T x.is x.ok x.sz l' V' h1 h2 h3
    have Ht := Lib.hid ht
    have HV := Lib.hid hV
    have hl1 : (l ++ txts pre).length + 1 + 50000000 * N ≤ 100000000000000 := by rw [List.length_append]; omega
    have Hl := Lib.hid hl1
    clear hlenp hpn hl1 ht hlen hm hown2 hterm hV
    obtain ⟨q, hq⟩ : ∃ q, x.m = q := ⟨_, rfl⟩
    rw [hq]
    cases q with
    | true =>
      gi_wp2_with (refine ⟨trivial, ?_⟩; first
        | (gi_at_call 38; refine (CallsIn.inRound k (callsIn_wide.2 (Ht.out _ _ (hbV.trans (f1.low.mono hW0)) h1 (by have := Hl.out; simp only [List.length_append, List.length_cons, List.length_nil] at this ⊢; omega)))).mono ?_; rintro e V2 ⟨rfl, h2, f2⟩)
        | (gi_at_call 40; refine (CallsIn.inRound k (callsIn_wide.2 (wbyte b (l ++ txts pre) 44 44 rfl _ HV.out (by have := Hl.out; omega)))).mono ?_; rintro e V1 ⟨rfl, h1, f1⟩; have hc1 := cells_of (f1.block hc0 (by omega) (by decide)) 0; simp at hc1))
      refine ⟨(f1.trans f2).others hblk, (f1.trans f2).kp, ⟨?_, (f1.trans f2).block hc0 (by omega) (by decide)⟩, hfV.trans (f1.trans f2)⟩
      rw [txts_snoc, Itm.txt, hq, if_pos rfl]
      simpa [List.append_assoc] using h2
    | false =>
      gi_wp2_with (refine ⟨trivial, ?_⟩; gi_at_call 38; refine (CallsIn.inRound k (callsIn_wide.2 (Ht.out _ _ hbV HV.out (by have := Hl.out; omega)))).mono ?_; rintro e V2 ⟨rfl, h2, f2⟩)
      refine ⟨f2.others hblk, f2.kp, ⟨?_, f2.block hc0 (by omega) (by decide)⟩, hfV.trans f2⟩
      rw [txts_snoc, Itm.txt, hq, if_neg (by decide)]
      simpa [List.append_assoc] using h2
  case done =>
    rintro D ys V hD rfl ⟨⟨hV, hc⟩, hfV⟩ hK
    gi_wp2
    refine ⟨by simp, .inl ⟨_, _, rfl, run_takeDeferred hK, ?_⟩⟩
    have hg := grownBy_putObj' V D (.deferred none)
    have hr : ∀ r, some D = some r → W.heap.size ≤ r ∧ ∃ o : Obj, V.heap[r]? = some o ∧ o.isCells = false := fun r e => by cases e; exact ⟨hD, _, hK, rfl⟩
    exact ⟨_, results_none rfl _ _ _, rfl, hV.turn hg (fun r e => (hr r e).2), hfV.low.grown hg (Nat.le_trans (by omega) hfV.size) (fun r e => Nat.le_trans (by omega) (hr r e).1), keep_turn hfV.keep (by omega) hg (fun r e => (hr r e).1)⟩
  case stop =>
    rintro D c pre W _ _ h _
    exact h.elim
end Go.Proofs.YtekdcmplcjgonaaDoor

/- The walk that writes a list. -/
namespace Go.Proofs.YtekdcmplcjgonaaDoor
open Go.RowKit

def isDot (T : Tm) : Prop := ∃ s a b, T = .f s [a, b] ∧ bytesOf s = [46]
def isNil (T : Tm) : Prop := ∃ s, T = .f s [] ∧ bytesOf s = [91, 93]
/-- the cell that a list begins with, or its end -/
theorem dot_iff (T : Tm) : (T.c0.kind == 3 && (T.c0.name.data.toList == [46] && T.c0.n == 2)) = true ↔ isDot T := by
  constructor
  · intro h
    simp at h
    cases T with
    | v n => simp [Tm.c0] at h
    | i n => simp [Tm.c0] at h
    | f s asx =>
      obtain ⟨_, h1, h2⟩ := h
      simp [Tm.c0] at h1 h2
      match asx, h2 with
      | [a, b], _ => exact ⟨s, a, b, rfl, h1⟩
      | [], h => simp at h
      | [_], h => simp at h
      | _ :: _ :: _ :: _, h => simp at h; omega
  · rintro ⟨s, a, b, rfl, h⟩
    simp [Tm.c0]
    exact h
theorem nil_iff (T : Tm) : (T.c0.kind == 3 && (T.c0.name.data.toList == [91, 93] && T.c0.n == 0)) = true ↔ isNil T := by
  constructor
  · intro h
    simp at h
    cases T with
    | v n => simp [Tm.c0] at h
    | i n => simp [Tm.c0] at h
    | f s asx =>
      obtain ⟨_, h1, h2⟩ := h
      simp [Tm.c0] at h1 h2
      match asx, h2 with
      | [], _ => exact ⟨s, rfl, h1⟩
      | _ :: _, h => simp at h
  · rintro ⟨s, rfl, h⟩
    simp [Tm.c0]
    exact h
/-- what stands behind so many terms of a list -/
def restTx (k : Nat) (U : Tm) : List UInt8 := if k = 0 then (prT U).drop 1 else prL U
theorem rest_dot {k : Nat} {s : ByteArray} {a b : Tm} (hs : bytesOf s = [46]) : restTx k (.f s [a, b]) = (if 0 < k then [44] else []) ++ prT a ++ restTx (k + 1) b := by
  have h1 : prT (.f s [a, b]) = 91 :: (prT a ++ prL b) := by rw [prT, hs]; rfl
  have h2 : prL (.f s [a, b]) = 44 :: (prT a ++ prL b) := by rw [prL, hs]; rfl
  unfold restTx
  by_cases h : k = 0
  · subst h; simp [h1]
  · rw [if_neg h, if_pos (by omega), if_neg (by omega), h2]; simp
theorem rest_nil {k : Nat} {U : Tm} (h : isNil U) : restTx k U = [93] := by
  obtain ⟨s, rfl, hs⟩ := h
  unfold restTx
  split
  · rw [prT, if_pos hs]; rfl
  · rw [prL, if_pos hs]
theorem rest_end {k : Nat} {U : Tm} (hk : 0 < k) (h1 : ¬ isDot U) (h2 : ¬ isNil U) : restTx k U = 124 :: (prT U ++ [93]) := by
  unfold restTx
  rw [if_neg (by omega)]
  match U with
  | .v n => rw [prL]
  | .i n => rw [prL]
  | .f s [] => rw [prL, if_neg (fun h => h2 ⟨s, rfl, h⟩)]
  | .f s [a] => rw [prL]
  | .f s [a, b] => rw [prL, if_neg (fun h => h1 ⟨s, a, b, rfl, h⟩)]
  | .f s (a :: b :: c :: ts) => rw [prL]
theorem list_start {T : Tm} (h : isDot T ∨ isNil T) : prT T = 91 :: restTx 0 T := by
  rcases h with ⟨s, a, b, rfl, hs⟩ | ⟨s, rfl, hs⟩
  · rw [restTx, if_pos rfl, prT, hs]; rfl
  · rw [restTx, if_pos rfl, prT, if_pos hs]; rfl
theorem Fr.of_below {b : Nat} {w w' : World} (h : Below w.heap.size w w') (hb : b ≤ w.heap.size) : Fr b w w' :=
  ⟨h.mono hb, fun k o hk _ _ => (h.block k (Array.getElem?_eq_some_iff.1 hk).1).trans hk⟩
theorem Wr.below {b : Nat} {l : List UInt8} {w w' : World} (h : Wr b l w) (hb : Below w.heap.size w w') : Wr b l w' := by
  have key : ∀ p, Lib.BuilderAtF 74 5 b b p (Lib.byteCells l) w → Lib.BuilderAtF 74 5 b b p (Lib.byteCells l) w' := by
    rintro p ⟨hB, v, hbk, hown, hne⟩
    refine ⟨hB, v, (hb.block b (Array.getElem?_eq_some_iff.1 hbk).1).trans hbk, ⟨hown.1, ?_⟩, hne⟩
    rcases hown.2 with h2 | ⟨g, cap, cur, fz, hv, hg, hh, r⟩
    · exact .inl h2
    · exact .inr ⟨g, cap, cur, fz, hv, hg, (hb.block g (Array.getElem?_eq_some_iff.1 hh).1).trans hh, r⟩
  exact h.imp (key _) (key _)
theorem IsC.above {W w : World} {A : Option Addr} {n cap : Nat} {cs : List C} (h : IsC W A n cap cs) (hb : Below W.heap.size W w) : IsC w A n cap cs := h.below hb
/-- the parts of a list's term -/
theorem dot_parts {W : World} {vs : List Value} {s : ByteArray} {a b : Tm} (hok : (Tm.f s [a, b]).ok = true) (hsz : (Tm.f s [a, b]).size ≤ 200) (h : Rows_ W vs (partsF (Tm.f s [a, b]).flat)) :
    ∃ A0 n0 c0 A1 n1 c1, vs = [.slice A0 n0 c0, .slice A1 n1 c1] ∧ IsC W A0 n0 c0 a.flat ∧ IsC W A1 n1 c1 b.flat := by
  rw [parts_flat hok hsz] at h
  obtain ⟨h1, h2⟩ := h
  obtain ⟨A0, n0, c0, e0, i0⟩ := h2 0 a.flat rfl
  obtain ⟨A1, n1, c1, e1, i1⟩ := h2 1 b.flat rfl
  refine ⟨A0, n0, c0, A1, n1, c1, ?_, i0, i1⟩
  simp [Tm.args] at h1
  match vs, h1, e0, e1 with
  | [x, y], _, e0, e1 => simp at e0 e1; rw [e0, e1]

theorem own_fr {w w' : World} {b base : Nat} {l : List UInt8} {v : Value} {n : Nat} {xs : List Value} (h : w.ownsRow base 22 1 v n xs) (hf : Fr b w w') (hw : Wr b l w) : w'.ownsRow base 22 1 v n xs := by
  refine ⟨h.1, ?_⟩
  rcases h.2 with h2 | ⟨g, cap, cur, hv, hg, hh, r⟩
  · exact .inl h2
  · refine .inr ⟨g, cap, cur, hv, hg, hf.block hh (fun e => ?_) (by decide), r⟩
    obtain ⟨p, v2, hb⟩ := hw.block
    rw [e, hb] at hh
    cases hh
theorem cell_step {w w7 : World} {o : Obj} {g k : Nat} {v : Value} (hq : w7.heap[g]? = (w.alloc o).drew.heap[g]?) (hg : g < w.heap.size) (h : w.cell? ⟨g, k, none⟩ = some v) : w7.cell? ⟨g, k, none⟩ = some v := by
  have h1 : w7.heap[g]? = w.heap[g]? := hq.trans (alloc_past hg)
  simpa [World.cell?, h1] using h
set_option maxRecDepth 100000 in
set_option maxHeartbeats 8000000 in
theorem wlist_any {W0 : World} {N b : Nat} (hW0 : W0.heap.size ≤ b) (hterm : TermC W0 N b) (A : Option Addr) (n cap : Nat) (T : Tm) (h : IsC W0 A n cap T.flat) (hok : T.ok = true) (hsz : T.size ≤ N + 1) (hN : N ≤ 199) (hl0 : isDot T ∨ isNil T)
    (l : List UInt8) (w : World) (hbw : Below W0.heap.size W0 w) (hwr : Wr b l w) (hl : l.length + 46000000 + 50000000 * N ≤ 100000000000000) :
    Calls Tryd.prog 62 #[.pointer (some ⟨b, 0, none⟩), .slice A n cap] w fun e w' => e = .returned (.tuple #[]) ∧ Wr b (l ++ prT T) w' ∧ Fr b w w' := by
  go_enter Tryd.func62, Tryd.ntmps62
  go_wp2
  go_loopw [1, 4] (fun tv lv wr => ∃ (its : List (Itm W0 N)) (U : Tm) (AU : Option Addr) (nU cU : Nat) (AL : Option Addr) (cL : Nat), tv = .slice AU nU cU ∧ lv = .slice AL its.length cL ∧ IsC W0 AU nU cU U.flat ∧ U.ok = true ∧ U.size + its.length ≤ N + 1 ∧ wr.ownsRow w.heap.size 22 1 (.slice AL its.length cL) its.length (its.map Itm.val) ∧
      Hid (∀ (i : Nat) (x : Itm W0 N), its[i]? = some x → x.m = decide (0 < i)) ∧ Hid (restTx 0 T = txts its ++ restTx its.length U) ∧ Hid (its = [] → U = T) ∧ Below w.heap.size w wr) (fun tv _ _ => match tv with | .slice _ k _ => k | _ => 0)
  case atStart => exact ⟨[], T, A, n, cap, none, 0, rfl, rfl, h, hok, by simpa using hsz, World.ownsRow_nil _ _ _ _, Lib.hid (by simp), Lib.hid (by simp [txts]), Lib.hid (fun _ => rfl), Below.refl _ _⟩
  case round =>
    obtain ⟨its, U, AU, nU, cU, AL, cL, rfl, rfl, hU, hUok, hUs, hown, hmm, htx, hst, hb⟩ := hrel
    have hUw := hU.below (hbw.trans (hb.mono hbw.size))
    by_cases hd : isDot U
    · have his := fun w' (hb' : Below wr.heap.size wr w') => pis_any AU nU cU U.flat U.c0 ⟨#[46]⟩ 2 w' (hUw.below hb') (flat_get0 U)
      rw [(dot_iff U).2 hd] at his
      obtain ⟨s, a, c, rfl, hs⟩ := hd
      have hparts := fun w' (hb' : Below wr.heap.size wr w') => tParts_w W0 AU nU cU _ w' hU ((hbw.trans (hb.mono hbw.size)).trans (hb'.mono (by have := hbw.size; have := hb.size; omega))) (right_flat hUok (by omega))
      have hokA := args_ok hUok
      have hszU := size_args (Tm.f s [a, c])
      simp only [Tm.args, oks, sizes, Bool.and_eq_true, Bool.and_true, Nat.add_zero] at hokA hszU
      have Htx := Lib.hid (htx.out)
      have Hparts := Lib.hid hparts
      have His := Lib.hid his
      have HUok := Lib.hid hUok
      have hwsz : w.heap.size ≤ wr.heap.size := hb.size
      have hbWr : Below W0.heap.size W0 wr := hbw.trans (hb.mono hbw.size)
      have hits : its.length ≤ 200 := by omega
      clear hparts his htx hUok
      go_upto_region 3 with (first
        | (go_at_call 61; refine (His.out _ (Below.refl _ _)).mono ?_; rintro e w1 ⟨rfl, rfl⟩)
        | (go_at_call 60; refine (Hparts.out _ (Below.refl _ _)).mono ?_; rintro e w2 ⟨AP, nP, cP, vP, rfl, hPl, hPown, hProws, hPb⟩; have hown2 := own_below hown hPb))
      obtain ⟨A0, n0, c0, A1, n1, c1, rfl, hi0, hi1⟩ := dot_parts HUok.out (by omega) hProws
      have hsl := Sl.own hPown (by omega)
      have hnP : nP = 2 := by have := hsl.len; simp at this; omega
      subst hnP
      obtain ⟨gp, op, rfl, hgp, hpc⟩ := hsl.cells (by omega)
      have hp0 := hpc 0 _ rfl
      have hp1 := hpc 1 _ rfl
      rw [Nat.add_zero] at hp0
      have hgp1 : w1.heap.size ≤ gp := by
        rcases hPown.2 with ⟨h1, _⟩ | ⟨g, cap', cur, hv, hg, _⟩
        · cases h1
        · injection hv with hv; injection hv with hv; injection hv with hv; omega
      have hAL : ∀ q, AL = some q → q.block < w1.heap.size := fun q hq => by
        rcases hown.2 with ⟨h1, _⟩ | ⟨g, cap', cur, hv, hg, hh, _⟩
        · injection h1 with h1; rw [h1] at hq; cases hq
        · injection hv with hv; rw [hv] at hq; cases hq; exact (Array.getElem?_eq_some_iff.1 hh).1
      have hapa : ∀ q, AL = some q → q.block ≠ gp := fun q hq => by have := hAL q hq; omega
      have Hapa := Lib.hid hapa
      have hw12 : w1.heap.size ≤ w2.heap.size := hPb.size
      have Hown2 := Lib.hid hown2
      clear hown hAL hapa hpc hsl hPown hProws hPl Hparts His hUw hown2
      go_region_law (first
        | (refine step_append_ap (xs := its.map Itm.val) (by rfl) (.tmp 10) (.tmp 14) 62 (by rfl) w.heap.size 22 Tryd.underlying62 infoCs (by rfl) (by omega) (by rfl) (.inr ?_) (by rfl) (news := [.slice A0 n0 c0]) ?_ (one1 rfl) (by omega) (by omega) (by omega) (by simp; omega) ?_; (focus (exact (own_below Hown2.out (((Below.refl _ w2).alloc (Nat.le_refl _) _).drew)))); (focus (exact (Sl.lit w2 _ [_] 22 1 1 rfl rfl (by simp [maxLen])).below ((Below.refl _ _).drew))); intro A7 c7 w7 hown7 hb7 hap7; have hq1 := hap7.old gp (by simp; omega) (fun q hq => Hapa.out q hq); have hq2 : w7.cell? ⟨gp, op + 1, none⟩ = some (.slice A1 n1 c1) := cell_step hq1 hgp hp1)
        | fail)
      all_goals
        have hasz : a.size ≤ N := by have := c.size_pos; omega
        obtain ⟨x, hx⟩ : ∃ x : Itm W0 N, x = ⟨decide (0 < its.length), A0, n0, c0, a, hi0, hokA.1, hasz⟩ := ⟨_, rfl⟩
        have hxv : x.val = .slice A0 n0 c0 := by rw [hx]; rfl
        have hxt : x.txt = (if 0 < its.length then [44] else []) ++ prT a := by rw [hx]; unfold Itm.txt; simp
        have hxm : x.m = decide (0 < its.length) := by rw [hx]
        have hown8 : w7.ownsRow w.heap.size 22 1 (.slice A7 (its ++ [x]).length c7) (its ++ [x]).length ((its ++ [x]).map Itm.val) := by
          rw [List.length_append, List.map_append, List.map_cons, List.map_nil, hxv]; exact hown7
        have hmm8 : ∀ (i : Nat) (y : Itm W0 N), (its ++ [x])[i]? = some y → y.m = decide (0 < i) := fun i y hy => by
          rcases Nat.lt_trichotomy i its.length with h | h | h
          · rw [List.getElem?_append_left h] at hy; exact hmm.out i y hy
          · subst h; rw [List.getElem?_append_right (Nat.le_refl _), Nat.sub_self] at hy; cases hy; exact hxm
          · rw [List.getElem?_append_right (by omega), List.getElem?_eq_none (by simp; omega)] at hy; cases hy
        have htx8 : restTx 0 T = txts (its ++ [x]) ++ restTx (its ++ [x]).length c := by
          rw [Htx.out, rest_dot hs, txts_snoc, hxt, List.length_append]; simp [List.append_assoc]
        have hb8 : Below w.heap.size w w7 := (hb.trans ((hPb.mono hwsz).alloc (by omega) _).drew).trans hb7
        have hlen8 : (its ++ [x]).length = its.length + 1 := by simp
        have Hm8 := Lib.hid hmm8
        have Ht8 := Lib.hid htx8
        have hn1 := hi1.len
        have hnU := hU.len
        rw [flat_size] at hn1 hnU
        clear Htx hmm hst hxv hxt hxm hmm8 htx8 hown7 hap7 hq1 Hapa Hown2
        try simp only [List.getElem_toArray, List.getElem_cons_succ, List.getElem_cons_zero, Act.put, List.setIfInBounds_toArray, List.set_cons_succ, List.set_cons_zero]
        go_wp2
        go_roundw
        case rel => exact ⟨its ++ [x], c, A1, n1, c1, A7, c7, rfl, by rw [hlen8], hi1, hokA.2, by rw [hlen8]; omega, hown8, Hm8, Ht8, Lib.hid (fun h => by simp at h), hb8⟩
        case measure => simp; omega
    · have hnd : (U.c0.kind == 3 && (U.c0.name.data.toList == [46] && U.c0.n == 2)) = false := by rw [← Bool.not_eq_true, dot_iff]; exact hd
      have his := fun w' (hb' : Below wr.heap.size wr w') => pis_any AU nU cU U.flat U.c0 ⟨#[46]⟩ 2 w' (hUw.below hb') (flat_get0 U)
      rw [hnd] at his
      have hwr1 : Wr b l wr := hwr.below hb
      have hbsz := hwr.lt
      have hf1 : Fr b w wr := Fr.of_below hb (Nat.le_of_lt hbsz)
      have hbWr : Below W0.heap.size W0 wr := hbw.trans (hb.mono hbw.size)
      have his2 := fun w' (hb' : Below W0.heap.size W0 w') => pis_any AU nU cU U.flat U.c0 ⟨#[91, 93]⟩ 0 w' (hU.below hb') (flat_get0 U)
      have hits : its.length ≤ 200 := by omega
      have hall := fun (w2 : World) (h1 : Wr b (l ++ [91]) w2) (f2 : Fr b wr w2) => all_any (N := N) hW0 hterm AL its.length cL its rfl (by omega) hmm.out (l ++ [91]) w2 w.heap.size (own_fr hown f2 hwr1) (hbWr.trans (f2.low.mono hW0)) h1 (by simp; omega) (by omega)
      have Hall := Lib.hid hall
      have His := Lib.hid his
      have HWr1 := Lib.hid hwr1
      have Hf1 := Lib.hid hf1
      have HbWr := Lib.hid hbWr
      have Htx := Lib.hid htx.out
      have Hst := Lib.hid hst.out
      have Hl := Lib.hid hl
      have htxl := txts_len its
      have htxl2 : (txts its).length ≤ 200 * 8001 := Nat.le_trans htxl (Nat.mul_le_mul hits (by omega))
      have Htl := Lib.hid htxl2
      have hst2 := list_start hl0
      have Hst2 := Lib.hid hst2
      by_cases hn : isNil U
      · rw [(nil_iff U).2 hn] at his2
        have His2 := Lib.hid his2
        have htx3 : prT T = 91 :: (txts its ++ [93]) := by rw [Hst2.out, Htx.out, rest_nil hn]
        have Htx3 := Lib.hid htx3
        clear htx3 his2 hst2 htxl htxl2 hall his hwr1 hf1 hbWr htx hst hown hmm hterm h hUw hwr hbw hb
        go_wp2_with (first
          | (go_at_call 40; refine (wbyte b (l ++ [91] ++ txts its) 93 93 rfl _ h3 (by have := Hl.out; have := Htl.out; simp; omega)).mono ?_; rintro e w4 ⟨rfl, h4, f4⟩)
          | (go_at_call 61; refine (His2.out _ (HbWr.out.trans ((f2.trans f3).low.mono hW0))).mono ?_; rintro e w9 ⟨rfl, rfl⟩)
          | (go_at_call 63; refine (Hall.out w2 h2 f2).mono ?_; rintro e w3 ⟨rfl, h3, f3⟩)
          | (go_at_call 40; refine (wbyte b l 91 91 rfl _ HWr1.out (by have := Hl.out; omega)).mono ?_; rintro e w2 ⟨rfl, h2, f2⟩)
          | (go_at_call 61; refine (His.out _ (Below.refl _ _)).mono ?_; rintro e w1 ⟨rfl, rfl⟩))
        go_end0
        exact ⟨rfl, by rw [Htx3.out]; simpa [List.append_assoc] using h4, Hf1.out.trans (f2.trans (f3.trans f4))⟩
      · have hnn : (U.c0.kind == 3 && (U.c0.name.data.toList == [91, 93] && U.c0.n == 0)) = false := by rw [← Bool.not_eq_true, nil_iff]; exact hn
        rw [hnn] at his2
        have hpos : 0 < its.length := by
          rcases Nat.eq_zero_or_pos its.length with h0 | h0
          · have := Hst.out (List.eq_nil_of_length_eq_zero h0)
            subst this
            rcases hl0 with h1 | h1
            · exact absurd h1 hd
            · exact absurd h1 hn
          · exact h0
        have His2 := Lib.hid his2
        have htx3 : prT T = 91 :: (txts its ++ 124 :: (prT U ++ [93])) := by rw [Hst2.out, Htx.out, rest_end hpos hd hn]
        have Htx3 := Lib.hid htx3
        have hUsz : U.size ≤ N := by omega
        have hpl := prT_len U hUok
        have hpl2 : (prT U).length ≤ 8001 := by omega
        have Hpl := Lib.hid hpl2
        have hte := fun (l' : List UInt8) (w' : World) (h1 : Below W0.heap.size W0 w') (h2 : Wr b l' w') (h3 : l'.length + 50000000 * N ≤ 100000000000000) => hterm AU nU cU U hU hUok hUsz l' w' h1 h2 h3
        have Hte := Lib.hid hte
        clear htx3 his2 hst2 htxl htxl2 hall his hwr1 hf1 hbWr htx hst hown hmm hterm h hUw hwr hbw hb hpl hpl2 hte hd hn hl0
        go_wp2_with (first
          | (go_at_call 40; refine (wbyte b (l ++ [91] ++ txts its ++ [124] ++ prT U) 93 93 rfl _ h5 (by have := Hl.out; have := Htl.out; have := Hpl.out; simp; omega)).mono ?_; rintro e w6 ⟨rfl, h6, f6⟩)
          | (go_at_call 38; refine (Hte.out _ _ (HbWr.out.trans ((f2.trans (f3.trans f4)).low.mono hW0)) h4 (by have := Hl.out; have := Htl.out; simp; omega)).mono ?_; rintro e w5 ⟨rfl, h5, f5⟩)
          | (go_at_call 40; refine (wbyte b (l ++ [91] ++ txts its) 124 124 rfl _ h3 (by have := Hl.out; have := Htl.out; simp; omega)).mono ?_; rintro e w4 ⟨rfl, h4, f4⟩)
          | (go_at_call 61; refine (His2.out _ (HbWr.out.trans ((f2.trans f3).low.mono hW0))).mono ?_; rintro e w9 ⟨rfl, rfl⟩)
          | (go_at_call 63; refine (Hall.out w2 h2 f2).mono ?_; rintro e w3 ⟨rfl, h3, f3⟩)
          | (go_at_call 40; refine (wbyte b l 91 91 rfl _ HWr1.out (by have := Hl.out; omega)).mono ?_; rintro e w2 ⟨rfl, h2, f2⟩)
          | (go_at_call 61; refine (His.out _ (Below.refl _ _)).mono ?_; rintro e w1 ⟨rfl, rfl⟩))
        go_end0
        exact ⟨rfl, by rw [Htx3.out]; simpa [List.append_assoc] using h6, Hf1.out.trans (f2.trans (f3.trans (f4.trans (f5.trans f6))))⟩
end Go.Proofs.YtekdcmplcjgonaaDoor

/- The walk that writes a term. -/
namespace Go.Proofs.YtekdcmplcjgonaaDoor
open Go.RowKit

/-- the table of powers of ten is as the program lays it, whatever comes above -/
def Tab (W : World) : Prop := Lib.TabBelow Tryd.prog W.heap.size W "internal/strconv.uint64pow10" .u64 Lib.pow10Tab
/-- what writing this term does -/
def TermT (W0 : World) (N b : Nat) (T : Tm) : Prop := ∀ (A : Option Addr) (n cap : Nat), IsC W0 A n cap T.flat → T.ok = true → T.size ≤ N → ∀ (l : List UInt8) (w : World), Below W0.heap.size W0 w → Wr b l w →
  l.length + 50000000 * N ≤ 100000000000000 → Calls Tryd.prog 38 #[.pointer (some ⟨b, 0, none⟩), .slice A n cap] w fun e w' => e = .returned (.tuple #[]) ∧ Wr b (l ++ prT T) w' ∧ Fr b w w'
theorem bsize (l : List UInt8) : (⟨l.toArray⟩ : ByteArray).size = l.length := rfl
/-- the parts of a cell, in their places -/
theorem first_cell {W : World} {A : Option Addr} {n cap : Nat} {T : Tm} (h : IsC W A n cap T.flat) : ∃ b off, A = some ⟨b, off, none⟩ ∧ b < W.heap.size ∧ T.c0.wf ∧ 0 < n ∧ W.cell? ⟨b, off, none⟩ = some (.int .i64 T.c0.kind) ∧ W.cell? ⟨b, off + 1, none⟩ = some (.string T.c0.name) ∧ W.cell? ⟨b, off + 2, none⟩ = some (.int .i64 T.c0.n) := by
  obtain ⟨b, off, rfl, hb, hw, c0, c1, c2⟩ := h.at_ (flat_get0 T)
  rw [Nat.zero_mul, Nat.add_zero] at c0 c1 c2
  refine ⟨b, off, rfl, hb, hw, ?_, c0, c1, c2⟩
  have := h.len
  rw [flat_size] at this
  have := T.size_pos
  omega

set_option maxRecDepth 100000 in
set_option maxHeartbeats 8000000 in
theorem wterm_v {W0 : World} {N b : Nat} (hW0 : W0.heap.size ≤ b) (v : Int) : TermT W0 (N + 1) b (.v v) := by
  intro A n cap h hok hsz l w hbw hwr hl
  have hv : 0 ≤ v ∧ v ≤ 999 := by simpa [Tm.ok] using hok
  obtain ⟨k, rfl⟩ : ∃ k : Nat, v = k := ⟨v.toNat, by omega⟩
  have hk : k ≤ 999 := by omega
  obtain ⟨bt, off, rfl, hbt, hwf, hn, c0', c1', c2'⟩ := first_cell h
  have c0 := (hbw.cell (p := ⟨bt, off, none⟩) hbt).trans c0'
  have c1 := (hbw.cell (p := ⟨bt, off + 1, none⟩) hbt).trans c1'
  have c2 := (hbw.cell (p := ⟨bt, off + 2, none⟩) hbt).trans c2'
  simp only [Tm.c0] at c0 c1 c2
  have hbw2 : bt < w.heap.size := Nat.lt_of_lt_of_le hbt hbw.size
  have htx : prT (.v (k : Int)) = varName k := by rw [prT]; simp
  have hvl := varName_len k hk
  rw [htx]
  clear htx h hok hsz c0' c1' c2' hwf
  go_enter Tryd.func38, Tryd.ntmps38
  go_wp2
  generalize hW : w.alloc (.cells #[.int .i64 1, .string ⟨#[]⟩, .int .i64 (k : Int)] 66) = W
  have hbl : Below w.heap.size w W := by rw [← hW]; exact (Below.refl _ _).alloc (Nat.le_refl _) _
  have hx : W.heap[w.heap.size]? = some (.cells #[.int .i64 1, .string ⟨#[]⟩, .int .i64 (k : Int)] 66 (0, 0)) := by rw [← hW]; exact alloc_at rfl
  have x2 := cells_of hx 2
  simp at x2
  have hwr1 := hwr.below hbl
  have hf1 : Fr b w W := Fr.of_below hbl (Nat.le_of_lt hwr.lt)
  clear hW hx
  go_region_law (first
    | (go_simp; go_at_call 39; refine (wstr b l ⟨(varName k).toArray⟩ _ (hwr1.below hb2) (by rw [bsize]; omega)).mono ?_; rintro e w3 ⟨rfl, h3, f3⟩)
    | (go_simp; go_at_call 23; refine (pVarName_any k hk _).mono ?_; rintro e w2 ⟨rfl, hb2⟩; replace hb2 : Below W.heap.size W w2 := ((Below.refl _ W).drew).trans hb2)
    | fail)
  all_goals
    go_wp2
    go_end0
    exact ⟨rfl, h3, hf1.trans ((Fr.of_below hb2 (Nat.le_of_lt hwr1.lt)).trans f3)⟩

set_option maxRecDepth 100000 in
set_option maxHeartbeats 8000000 in
theorem wterm_i {W0 : World} {N b : Nat} (hW0 : W0.heap.size ≤ b) (htab : Tab W0) (v : Int) : TermT W0 (N + 1) b (.i v) := by
  intro A n cap h hok hsz l w hbw hwr hl
  have hv : -2147483647 ≤ v ∧ v ≤ 2147483647 := by simpa [Tm.ok] using hok
  obtain ⟨bt, off, rfl, hbt, hwf, hn, c0', c1', c2'⟩ := first_cell h
  have c0 := (hbw.cell (p := ⟨bt, off, none⟩) hbt).trans c0'
  have c1 := (hbw.cell (p := ⟨bt, off + 1, none⟩) hbt).trans c1'
  have c2 := (hbw.cell (p := ⟨bt, off + 2, none⟩) hbt).trans c2'
  simp only [Tm.c0] at c0 c1 c2
  have hbw2 : bt < w.heap.size := Nat.lt_of_lt_of_le hbt hbw.size
  have htx : prT (.i v) = Lib.itoa v := by rw [prT]
  have hvl := itoa_len v hv.1 hv.2
  rw [htx]
  clear htx h hok hsz c0' c1' c2' hwf
  go_enter Tryd.func38, Tryd.ntmps38
  go_wp2
  generalize hW : w.alloc (.cells #[.int .i64 2, .string ⟨#[]⟩, .int .i64 v] 66) = W
  have hbl : Below w.heap.size w W := by rw [← hW]; exact (Below.refl _ _).alloc (Nat.le_refl _) _
  have hx : W.heap[w.heap.size]? = some (.cells #[.int .i64 2, .string ⟨#[]⟩, .int .i64 v] 66 (0, 0)) := by rw [← hW]; exact alloc_at rfl
  have x2 := cells_of hx 2
  simp at x2
  have hwr1 := hwr.below hbl
  have hf1 : Fr b w W := Fr.of_below hbl (Nat.le_of_lt hwr.lt)
  have htW : ∀ k os, Below W.heap.size W (Sort.grow (W.drew.drewN k) os) := fun k os => ((Below.refl _ W).drew).trans (Lib.below_grow W.heap.size W.drew (Nat.le_refl _) k os)
  have ht2 := fun w' (hb' : Below W.heap.size W w') => htab w' ((hbw.trans (hbl.mono hbw.size)).trans (hb'.mono (by have := hbl.size; have := hbw.size; omega)))
  clear hW hx
  go_region_law (first
    | (go_simp; go_at_call 39; refine (wstr b l ⟨(Lib.itoa v).toArray⟩ _ (hwr1.below hb2) (by rw [bsize]; omega)).mono ?_; rintro e w3 ⟨rfl, h3, f3⟩)
    | (go_simp; go_at_call 47; refine (Tryd.strconv_Itoa v (by omega) (by omega) _ (ht2 _ ((Below.refl _ W).drew))).mono ?_; rintro e w2 ⟨rfl, hg⟩; have hb2 : Below W.heap.size W w2 := (by obtain ⟨kk, os, rfl⟩ := hg; exact htW kk os); clear hg)
    | fail)
  all_goals
    go_wp2
    go_end0
    exact ⟨rfl, h3, hf1.trans ((Fr.of_below hb2 (Nat.le_of_lt hwr1.lt)).trans f3)⟩

/-- the terms that stand in a row, as what is written -/
theorem items_of {W : World} (N : Nat) : ∀ (asx : List Tm) (vs : List Value) (k : Nat), oks asx = true → sizes asx ≤ N → Rows_ W vs (asx.map Tm.flat) →
    ∃ its : List (Itm W N), its.map Itm.val = vs ∧ its.map (fun x => x.T) = asx ∧ ∀ (i : Nat) (x : Itm W N), its[i]? = some x → x.m = decide (0 < i + k)
  | [], vs, k, _, _, h => ⟨[], by have := h.1; simp at this; simp [this], rfl, by simp⟩
  | t :: ts, vs, k, ho, hs, h => by
    rw [oks_cons, Bool.and_eq_true] at ho
    rw [sizes_cons] at hs
    match vs, h with
    | [], h => have := h.1; simp at this
    | v :: vs, h =>
      obtain ⟨A', n', c', e1, hi⟩ := h.2 0 t.flat rfl
      simp at e1
      subst e1
      obtain ⟨its, h1, h2, h3⟩ := items_of N ts vs (k + 1) ho.2 (by omega) ⟨by have := h.1; simpa using this, fun i u hu => by
        obtain ⟨A2, n2, c2, e2, h2⟩ := h.2 (i + 1) u (by simpa using hu)
        exact ⟨A2, n2, c2, by simpa using e2, h2⟩⟩
      refine ⟨⟨decide (0 < k), A', n', c', t, hi, ho.1, by omega⟩ :: its, by simp [h1, Itm.val], by simp [h2], fun i x hx => ?_⟩
      cases i with
      | zero => simp at hx; subst hx; simp
      | succ i =>
        have := h3 i x (by simpa using hx)
        rw [this]
        congr 2
        omega
/-- terms, with a comma between any two -/
def comT : List Tm → List UInt8
  | [] => []
  | t :: ts => prT t ++ prC ts
theorem txts_com {W : World} {N : Nat} : ∀ (its : List (Itm W N)) (k : Nat), 0 < k → (∀ (i : Nat) (x : Itm W N), its[i]? = some x → x.m = decide (0 < i + k)) → txts its = prC (its.map fun x => x.T)
  | [], _, _, _ => by simp [txts, prC]
  | x :: its, k, hk, h => by
    have h0 := h 0 x rfl
    have h1 := txts_com its (k + 1) (by omega) (fun i y hy => by rw [h (i + 1) y (by simpa using hy)]; congr 2; omega)
    have e : txts (x :: its) = x.txt ++ txts its := rfl
    rw [e, h1, List.map_cons, prC, Itm.txt, h0, if_pos (by simp; omega)]
    simp
theorem txts_com0 {W : World} {N : Nat} (its : List (Itm W N)) (h : ∀ (i : Nat) (x : Itm W N), its[i]? = some x → x.m = decide (0 < i)) : txts its = comT (its.map fun x => x.T) := by
  cases its with
  | nil => simp [txts, comT]
  | cons x its =>
    have h0 := h 0 x rfl
    have h1 := txts_com its 1 (by omega) (fun i y hy => by rw [h (i + 1) y (by simpa using hy)])
    have e : txts (x :: its) = x.txt ++ txts its := rfl
    rw [e, h1, List.map_cons, comT, Itm.txt, h0]
    simp
end Go.Proofs.YtekdcmplcjgonaaDoor

/- The walk that writes a term that is a structure. -/
namespace Go.Proofs.YtekdcmplcjgonaaDoor
open Go.RowKit

theorem bet_below {w w1 : World} {o : Obj} (h : Below (w.alloc o).heap.size (w.alloc o) w1) : Below w.heap.size w w1 ∧ w1.heap[w.heap.size]? = some o :=
  ⟨((Below.refl _ _).alloc (Nat.le_refl _) o).trans (h.mono (by simp)), (h.block w.heap.size (by simp)).trans (alloc_at rfl)⟩
theorem not_op {s : ByteArray} {asx : List Tm} (h : isDot (.f s asx) ∨ isNil (.f s asx)) : (((asx.length : Int) == 2) && opN s.data.toList) = false := by
  rcases h with ⟨s', a, c, e, hs⟩ | ⟨s', e, hs⟩
  · injection e with e1 e2
    subst e1 e2
    unfold bytesOf at hs
    rw [hs]
    rfl
  · injection e with e1 e2
    subst e1 e2
    rfl
theorem not_minus {s : ByteArray} {asx : List Tm} (h : isDot (.f s asx) ∨ isNil (.f s asx)) : ((3 : Int) == 3 && (s.data.toList == [45] && (asx.length : Int) == 1)) = false := by
  rcases h with ⟨s', a, c, e, hs⟩ | ⟨s', e, hs⟩
  · injection e with e1 e2
    subst e1 e2
    unfold bytesOf at hs
    rw [hs]
    rfl
  · injection e with e1 e2
    subst e1 e2
    unfold bytesOf at hs
    rw [hs]
    rfl
set_option maxRecDepth 100000 in
set_option maxHeartbeats 8000000 in
theorem wterm_list {W0 : World} {N b : Nat} (hW0 : W0.heap.size ≤ b) (hN : N ≤ 199) (hterm : TermC W0 N b) (s : ByteArray) (asx : List Tm) (hl0 : isDot (.f s asx) ∨ isNil (.f s asx)) : TermT W0 (N + 1) b (.f s asx) := by
  intro A n cap h hok hsz l w hbw hwr hl
  obtain ⟨bt, off, hA, hbt, hwf, hn, c0', c1', c2'⟩ := first_cell h
  have c0 := (hbw.cell (p := ⟨bt, off, none⟩) hbt).trans c0'
  have c1 := (hbw.cell (p := ⟨bt, off + 1, none⟩) hbt).trans c1'
  have c2 := (hbw.cell (p := ⟨bt, off + 2, none⟩) hbt).trans c2'
  simp only [Tm.c0] at c0 c1 c2
  have hbw2 : bt < w.heap.size := Nat.lt_of_lt_of_le hbt hbw.size
  have hnl : s.size ≤ 12 := by have := name_len (s := s) (by simp [Tm.ok] at hok; exact hok.1); unfold bytesOf at this; simpa using this
  have hbet := fun w' => between_any ⟨3, s, (asx.length : Int)⟩ (by simp only; omega) w'
  have his := fun (s2 : ByteArray) (k2 : Int) w' (hb' : Below W0.heap.size W0 w') => pis_any A n cap (Tm.f s asx).flat (Tm.f s asx).c0 s2 k2 w' (h.below hb') (flat_get0 _)
  simp only [Tm.c0, C.val] at hbet his
  have Hl := Lib.hid hl
  have Hh := Lib.hid h
  have Hok := Lib.hid hok
  have Hsz := Lib.hid hsz
  have Hbw := Lib.hid hbw
  have Hwr := Lib.hid hwr
  have q1 := not_op hl0
  have q2 := not_minus hl0
  have hlist := fun (w' : World) (h1 : Wr b l w') (hb' : Below W0.heap.size W0 w') => wlist_any hW0 hterm A n cap _ h hok hsz hN hl0 l w' hb' h1 (by have := Hl.out; omega)
  have Hlist := Lib.hid hlist
  rw [q1] at hbet
  have his2 := his ⟨#[45]⟩ 1
  rw [q2] at his2
  subst hA
  by_cases hn0 : isNil (.f s asx)
  · have his3 := his ⟨#[91, 93]⟩ 0
    have q3 := (nil_iff _).2 hn0
    simp only [Tm.c0] at q3
    rw [q3] at his3
    have Hbet := Lib.hid hbet
    have His2 := Lib.hid his2
    have His3 := Lib.hid his3
    clear his his2 his3 hbet hlist q1 q2 q3 hn0 hl0 hterm c0' c1' c2' h hok hsz hl hwf hbw hwr
    go_enter Tryd.func38, Tryd.ntmps38
    go_wp2_with (first
      | (go_at_call 62; refine (Hlist.out _ (Hwr.out.below hbl) hbW).mono ?_; rintro e w3 ⟨rfl, h3, f3⟩)
      | (go_at_call 61; have := s1; refine (His3.out _ hbW).mono ?_; rintro e w9 ⟨rfl, rfl⟩; have s2 := True.intro)
      | (go_at_call 61; refine (His2.out _ hbW).mono ?_; rintro e w9 ⟨rfl, rfl⟩; have s1 := True.intro)
      | (go_at_call 59; refine (Hbet.out _).mono ?_; rintro e w1 ⟨rfl, hb1⟩; obtain ⟨hbl, hx⟩ := bet_below hb1; have hbW : Below W0.heap.size W0 w1 := Hbw.out.trans (hbl.mono Hbw.out.size)))
    go_end0
    exact ⟨rfl, h3, (Fr.of_below hbl (Nat.le_of_lt Hwr.out.lt)).trans f3⟩
  · have his3 := his ⟨#[91, 93]⟩ 0
    have his4 := his ⟨#[46]⟩ 2
    have q3 : ((3 : Int) == 3 && (s.data.toList == [91, 93] && (asx.length : Int) == 0)) = false := by rw [← Bool.not_eq_true]; exact fun h => hn0 ((nil_iff (.f s asx)).1 h)
    have q4 : ((3 : Int) == 3 && (s.data.toList == [46] && (asx.length : Int) == 2)) = true := (dot_iff (.f s asx)).2 (hl0.resolve_right hn0)
    rw [q3] at his3
    rw [q4] at his4
    have Hbet := Lib.hid hbet
    have His2 := Lib.hid his2
    have His3 := Lib.hid his3
    have His4 := Lib.hid his4
    clear his his2 his3 his4 hbet hlist q1 q2 q3 q4 hn0 hl0 hterm c0' c1' c2' h hok hsz hl hwf hbw hwr
    go_enter Tryd.func38, Tryd.ntmps38
    go_wp2_with (first
      | (go_at_call 62; refine (Hlist.out _ (Hwr.out.below hbl) hbW).mono ?_; rintro e w3 ⟨rfl, h3, f3⟩)
      | (go_at_call 61; have := s2; refine (His4.out _ hbW).mono ?_; rintro e w9 ⟨rfl, rfl⟩)
      | (go_at_call 61; have := s1; refine (His3.out _ hbW).mono ?_; rintro e w9 ⟨rfl, rfl⟩; have s2 := True.intro)
      | (go_at_call 61; refine (His2.out _ hbW).mono ?_; rintro e w9 ⟨rfl, rfl⟩; have s1 := True.intro)
      | (go_at_call 59; refine (Hbet.out _).mono ?_; rintro e w1 ⟨rfl, hb1⟩; obtain ⟨hbl, hx⟩ := bet_below hb1; have hbW : Below W0.heap.size W0 w1 := Hbw.out.trans (hbl.mono Hbw.out.size)))
    go_end0
    exact ⟨rfl, h3, (Fr.of_below hbl (Nat.le_of_lt Hwr.out.lt)).trans f3⟩

theorem minus_iff {s : ByteArray} {asx : List Tm} : ((3 : Int) == 3 && (s.data.toList == [45] && (asx.length : Int) == 1)) = true ↔ bytesOf s = [45] ∧ ∃ a, asx = [a] := by
  constructor
  · intro h
    simp at h
    obtain ⟨h1, h2⟩ := h
    match asx, h2 with
    | [a], _ => exact ⟨h1, a, rfl⟩
    | [], h => simp at h
    | _ :: _ :: _, h => simp at h; omega
  · rintro ⟨h1, a, rfl⟩
    unfold bytesOf at h1
    simp [h1]
theorem op_iff {s : ByteArray} {asx : List Tm} : (((asx.length : Int) == 2) && opN s.data.toList) = true ↔ opN (bytesOf s) = true ∧ ∃ a c, asx = [a, c] := by
  constructor
  · intro h
    simp at h
    obtain ⟨h2, h1⟩ := h
    match asx, h2 with
    | [a, c], _ => exact ⟨h1, a, c, rfl⟩
    | [], h => simp at h
    | [_], h => simp at h
    | _ :: _ :: _ :: _, h => simp at h; omega
  · rintro ⟨h1, a, c, rfl⟩
    unfold bytesOf at h1
    simp [h1]
set_option maxRecDepth 100000 in
set_option maxHeartbeats 8000000 in
theorem wterm_minus {W0 : World} {N b : Nat} (hW0 : W0.heap.size ≤ b) (hN : N ≤ 199) (hterm : TermC W0 N b) (s : ByteArray) (a : Tm) (hs : bytesOf s = [45]) : TermT W0 (N + 1) b (.f s [a]) := by
  obtain ⟨asx, hasx⟩ : ∃ asx, asx = [a] := ⟨_, rfl⟩
  rw [← hasx]
  intro A n cap h hok hsz l w hbw hwr hl
  obtain ⟨bt, off, hA, hbt, hwf, hn, c0', c1', c2'⟩ := first_cell h
  have c0 := (hbw.cell (p := ⟨bt, off, none⟩) hbt).trans c0'
  have c1 := (hbw.cell (p := ⟨bt, off + 1, none⟩) hbt).trans c1'
  have c2 := (hbw.cell (p := ⟨bt, off + 2, none⟩) hbt).trans c2'
  simp only [Tm.c0] at c0 c1 c2
  have hbw2 : bt < w.heap.size := Nat.lt_of_lt_of_le hbt hbw.size
  have hnl : s.size ≤ 12 := by have := name_len (s := s) (by simp [Tm.ok] at hok; exact hok.1); unfold bytesOf at this; simpa using this
  have hbet := fun w' => between_any ⟨3, s, (asx.length : Int)⟩ (by simp only; omega) w'
  have his := fun (s2 : ByteArray) (k2 : Int) w' (hb' : Below W0.heap.size W0 w') => pis_any A n cap (Tm.f s asx).flat (Tm.f s asx).c0 s2 k2 w' (h.below hb') (flat_get0 _)
  simp only [Tm.c0, C.val] at hbet his
  have Hl := Lib.hid hl
  have Hh := Lib.hid h
  have Hok := Lib.hid hok
  have Hsz := Lib.hid hsz
  have Hbw := Lib.hid hbw
  have Hwr := Lib.hid hwr
  have q1 : (((asx.length : Int) == 2) && opN s.data.toList) = false := by rw [hasx]; rfl
  have q2 := (minus_iff (s := s) (asx := asx)).2 ⟨hs, a, hasx⟩
  rw [q1] at hbet
  have his2 := his ⟨#[45]⟩ 1
  rw [q2] at his2
  subst hA
  have hoka : a.ok = true := by rw [hasx] at hok; simp [Tm.ok, oks] at hok; exact hok.2
  have hsza : a.size + 1 ≤ N + 1 := by rw [hasx] at hsz; simp [Tm.size, sizes] at hsz; omega
  have hlenn := h.len
  have hcap := h.sl.hcap
  have hnsz : n = a.size + 1 := by rw [← hlenn, flat_size, hasx]; simp [Tm.size, sizes]; omega
  have hcut := h.cut' (lo := 1) (hi := n) (by omega) (Nat.le_refl _) (by have := a.size_pos; omega)
  have hfl : ((Tm.f s asx).flat.drop 1).take (n - 1) = a.flat := by
    rw [hasx] at hlenn ⊢
    simp only [Tm.flat, flats, List.append_nil, List.drop_succ_cons, List.drop_zero]
    rw [List.take_of_length_le]
    have := flat_size a
    omega
  rw [hfl] at hcut
  have hc1 : ¬ cap = 1 := by have := a.size_pos; omega
  have hc2 : 1 ≤ cap := by omega
  have hc3 : 1 ≤ n := by omega
  have hte := fun (l' : List UInt8) (w' : World) (h1 : Below W0.heap.size W0 w') (h2 : Wr b l' w') (h3 : l'.length + 50000000 * N ≤ 100000000000000) => hterm _ _ _ a hcut hoka (by omega) l' w' h1 h2 h3
  have Hte := Lib.hid hte
  have htx : prT (.f s asx) = 45 :: 40 :: (prT a ++ [41]) := by rw [hasx, prT, if_pos hs]
  have hpl := prT_len a hoka
  have hpl2 : (prT a).length ≤ 8001 := by omega
  have Hpl := Lib.hid hpl2
  have Htx := Lib.hid htx
  have Hbet := Lib.hid hbet
  have His2 := Lib.hid his2
  clear his his2 hbet q1 q2 hterm c0' c1' c2' h hok hsz hl hwf hbw hwr hte htx hpl hpl2 hfl hcut hnsz hsza hlenn hasx
  go_enter Tryd.func38, Tryd.ntmps38
  go_wp2_with (first
    | (go_at_call 40; refine (wbyte b (l ++ [45, 40] ++ prT a) 41 41 rfl _ h4 (by have := Hl.out; have := Hpl.out; simp; omega)).mono ?_; rintro e w5 ⟨rfl, h5, f5⟩)
    | (go_at_call 38; refine (Hte.out _ _ (hbW.trans (f3.low.mono hW0)) h3 (by have := Hl.out; simp; omega)).mono ?_; rintro e w4 ⟨rfl, h4, f4⟩)
    | (go_at_call 39; refine (wstr b l ⟨#[45, 40]⟩ _ (Hwr.out.below hbl) (by have := Hl.out; rw [show (⟨#[45, 40]⟩ : ByteArray).size = 2 from rfl]; omega)).mono ?_; rintro e w3 ⟨rfl, h3, f3⟩)
    | (go_at_call 61; refine (His2.out _ hbW).mono ?_; rintro e w9 ⟨rfl, rfl⟩)
    | (go_at_call 59; refine (Hbet.out _).mono ?_; rintro e w1 ⟨rfl, hb1⟩; obtain ⟨hbl, hx⟩ := bet_below hb1; have hbW : Below W0.heap.size W0 w1 := Hbw.out.trans (hbl.mono Hbw.out.size)))
  go_end0
  exact ⟨rfl, by rw [Htx.out]; simpa [List.append_assoc] using h5, (Fr.of_below hbl (Nat.le_of_lt Hwr.out.lt)).trans (f3.trans (f4.trans f5))⟩
end Go.Proofs.YtekdcmplcjgonaaDoor

/- The walk that writes a term whose name stands between its arguments; and any other structure. -/
namespace Go.Proofs.YtekdcmplcjgonaaDoor
open Go.RowKit

/-- what stands in the row of parts, as long as the writer alone works -/
theorem parts_stay {w2 : World} {b base n c : Nat} {l : List UInt8} {v : Option Addr} {xs : List Value} (h : w2.ownsRow base 22 1 (.slice v n c) n xs) (hw : Wr b l w2) (hn : 0 < n) : ∃ g, v = some ⟨g, 0, none⟩ ∧ ∀ w', Fr b w2 w' → ∀ (k : Nat) (x : Value), xs[k]? = some x → w'.cell? ⟨g, k, none⟩ = some x := by
  rcases h.2 with ⟨_, h0⟩ | ⟨g, cap', cur, hv, hg, _⟩
  · omega
  · injection hv with hv
    subst hv
    refine ⟨g, rfl, fun w' hf k x hx => ?_⟩
    have h2 := Sl.own (own_fr h hf hw) (by omega)
    obtain ⟨b2, o2, e, _, hc⟩ := h2.cells hn
    injection e with e
    injection e with e1 e2
    subst e1 e2
    have := hc k x hx
    rwa [Nat.zero_add] at this
theorem op_text (s : ByteArray) : ((⟨#[32]⟩ : ByteArray) ++ s ++ ⟨#[32]⟩).data.toList = 32 :: (bytesOf s ++ [32]) := by simp [bytesOf]
theorem op_size (s : ByteArray) : ((⟨#[32]⟩ : ByteArray) ++ s ++ ⟨#[32]⟩).size = s.size + 2 := by
  show ((⟨#[32]⟩ : ByteArray) ++ s ++ ⟨#[32]⟩).data.size = _
  rw [← Array.length_toList, op_text, List.length_cons, List.length_append]
  show (bytesOf s).length + 1 + 1 = _
  unfold bytesOf
  rw [Array.length_toList]
  rfl
set_option maxRecDepth 100000 in
set_option maxHeartbeats 8000000 in
theorem wterm_op {W0 : World} {N b : Nat} (hW0 : W0.heap.size ≤ b) (hN : N ≤ 199) (hterm : TermC W0 N b) (s : ByteArray) (a c : Tm) (hs : opN (bytesOf s) = true) : TermT W0 (N + 1) b (.f s [a, c]) := by
  obtain ⟨asx, hasx⟩ : ∃ asx, asx = [a, c] := ⟨_, rfl⟩
  rw [← hasx]
  intro A n cap h hok hsz l w hbw hwr hl
  obtain ⟨bt, off, hA, hbt, hwf, hn, c0', c1', c2'⟩ := first_cell h
  have c0 := (hbw.cell (p := ⟨bt, off, none⟩) hbt).trans c0'
  have c1 := (hbw.cell (p := ⟨bt, off + 1, none⟩) hbt).trans c1'
  have c2 := (hbw.cell (p := ⟨bt, off + 2, none⟩) hbt).trans c2'
  simp only [Tm.c0] at c0 c1 c2
  have hbw2 : bt < w.heap.size := Nat.lt_of_lt_of_le hbt hbw.size
  have hnl : s.size ≤ 12 := by have := name_len (s := s) (by simp [Tm.ok] at hok; exact hok.1); unfold bytesOf at this; simpa using this
  have hbet := fun w' => between_any ⟨3, s, (asx.length : Int)⟩ (by simp only; omega) w'
  have his := fun (s2 : ByteArray) (k2 : Int) w' (hb' : Below W0.heap.size W0 w') => pis_any A n cap (Tm.f s asx).flat (Tm.f s asx).c0 s2 k2 w' (h.below hb') (flat_get0 _)
  simp only [Tm.c0, C.val] at hbet his
  have Hl := Lib.hid hl
  have Hh := Lib.hid h
  have Hok := Lib.hid hok
  have Hsz := Lib.hid hsz
  have Hbw := Lib.hid hbw
  have Hwr := Lib.hid hwr
  have q1 := (op_iff (s := s) (asx := asx)).2 ⟨hs, a, c, hasx⟩
  rw [q1] at hbet
  have hoka : a.ok = true ∧ c.ok = true := by rw [hasx] at hok; simp [Tm.ok, oks] at hok; exact hok.2
  have hsza : a.size + c.size + 1 ≤ N + 1 := by rw [hasx] at hsz; simp [Tm.size, sizes] at hsz; omega
  have htx : prT (.f s asx) = 40 :: (prT a ++ 32 :: (bytesOf s ++ 32 :: (prT c ++ [41]))) := by rw [hasx, prT, if_pos hs]
  have hparts := fun w' (hb' : Below W0.heap.size W0 w') => tParts_w W0 A n cap _ w' h hb' (right_flat hok (by omega))
  have hdp := fun vs (hv : Rows_ W0 vs (partsF (Tm.f s asx).flat)) => dot_parts (W := W0) (vs := vs) (s := s) (a := a) (b := c) (by rw [← hasx]; exact hok) (by rw [← hasx]; omega) (by rw [← hasx]; exact hv)
  have Hdp := Lib.hid hdp
  have Hparts := Lib.hid hparts
  have hpla := prT_len a hoka.1
  have hplc := prT_len c hoka.2
  have hpl2 : (prT a).length ≤ 8001 ∧ (prT c).length ≤ 8001 := by omega
  have Hpl := Lib.hid hpl2
  have Htx := Lib.hid htx
  have Hbet := Lib.hid hbet
  have hte := fun (T : Tm) (hT : T = a ∨ T = c) A' n' c' (hi : IsC W0 A' n' c' T.flat) (l' : List UInt8) (w' : World) (h1 : Below W0.heap.size W0 w') (h2 : Wr b l' w') (h3 : l'.length + 50000000 * N ≤ 100000000000000) => hterm A' n' c' T hi (by rcases hT with rfl | rfl; exact hoka.1; exact hoka.2) (by rcases hT with rfl | rfl <;> omega) l' w' h1 h2 h3
  have Hte := Lib.hid hte
  have hcat : ¬ 9223372036854775807 < 1 + s.size := by omega
  have hcat2 : ¬ 9223372036854775807 < 1 + s.size + 1 := by omega
  subst hA
  clear his hbet q1 hterm c0' c1' c2' h hok hsz hl hwf hbw hwr hte htx hpla hplc hpl2 hdp hparts hasx hsza hoka
  go_enter Tryd.func38, Tryd.ntmps38
  go_upto_region 12 with (first
    | (go_at_call 60; refine (Hparts.out _ hbW).mono ?_; rintro e w2 ⟨AP, nP, cP, vP, rfl, hPl, hPown, hProws, hPb⟩)
    | (go_at_call 59; refine (Hbet.out _).mono ?_; rintro e w1 ⟨rfl, hb1⟩; obtain ⟨hbl, hx⟩ := bet_below hb1; have hbW : Below W0.heap.size W0 w1 := Hbw.out.trans (hbl.mono Hbw.out.size)))
  obtain ⟨A0, n0, c0p, A1, n1, c1p, rfl, hi0, hi1⟩ := Hdp.out _ hProws
  have hnP : nP = 2 := by have := (Sl.own hPown (by omega)).len; simp at this; omega
  subst hnP
  have hbl2 : Below w.heap.size w w2 := hbl.trans (hPb.mono hbl.size)
  have hwr2 := Hwr.out.below hbl2
  have hf2 : Fr b w w2 := Fr.of_below hbl2 (Nat.le_of_lt Hwr.out.lt)
  have hbW2 : Below W0.heap.size W0 w2 := Hbw.out.trans (hbl2.mono Hbw.out.size)
  obtain ⟨g, rfl, hstay⟩ := parts_stay hPown hwr2 (by omega)
  have hx2 : w2.heap[w.heap.size]? = _ := (hPb.block w.heap.size (block_lt hx)).trans hx
  have hbox := fun w' (f : Fr b w2 w') => cells_of (f.block hx2 (by have := Hwr.out.lt; omega) (by decide)) 1
  simp only [List.getElem?_toArray, List.getElem?_cons_succ, List.getElem?_cons_zero] at hbox
  have Hstay := Lib.hid hstay
  have Hbox := Lib.hid hbox
  have Hwr2 := Lib.hid hwr2
  have Hf2 := Lib.hid hf2
  have HbW2 := Lib.hid hbW2
  have Hi0 := Lib.hid hi0
  have Hi1 := Lib.hid hi1
  clear hbox hstay hPown hProws hPl hwr2 hf2 hbW2 hbl hbl2 hPb hx hx2 hb1 hbW hi0 hi1 Hparts Hbet Hdp
  go_upto_region 14 with (first
    | (go_at_call 38; refine (Hte.out a (.inl rfl) A0 n0 c0p Hi0.out _ _ (HbW2.out.trans (f3.low.mono hW0)) h3 (by have := Hl.out; simp; omega)).mono ?_; rintro e w4 ⟨rfl, h4, f4⟩; have kb := Hbox.out _ (f3.trans f4))
    | (go_at_call 40; refine (wbyte b l 40 40 rfl _ Hwr2.out (by have := Hl.out; omega)).mono ?_; rintro e w3 ⟨rfl, h3, f3⟩; have k0 := Hstay.out _ f3 0 _ rfl))
  go_region_law (first
    | (go_simp; go_at_call 39; refine (wstr b (l ++ [40] ++ prT a) _ w4.drew h4.drew (by have := Hl.out; have := Hpl.out; rw [op_size]; simp; omega)).mono ?_; rintro e w5 ⟨rfl, h5, f5⟩; rw [op_text] at h5; have k1 := Hstay.out _ (f3.trans (f4.drew.trans f5)) 1 _ rfl)
    | fail)
  all_goals
    go_wp2_with (first
      | (go_at_call 40; refine (wbyte b (l ++ [40] ++ prT a ++ 32 :: (bytesOf s ++ [32]) ++ prT c) 41 41 rfl _ h6 (by have := Hl.out; have := Hpl.out; unfold bytesOf; simp; omega)).mono ?_; rintro e w7 ⟨rfl, h7, f7⟩)
      | (go_at_call 38; refine (Hte.out c (.inr rfl) A1 n1 c1p Hi1.out _ _ (HbW2.out.trans ((f3.trans (f4.drew.trans f5)).low.mono hW0)) h5 (by have := Hl.out; have := Hpl.out; unfold bytesOf; simp; omega)).mono ?_; rintro e w6 ⟨rfl, h6, f6⟩))
    go_end0
    exact ⟨rfl, by rw [Htx.out]; simpa [List.append_assoc] using h7, Hf2.out.trans (f3.trans (f4.drew.trans (f5.trans (f6.trans f7))))⟩
end Go.Proofs.YtekdcmplcjgonaaDoor

/- The walk that writes a term: any other structure; and whatever term. -/
namespace Go.Proofs.YtekdcmplcjgonaaDoor
open Go.RowKit

theorem other_text {s : ByteArray} {asx : List Tm} (h1 : ¬ (opN (bytesOf s) = true ∧ ∃ a c, asx = [a, c])) (h2 : ¬ (bytesOf s = [45] ∧ ∃ a, asx = [a])) (h3 : ¬ isNil (.f s asx)) (h4 : ¬ isDot (.f s asx)) :
    prT (.f s asx) = quoteN (bytesOf s) ++ (if asx = [] then [] else 40 :: (comT asx ++ [41])) := by
  match asx with
  | [] => rw [prT, if_neg (fun h => h3 ⟨s, rfl, h⟩)]; simp
  | [a] => rw [prT, if_neg (fun h => h2 ⟨h, a, rfl⟩)]; simp [comT, prC]
  | [a, c] => rw [prT, if_neg (fun h => h1 ⟨h, a, c, rfl⟩), if_neg (fun h => h4 ⟨s, a, c, rfl, h⟩)]; simp [comT, prC]
  | a :: b :: c :: ts => rw [prT]; simp [comT]
set_option maxRecDepth 100000 in
set_option maxHeartbeats 8000000 in
theorem wterm_other {W0 : World} {N b : Nat} (hW0 : W0.heap.size ≤ b) (hN : N ≤ 199) (hterm : TermC W0 N b) (s : ByteArray) (asx : List Tm) (n1 : ¬ (opN (bytesOf s) = true ∧ ∃ a c, asx = [a, c])) (n2 : ¬ (bytesOf s = [45] ∧ ∃ a, asx = [a])) (n3 : ¬ isNil (.f s asx)) (n4 : ¬ isDot (.f s asx)) : TermT W0 (N + 1) b (.f s asx) := by
  intro A n cap h hok hsz l w hbw hwr hl
  obtain ⟨bt, off, hA, hbt, hwf, hn, c0', c1', c2'⟩ := first_cell h
  have c0 := (hbw.cell (p := ⟨bt, off, none⟩) hbt).trans c0'
  have c1 := (hbw.cell (p := ⟨bt, off + 1, none⟩) hbt).trans c1'
  have c2 := (hbw.cell (p := ⟨bt, off + 2, none⟩) hbt).trans c2'
  simp only [Tm.c0] at c0 c1 c2
  have hbw2 : bt < w.heap.size := Nat.lt_of_lt_of_le hbt hbw.size
  have hnl : s.size ≤ 12 := by have := name_len (s := s) (by simp [Tm.ok] at hok; exact hok.1); unfold bytesOf at this; simpa using this
  have hbet := fun w' => between_any ⟨3, s, (asx.length : Int)⟩ (by simp only; omega) w'
  have his := fun (s2 : ByteArray) (k2 : Int) w' (hb' : Below W0.heap.size W0 w') => pis_any A n cap (Tm.f s asx).flat (Tm.f s asx).c0 s2 k2 w' (h.below hb') (flat_get0 _)
  simp only [Tm.c0, C.val] at hbet his
  have Hl := Lib.hid hl
  have Hh := Lib.hid h
  have Hok := Lib.hid hok
  have Hsz := Lib.hid hsz
  have Hbw := Lib.hid hbw
  have Hwr := Lib.hid hwr
  have q1 : (((asx.length : Int) == 2) && opN s.data.toList) = false := by rw [← Bool.not_eq_true, op_iff]; exact n1
  have q2 : ((3 : Int) == 3 && (s.data.toList == [45] && (asx.length : Int) == 1)) = false := by rw [← Bool.not_eq_true, minus_iff]; exact n2
  have q3 : ((3 : Int) == 3 && (s.data.toList == [91, 93] && (asx.length : Int) == 0)) = false := by rw [← Bool.not_eq_true]; exact fun h => n3 ((nil_iff (.f s asx)).1 h)
  have q4 : ((3 : Int) == 3 && (s.data.toList == [46] && (asx.length : Int) == 2)) = false := by rw [← Bool.not_eq_true]; exact fun h => n4 ((dot_iff (.f s asx)).1 h)
  rw [q1] at hbet
  have his2 := his ⟨#[45]⟩ 1
  have his3 := his ⟨#[91, 93]⟩ 0
  have his4 := his ⟨#[46]⟩ 2
  rw [q2] at his2
  rw [q3] at his3
  rw [q4] at his4
  have htx := other_text n1 n2 n3 n4
  have hpf := parts_flat hok (by omega)
  simp only [Tm.args] at hpf
  have hparts := fun w' (hb' : Below W0.heap.size W0 w') => tParts_w W0 A n cap _ w' h hb' (right_flat hok (by omega))
  rw [hpf] at hparts
  have hoks : oks asx = true := args_ok hok
  have hszs : sizes asx ≤ N := by rw [size_args] at hsz; simp only [Tm.args] at hsz; omega
  have hitems := fun vs (hv : Rows_ W0 vs (asx.map Tm.flat)) => items_of N asx vs 0 hoks hszs hv
  have hall := fun (A' : Option Addr) (c' : Nat) (its : List (Itm W0 N)) (h1000 : its.length ≤ 1000) (hm : ∀ (i : Nat) (x : Itm W0 N), its[i]? = some x → x.m = decide (0 < i)) (l' : List UInt8) (w' : World) (base : Nat) (ho : w'.ownsRow base 22 1 (.slice A' its.length c') its.length (its.map Itm.val)) (hb' : Below W0.heap.size W0 w') (hw' : Wr b l' w') (hl' : l'.length + 45000000 + 50000000 * N ≤ 100000000000000) => all_any (N := N) hW0 hterm A' its.length c' its rfl h1000 hm l' w' base ho hb' hw' hl' (by omega)
  have hqu := fun w' => pQuote_any s (by omega) w'
  obtain ⟨qs, hqs⟩ : ∃ qs, quoteN (bytesOf s) = qs := ⟨_, rfl⟩
  have hql := quoteN_len (bytesOf s)
  have hqs2 : quoteN s.data.toList = qs := hqs
  rw [hqs2] at hqu
  rw [hqs] at htx hql
  have hbl12 : (bytesOf s).length ≤ 12 := by unfold bytesOf; simpa using hnl
  have hql2 : qs.length ≤ 14 := by omega
  have Hql := Lib.hid hql2
  have Hqu := Lib.hid hqu
  have Hall := Lib.hid hall
  have Hitems := Lib.hid hitems
  have Hparts := Lib.hid hparts
  have Htx := Lib.hid htx
  have Hbet := Lib.hid hbet
  have His2 := Lib.hid his2
  have His3 := Lib.hid his3
  have His4 := Lib.hid his4
  have hasz := length_sizes asx
  have hal : asx.length ≤ 199 := by omega
  subst hA
  clear his his2 his3 his4 hbet q1 q2 q3 q4 hterm c0' c1' c2' h hok hsz hl hwf hbw hwr htx hparts hpf hitems hall hqu hqs hql hql2 hqs2 n1 n2 n3 n4 hoks hszs hasz
  go_enter Tryd.func38, Tryd.ntmps38
  go_upto_region 1 with (first
      | (go_at_call 61; have := s2; refine (His4.out _ hbW).mono ?_; rintro e w9 ⟨rfl, rfl⟩)
      | (go_at_call 61; have := s1; refine (His3.out _ hbW).mono ?_; rintro e w9 ⟨rfl, rfl⟩; have s2 := True.intro)
      | (go_at_call 61; refine (His2.out _ hbW).mono ?_; rintro e w9 ⟨rfl, rfl⟩; have s1 := True.intro)
      | (go_at_call 59; refine (Hbet.out _).mono ?_; rintro e w1 ⟨rfl, hb1⟩; obtain ⟨hbl, hx⟩ := bet_below hb1; have hbW : Below W0.heap.size W0 w1 := Hbw.out.trans (hbl.mono Hbw.out.size)))
  have hwr9 := Hwr.out.below hbl
  have hf9 : Fr b w w9 := Fr.of_below hbl (Nat.le_of_lt Hwr.out.lt)
  have hbsz := Hwr.out.lt
  have x1 := cells_of hx 1
  simp at x1
  have Hwr9 := Lib.hid hwr9
  have Hf9 := Lib.hid hf9
  have HbW := Lib.hid hbW
  have Hx := Lib.hid hx
  clear hx hwr9 hf9 hbW hbl hb1 Hbet His2 His3 His4 s1 s2
  go_region_law (first
    | (go_simp; go_at_call 39; refine (wstr b l ⟨qs.toArray⟩ _ (Hwr9.out.below hb2) (by have := Hl.out; have := Hql.out; rw [bsize]; omega)).mono ?_; rintro e w3 ⟨rfl, h3, f3⟩; have hx3 := f3.block ((hb2.block w.heap.size (block_lt Hx.out)).trans Hx.out) (by omega) (by decide); have x2 := cells_of hx3 2; simp at x2)
    | (go_simp; go_at_call 21; refine (Hqu.out _).mono ?_; rintro e w2 ⟨rfl, hb2⟩; replace hb2 : Below w9.heap.size w9 w2 := ((Below.refl _ w9).drew).trans hb2)
    | fail)
  all_goals
    have hf3 : Fr b w w3 := Hf9.out.trans ((Fr.of_below hb2 (Nat.le_of_lt Hwr9.out.lt)).trans f3)
    have hbW3 : Below W0.heap.size W0 w3 := HbW.out.trans (((Fr.of_below hb2 (Nat.le_of_lt Hwr9.out.lt)).trans f3).low.mono hW0)
    have Hf3 := Lib.hid hf3
    have HbW3 := Lib.hid hbW3
    clear hf3 hbW3 hx3 f3
    rcases Nat.eq_zero_or_pos asx.length with hz | hz
    · have hz2 : decide ((0 : Int) < (asx.length : Int)) = false := decide_eq_false (by omega)
      go_wp2
      go_end0
      exact ⟨rfl, by rw [Htx.out, if_pos (List.eq_nil_of_length_eq_zero hz)]; simpa using h3, Hf3.out⟩
    · have hz2 : decide ((0 : Int) < (asx.length : Int)) = true := decide_eq_true (by omega)
      go_wp2_with (first
        | (go_at_call 40; refine (wbyte b (l ++ qs ++ [40] ++ txts its) 41 41 rfl _ h6 (by have := Hl.out; have := Hql.out; have := txts_len its; have : (txts its).length ≤ 200 * 8001 := Nat.le_trans this (Nat.mul_le_mul (by omega) (by omega)); simp; omega)).mono ?_; rintro e w7 ⟨rfl, h7, f7⟩)
        | (go_at_call 63; refine (Hall.out AP cP its (by omega) (fun i x hx => by simpa using hi3 i x hx) (l ++ qs ++ [40]) _ _ (by rw [hi1]; exact hPown) (HbW3.out.trans (f45.low.mono hW0)) h5 (by have := Hl.out; have := Hql.out; simp; omega)).mono ?_; rintro e w6 ⟨rfl, h6, f6⟩)
        | (go_at_call 60; refine (Hparts.out _ (HbW3.out.trans (f4.low.mono hW0))).mono ?_; rintro e w5 ⟨AP, nP, cP, vP, rfl, hPl, hPown, hProws, hPb⟩; obtain ⟨its, hi1, hi2, hi3⟩ := Hitems.out _ hProws; obtain rfl : nP = its.length := (by rw [← hPl, ← hi2]; simp); have hil : its.length ≤ 199 := (by have := congrArg List.length hi2; simp at this; omega); have h5 := h4.below hPb; have f45 : Fr b w3 w5 := f4.trans (Fr.of_below hPb (Nat.le_of_lt h4.lt)))
        | (go_at_call 40; refine (wbyte b (l ++ qs) 40 40 rfl _ h3 (by have := Hl.out; have := Hql.out; simp; omega)).mono ?_; rintro e w4 ⟨rfl, h4, f4⟩))
      go_end0
      have hne : ¬ asx = [] := fun e => by rw [e] at hz; simp at hz
      have htc := txts_com0 its (fun i x hx => by simpa using hi3 i x hx)
      rw [hi2] at htc
      exact ⟨rfl, by rw [Htx.out, if_neg hne, ← htc]; simpa [List.append_assoc] using h7, Hf3.out.trans (f45.trans (f6.trans f7))⟩

/-- whatever term is written, its text stands behind what was there -/
theorem wterm_any {W0 : World} {b : Nat} (hW0 : W0.heap.size ≤ b) (htab : Tab W0) : ∀ N : Nat, N ≤ 200 → TermC W0 N b
  | 0, _ => fun A n cap T _ _ hs => by have := T.size_pos; omega
  | N + 1, hN => by
    have ih := wterm_any hW0 htab N (by omega)
    intro A n cap T
    have key : TermT W0 (N + 1) b T := by
      cases T with
      | v n => exact wterm_v hW0 n
      | i n => exact wterm_i hW0 htab n
      | f s asx =>
        by_cases h1 : opN (bytesOf s) = true ∧ ∃ a c, asx = [a, c]
        · obtain ⟨h1, a, c, rfl⟩ := h1
          exact wterm_op hW0 (by omega) ih s a c h1
        by_cases h2 : bytesOf s = [45] ∧ ∃ a, asx = [a]
        · obtain ⟨h2, a, rfl⟩ := h2
          exact wterm_minus hW0 (by omega) ih s a h2
        by_cases h3 : isNil (.f s asx)
        · exact wterm_list hW0 (by omega) ih s asx (.inr h3)
        by_cases h4 : isDot (.f s asx)
        · exact wterm_list hW0 (by omega) ih s asx (.inl h4)
        exact wterm_other hW0 (by omega) ih s asx h1 h2 h3 h4
    exact key A n cap
end Go.Proofs.YtekdcmplcjgonaaDoor

/- The walks that tell a term's text, a clause's, and a program's. -/
namespace Go.Proofs.YtekdcmplcjgonaaDoor
open Go.RowKit

/-- a string comes back, and all that was there is as it was -/
def RetS (w : World) (l : List UInt8) (e : Ending) (w' : World) : Prop := e = .returned (.string ⟨l.toArray⟩) ∧ Below w.heap.size w w'
theorem quoteN_ne {l : List UInt8} (h : l ≠ []) : quoteN l ≠ [] := by unfold quoteN; split <;> simp [h]
theorem ok_name_ne {s : ByteArray} (h : okName s = true) : bytesOf s ≠ [] := by
  unfold okName at h
  simp at h
  intro e
  have h3 : s.data.toList.length = 0 := by unfold bytesOf at e; rw [e]; rfl
  rw [Array.length_toList] at h3
  have h2 : s.data.size = s.size := rfl
  have := h.2.1
  omega
theorem prT_ne (T : Tm) (h : T.ok = true) : prT T ≠ [] := by
  match T with
  | .v n => rw [prT]; simp [varName]
  | .i n =>
    rw [prT]
    unfold Lib.itoa
    split
    · simp
    · intro e
      have := congrArg List.length e
      rw [Lib.decDigits_length] at this
      have := Lib.nDigits_pos n.toNat
      simp at *
      omega
  | .f s [] =>
    rw [prT]
    split
    · simp
    · exact quoteN_ne (ok_name_ne (by simp [Tm.ok] at h; exact h.1))
  | .f s [a] => rw [prT]; split <;> simp
  | .f s [a, b] => rw [prT]; split; simp; split <;> simp
  | .f s (a :: b :: c :: ts) => rw [prT]; simp
theorem Wr.fresh (w : World) : Wr w.heap.size [] (w.alloc (.cells #[.pointer none, .slice none 0 0] 74)) :=
  .inl ⟨Nat.le_refl _, .slice none 0 0, alloc_at rfl, ⟨rfl, .inl ⟨rfl, rfl⟩⟩, by simp [Value.ownBlock]⟩
theorem Fr.out {w w' : World} (h : Below w.heap.size w w') {b : Nat} {w2 : World} (hb : w.heap.size ≤ b) (hf : Fr b w' w2) : Below w.heap.size w w2 := h.trans (hf.low.mono hb)

set_option maxRecDepth 100000 in
set_option maxHeartbeats 4000000 in
theorem pTerm_any (A : Option Addr) (n cap : Nat) (T : Tm) (w : World) (h : IsC w A n cap T.flat) (hok : T.ok = true) (hsz : T.size ≤ 200) (htab : Tab w) : Calls Tryd.prog 17 #[.slice A n cap] w (RetS w (prT T)) := by
  have hte := fun (l : List UInt8) (w' : World) => wterm_any (W0 := w) (b := w.heap.size) (Nat.le_refl _) htab 200 (Nat.le_refl _) A n cap T h hok hsz l w'
  have Hte := Lib.hid hte
  have hne := prT_ne T hok
  have hfr := Wr.fresh w
  have hal : Below w.heap.size w (w.alloc (.cells #[.pointer none, .slice none 0 0] 74)) := (Below.refl _ _).alloc (Nat.le_refl _) _
  have Hne := Lib.hid hne
  have Hfr := Lib.hid hfr
  have Hal := Lib.hid hal
  clear hte hne hfr hal h hok htab
  go_enter Tryd.func17, Tryd.ntmps17
  go_wp2_with (first
    | (go_at_call 41; refine (bstring w.heap.size (prT T) _ h1 Hne.out).mono ?_; rintro e w2 ⟨rfl, h2, f2⟩)
    | (go_at_call 38; refine (Hte.out [] _ Hal.out Hfr.out (by simp)).mono ?_; rintro e w1 ⟨rfl, h1, f1⟩; rw [List.nil_append] at h1))
  go_ret
  exact ⟨rfl, Fr.out Hal.out (Nat.le_refl _) (f1.trans f2)⟩

/-- a literal in memory -/
def RL : World → Bool × Tm → List Value → Prop := fun w p v => ∃ A n c, v = [.bool p.1, .slice A n c] ∧ IsC w A n c p.2.flat
theorem keepsRL : Keeps RL := fun _ _ _ _ ⟨A, n, c, h1, h2⟩ hb => ⟨A, n, c, h1, h2.below hb⟩
def litTx (k : Nat) (p : Bool × Tm) : List UInt8 := (if k = 0 then [32, 58, 45, 32] else [44, 32]) ++ (if p.1 then [92, 43, 32] else []) ++ prT p.2
def litsTx : Nat → List (Bool × Tm) → List UInt8
  | _, [] => []
  | k, p :: ps => litTx k p ++ litsTx (k + 1) ps
def okL (l : List (Bool × Tm)) : Prop := ∀ p ∈ l, p.2.ok = true ∧ p.2.size ≤ 200
/-- a clause's text -/
def prCl (c : Tm × List (Bool × Tm)) : List UInt8 := prT c.1 ++ litsTx 0 c.2 ++ [46]
theorem litTx_len (k : Nat) {p : Bool × Tm} (h : p.2.ok = true ∧ p.2.size ≤ 200) : (litTx k p).length ≤ 8010 := by
  have := prT_len p.2 h.1
  unfold litTx
  split <;> split <;> simp <;> omega
theorem litsTx_len : ∀ (l : List (Bool × Tm)) (k : Nat), okL l → (litsTx k l).length ≤ 8010 * l.length
  | [], _, _ => by simp [litsTx]
  | p :: ps, k, h => by
    have h1 := litTx_len k (h p (by simp))
    have h2 := litsTx_len ps (k + 1) (fun q hq => h q (by simp [hq]))
    rw [litsTx, List.length_append, List.length_cons]
    omega
theorem litsTx_take {l : List (Bool × Tm)} : ∀ {k i : Nat} {p : Bool × Tm}, l[k]? = some p → litsTx i (l.take (k + 1)) = litsTx i (l.take k) ++ litTx (i + k) p := by
  induction l with
  | nil => intro k i p h; simp at h
  | cons q l ih =>
    intro k i p h
    cases k with
    | zero => simp at h; subst h; simp [litsTx]
    | succ k =>
      rw [List.take_succ_cons, List.take_succ_cons, litsTx, litsTx, ih (by simpa using h), List.append_assoc]
      congr 3
      omega
theorem rl_at {w : World} {B : Option Addr} {m d : Nat} {ls : List (Bool × Tm)} (h : IsG RL 2 w B m d ls) {k : Nat} {p : Bool × Tm} (hp : ls[k]? = some p) :
    ∃ b off A n c, B = some ⟨b, off, none⟩ ∧ b < w.heap.size ∧ w.cell? ⟨b, off + k * 2, none⟩ = some (.bool p.1) ∧ w.cell? ⟨b, off + k * 2 + 1, none⟩ = some (.slice A n c) ∧ IsC w A n c p.2.flat := by
  obtain ⟨b, off, v, rfl, hb, _, ⟨A, n, c, rfl, hc⟩, hv⟩ := h.at_ hp
  exact ⟨b, off, A, n, c, rfl, hb, hv 0 _ rfl, hv 1 _ rfl, hc⟩
set_option maxRecDepth 100000 in
set_option maxHeartbeats 8000000 in
theorem pClause_any (A : Option Addr) (n cap : Nat) (T : Tm) (B : Option Addr) (m d : Nat) (ls : List (Bool × Tm)) (w : World) (h : IsC w A n cap T.flat) (hok : T.ok = true) (hsz : T.size ≤ 200) (hB : IsG RL 2 w B m d ls) (hls : okL ls) (hm : m ≤ 100) (htab : Tab w) :
    Calls Tryd.prog 14 #[.agg #[.slice A n cap, .slice B m d]] w (RetS w (prCl (T, ls))) := by
  have hte := fun (T : Tm) (hok : T.ok = true) (hsz : T.size ≤ 200) A n cap (h : IsC w A n cap T.flat) (l : List UInt8) (b : Nat) (hb : w.heap.size ≤ b) (w' : World) => wterm_any (W0 := w) (b := b) hb htab 200 (Nat.le_refl _) A n cap T h hok hsz l w'
  have Hte := Lib.hid hte
  have hlen := hB.len
  have hd1 := hB.cap_le
  have HB := Lib.hid hB
  have Hh := Lib.hid h
  have Hok := Lib.hid hok
  have Hls := Lib.hid hls
  have hpl := prT_len T hok
  have Hpl := Lib.hid hpl
  have hfr : Wr (w.heap.size + 1) [] ((w.alloc (.cells #[.slice A n cap, .slice B m d] 33)).alloc (.cells #[.pointer none, .slice none 0 0] 74)) := by
    have := Wr.fresh (w.alloc (.cells #[.slice A n cap, .slice B m d] 33)); rwa [World.size_alloc] at this
  have hal : Below w.heap.size w ((w.alloc (.cells #[.slice A n cap, .slice B m d] 33)).alloc (.cells #[.pointer none, .slice none 0 0] 74)) := ((Below.refl _ _).alloc (Nat.le_refl _) _).alloc (by simp) _
  have hx1 : ((w.alloc (.cells #[.slice A n cap, .slice B m d] 33)).alloc (.cells #[.pointer none, .slice none 0 0] 74)).heap[w.heap.size]? = some (.cells #[.slice A n cap, .slice B m d] 33 (0, 0)) := (alloc_past (by simp)).trans (alloc_at rfl)
  have Hfr := Lib.hid hfr
  have Hal := Lib.hid hal
  have Hx1 := Lib.hid hx1
  obtain ⟨b, hb⟩ : ∃ b, w.heap.size + 1 = b := ⟨_, rfl⟩
  have Hb := Lib.hid hb
  have hb1 : w.heap.size ≤ b := by omega
  have hbne : w.heap.size ≠ b := by omega
  clear hte h hok htab hB hls hpl hfr hal hx1 hb
  go_enter Tryd.func14, Tryd.ntmps14
  go_wp2_with (go_at_call 38; refine (Hte.out T Hok.out hsz A n cap Hh.out [] _ (by omega) _ Hal.out Hfr.out (by simp)).mono ?_; rintro e w2 ⟨rfl, h2, f2⟩; rw [List.nil_append] at h2; have hx2 := f2.block Hx1.out (by omega) (by decide); have y1 := cells_of hx2 1; simp at y1)
  have hf2 : Below w.heap.size w w2 := Fr.out Hal.out (by omega) f2
  rw [Hb.out] at h2 ⊢
  have Hf2 := Lib.hid hf2
  have Ht0 := Lib.hid (litsTx_len ls 0 Hls.out)
  clear f2 hx2 Hfr Hal Hx1 hf2
  go_loopw [12] (fun iv wr => ∃ k : Nat, k ≤ m ∧ iv = .int .i64 k ∧ Wr b (prT T ++ litsTx 0 (ls.take k)) wr ∧ Below w.heap.size w wr) (fun iv _ => m - (intOf iv).toNat)
  case atStart => exact ⟨0, Nat.zero_le _, rfl, by simpa [litsTx] using h2, Hf2.out⟩
  case round =>
    clear h2 y1 Hf2
    obtain ⟨k, hk, rfl, hwr, hbw⟩ := hrel
    by_cases hlt : k < m
    · obtain ⟨⟨neg, T2⟩, hp⟩ := HB.out.get hlt
      obtain ⟨bq, off, A2, n2, c2, rfl, hbq, g0', g1', hi2⟩ := rl_at HB.out hp
      have g0 := (hbw.cell (p := ⟨bq, off + k * 2, none⟩) hbq).trans g0'
      have g1 := (hbw.cell (p := ⟨bq, off + k * 2 + 1, none⟩) hbq).trans g1'
      have hbq2 : bq < wr.heap.size := Nat.lt_of_lt_of_le hbq hbw.size
      have hok2 := Hls.out _ (List.mem_of_getElem? hp)
      simp only at g0 g1 hi2 hok2
      have htk := litsTx_take (i := 0) hp
      rw [Nat.zero_add] at htk
      have Htk := Lib.hid htk
      have hte := fun (l : List UInt8) (w' : World) => Hte.out T2 hok2.1 hok2.2 A2 n2 c2 hi2 l b hb1 w'
      have Hte2 := Lib.hid hte
      have hlk : (litsTx 0 (ls.take k)).length ≤ 8010 * 100 := Nat.le_trans (litsTx_len _ 0 (fun q hq => Hls.out q (List.mem_of_mem_take hq))) (Nat.mul_le_mul (Nat.le_refl _) (by rw [List.length_take]; omega))
      have hLL : (prT T ++ litsTx 0 (ls.take k)).length ≤ 900000 := by rw [List.length_append]; have := Hpl.out; omega
      obtain ⟨L, hL⟩ : ∃ L, prT T ++ litsTx 0 (ls.take k) = L := ⟨_, rfl⟩
      rw [hL] at hwr hLL
      have HL := Lib.hid hL
      have HLL := Lib.hid hLL
      have hwsz := hbw.size
      have hbwr := hwr.lt
      have hwr5 := (hwr.alloc (.cells #[.bool neg, .slice A2 n2 c2] 54)).alloc (.cells #[.string ⟨#[32, 58, 45, 32]⟩, .string ⟨#[44, 32]⟩] 9)
      have hbw5 : Below w.heap.size w ((wr.alloc (.cells #[.bool neg, .slice A2 n2 c2] 54)).alloc (.cells #[.string ⟨#[32, 58, 45, 32]⟩, .string ⟨#[44, 32]⟩] 9)) := (hbw.alloc hwsz _).alloc (by simp; omega) _
      have hx5 : ((wr.alloc (.cells #[.bool neg, .slice A2 n2 c2] 54)).alloc (.cells #[.string ⟨#[32, 58, 45, 32]⟩, .string ⟨#[44, 32]⟩] 9)).heap[wr.heap.size]? = some (.cells #[.bool neg, .slice A2 n2 c2] 54 (0, 0)) := (alloc_past (by simp)).trans (alloc_at rfl)
      have Hwr5 := Lib.hid hwr5
      have Hbw5 := Lib.hid hbw5
      have Hx5 := Lib.hid hx5
      have hbne2 : wr.heap.size ≠ b := by omega
      clear htk hte hlk hLL hL hwr hwr5 hbw5 hx5 g0' g1' hp hi2 hok2 hbq hbw
      rcases Nat.eq_zero_or_pos k with h0 | hpos
      · have hmin : min (k : Int) 1 = 0 := by omega
        have hd1' : decide ((k : Int) < 1) = true := decide_eq_true (by omega)
        have Hk0 := Lib.hid h0
        clear h0
        have hsz4 : (⟨#[32, 58, 45, 32]⟩ : ByteArray).size = 4 := rfl
        go_upto_region 7 with (go_at_call 39; refine (wstr b L ⟨#[32, 58, 45, 32]⟩ _ Hwr5.out (by have := HLL.out; rw [hsz4]; omega)).mono ?_; rintro e w6 ⟨rfl, h6, f6⟩; have hx6 := f6.block Hx5.out hbne2 (by decide); have z0 := cells_of hx6 0; have z1 := cells_of hx6 1; simp at z0 z1)
        have h6' : Wr b (L ++ [32, 58, 45, 32]) w6 := h6
        have hb6 : Below w.heap.size w w6 := Hbw5.out.trans (f6.low.mono hb1)
        have H6 := Lib.hid h6'
        have Hb6 := Lib.hid hb6
        have Hx6 := Lib.hid hx6
        have hfin : ∀ (neg' : Bool) (w8 : World), Wr b (L ++ [32, 58, 45, 32] ++ (if neg' then [92, 43, 32] else []) ++ prT T2) w8 → neg = neg' → Wr b (prT T ++ litsTx 0 (ls.take (k + 1))) w8 := fun neg' w8 h e => by
          subst e
          rw [Htk.out, ← List.append_assoc, HL.out, litTx, if_pos Hk0.out]
          simpa [List.append_assoc] using h
        have Hfin := Lib.hid hfin
        clear h6 h6' f6 hb6 hx6 hfin Hwr5 Hbw5 Hx5 Htk HL
        cases neg with
        | true =>
          go_upto_region 10 with (first
            | (go_at_call 38; refine (Hte2.out _ _ (Hb6.out.trans (f7.low.mono hb1)) h7 (by have := HLL.out; simp only [List.length_append, List.length_cons, List.length_nil]; omega)).mono ?_; rintro e w8 ⟨rfl, h8, f8⟩)
            | (go_at_call 39; refine (wstr b _ ⟨#[92, 43, 32]⟩ _ H6.out (by have := HLL.out; simp only [List.length_append]; rw [show (⟨#[92, 43, 32]⟩ : ByteArray).size = 3 from rfl]; simp only [List.length_cons, List.length_nil]; omega)).mono ?_; rintro e w7 ⟨rfl, h7, f7⟩; have y1 := cells_of (f7.block Hx6.out hbne2 (by decide)) 1; simp at y1))
          go_wp2
          go_roundw
          case rel => exact ⟨k + 1, by omega, by go_num, Hfin.out true w8 (by simpa [List.append_assoc] using h8) rfl, Hb6.out.trans ((f7.trans f8).low.mono hb1)⟩
          case measure => simp [intOf]; omega
        | false =>
          go_upto_region 10 with (go_at_call 38; refine (Hte2.out _ _ Hb6.out H6.out (by have := HLL.out; simp only [List.length_append, List.length_cons, List.length_nil]; omega)).mono ?_; rintro e w8 ⟨rfl, h8, f8⟩)
          go_wp2
          go_roundw
          case rel => exact ⟨k + 1, by omega, by go_num, Hfin.out false w8 (by simpa [List.append_assoc] using h8) rfl, Hb6.out.trans (f8.low.mono hb1)⟩
          case measure => simp [intOf]; omega
      · have hmin : min (k : Int) 1 = 1 := by omega
        have hd1' : decide ((k : Int) < 1) = false := decide_eq_false (by omega)
        have hk0 : ¬ k = 0 := by omega
        have Hk0 := Lib.hid hk0
        clear hk0
        have hsz4 : (⟨#[44, 32]⟩ : ByteArray).size = 2 := rfl
        go_upto_region 7 with (go_at_call 39; refine (wstr b L ⟨#[44, 32]⟩ _ Hwr5.out (by have := HLL.out; rw [hsz4]; omega)).mono ?_; rintro e w6 ⟨rfl, h6, f6⟩; have hx6 := f6.block Hx5.out hbne2 (by decide); have z0 := cells_of hx6 0; have z1 := cells_of hx6 1; simp at z0 z1)
        have h6' : Wr b (L ++ [44, 32]) w6 := h6
        have hb6 : Below w.heap.size w w6 := Hbw5.out.trans (f6.low.mono hb1)
        have H6 := Lib.hid h6'
        have Hb6 := Lib.hid hb6
        have Hx6 := Lib.hid hx6
        have hfin : ∀ (neg' : Bool) (w8 : World), Wr b (L ++ [44, 32] ++ (if neg' then [92, 43, 32] else []) ++ prT T2) w8 → neg = neg' → Wr b (prT T ++ litsTx 0 (ls.take (k + 1))) w8 := fun neg' w8 h e => by
          subst e
          rw [Htk.out, ← List.append_assoc, HL.out, litTx, if_neg Hk0.out]
          simpa [List.append_assoc] using h
        have Hfin := Lib.hid hfin
        clear h6 h6' f6 hb6 hx6 hfin Hwr5 Hbw5 Hx5 Htk HL
        cases neg with
        | true =>
          go_upto_region 10 with (first
            | (go_at_call 38; refine (Hte2.out _ _ (Hb6.out.trans (f7.low.mono hb1)) h7 (by have := HLL.out; simp only [List.length_append, List.length_cons, List.length_nil]; omega)).mono ?_; rintro e w8 ⟨rfl, h8, f8⟩)
            | (go_at_call 39; refine (wstr b _ ⟨#[92, 43, 32]⟩ _ H6.out (by have := HLL.out; simp only [List.length_append]; rw [show (⟨#[92, 43, 32]⟩ : ByteArray).size = 3 from rfl]; simp only [List.length_cons, List.length_nil]; omega)).mono ?_; rintro e w7 ⟨rfl, h7, f7⟩; have y1 := cells_of (f7.block Hx6.out hbne2 (by decide)) 1; simp at y1))
          go_wp2
          go_roundw
          case rel => exact ⟨k + 1, by omega, by go_num, Hfin.out true w8 (by simpa [List.append_assoc] using h8) rfl, Hb6.out.trans ((f7.trans f8).low.mono hb1)⟩
          case measure => simp [intOf]; omega
        | false =>
          go_upto_region 10 with (go_at_call 38; refine (Hte2.out _ _ Hb6.out H6.out (by have := HLL.out; simp only [List.length_append, List.length_cons, List.length_nil]; omega)).mono ?_; rintro e w8 ⟨rfl, h8, f8⟩)
          go_wp2
          go_roundw
          case rel => exact ⟨k + 1, by omega, by go_num, Hfin.out false w8 (by simpa [List.append_assoc] using h8) rfl, Hb6.out.trans (f8.low.mono hb1)⟩
          case measure => simp [intOf]; omega
    · obtain rfl : k = m := by omega
      rw [List.take_of_length_le (by omega)] at hwr
      have hLL : (prT T ++ litsTx 0 ls).length ≤ 900000 := by rw [List.length_append]; have := Ht0.out; have := Hpl.out; omega
      have HLL := Lib.hid hLL
      have Hwr := Lib.hid hwr
      have Hbw := Lib.hid hbw
      clear hLL hwr hbw
      go_wp2_with (first
        | (go_at_call 41; refine (bstring b _ _ h8 (by simp)).mono ?_; rintro e w9 ⟨rfl, h9, f9⟩)
        | (go_at_call 40; refine (wbyte b _ 46 46 rfl _ Hwr.out (by have := HLL.out; omega)).mono ?_; rintro e w8 ⟨rfl, h8, f8⟩))
      go_ret
      refine ⟨?_, Hbw.out.trans ((f8.trans f9).low.mono hb1)⟩
      rw [prCl, List.append_assoc]
      rfl
end Go.Proofs.YtekdcmplcjgonaaDoor

/- The walk that tells a program's text. -/
namespace Go.Proofs.YtekdcmplcjgonaaDoor
open Go.RowKit

/-- a clause in memory -/
def RC : World → Tm × List (Bool × Tm) → List Value → Prop := fun w c v => ∃ A n cp B m d, v = [.slice A n cp, .slice B m d] ∧ IsC w A n cp c.1.flat ∧ IsG RL 2 w B m d c.2
theorem keepsRC : Keeps RC := fun _ _ _ _ ⟨A, n, cp, B, m, d, h1, h2, h3⟩ hb => ⟨A, n, cp, B, m, d, h1, h2.below hb, h3.below keepsRL hb⟩
def okCl (c : Tm × List (Bool × Tm)) : Prop := c.1.ok = true ∧ c.1.size ≤ 200 ∧ okL c.2 ∧ c.2.length ≤ 100
/-- a program's text -/
def prPr (cs : List (Tm × List (Bool × Tm))) : List UInt8 := cs.flatMap fun c => prCl c ++ [10]
theorem prCl_len {c : Tm × List (Bool × Tm)} (h : okCl c) : (prCl c).length ≤ 810000 := by
  have h1 := prT_len c.1 h.1
  have h2 := litsTx_len c.2 0 h.2.2.1
  have h3 := h.2.1
  have h4 := h.2.2.2
  unfold prCl
  rw [List.length_append, List.length_append]
  have : 8010 * c.2.length ≤ 8010 * 100 := Nat.mul_le_mul (Nat.le_refl _) h4
  simp only [List.length_cons, List.length_nil]
  omega
theorem prPr_len : ∀ cs : List (Tm × List (Bool × Tm)), (∀ c ∈ cs, okCl c) → (prPr cs).length ≤ 810001 * cs.length
  | [], _ => by simp [prPr]
  | c :: cs, h => by
    have h1 := prCl_len (h c (by simp))
    have h2 := prPr_len cs (fun q hq => h q (by simp [hq]))
    have e : prPr (c :: cs) = prCl c ++ [10] ++ prPr cs := rfl
    rw [e, List.length_append, List.length_append, List.length_cons, List.length_cons, List.length_nil]
    omega
theorem prPr_snoc (cs : List (Tm × List (Bool × Tm))) (c : Tm × List (Bool × Tm)) : prPr (cs ++ [c]) = prPr cs ++ (prCl c ++ [10]) := by simp [prPr]
theorem take_snoc {α : Type} {l : List α} {k : Nat} {x : α} (h : l[k]? = some x) : l.take (k + 1) = l.take k ++ [x] := by rw [List.take_add_one, h]; rfl
theorem Tab.below {w w' : World} (h : Tab w) (hb : Below w.heap.size w w') : Tab w' := fun v hv => h v (hb.trans (hv.mono hb.size))
theorem rc_at {w : World} {B : Option Addr} {m d : Nat} {cs : List (Tm × List (Bool × Tm))} (h : IsG RC 2 w B m d cs) {k : Nat} {c : Tm × List (Bool × Tm)} (hp : cs[k]? = some c) :
    ∃ b off A n cp B' m' d', B = some ⟨b, off, none⟩ ∧ b < w.heap.size ∧ w.cell? ⟨b, off + k * 2, none⟩ = some (.slice A n cp) ∧ w.cell? ⟨b, off + k * 2 + 1, none⟩ = some (.slice B' m' d') ∧ IsC w A n cp c.1.flat ∧ IsG RL 2 w B' m' d' c.2 := by
  obtain ⟨b, off, v, rfl, hb, _, ⟨A, n, cp, B', m', d', rfl, h1, h2⟩, hv⟩ := h.at_ hp
  exact ⟨b, off, A, n, cp, B', m', d', rfl, hb, hv 0 _ rfl, hv 1 _ rfl, h1, h2⟩
theorem line_text (l : List UInt8) : ((⟨l.toArray⟩ : ByteArray) ++ ⟨#[10]⟩).data.toList = l ++ [10] := by simp
theorem line_size (l : List UInt8) : ((⟨l.toArray⟩ : ByteArray) ++ ⟨#[10]⟩).size = l.length + 1 := by
  show ((⟨l.toArray⟩ : ByteArray) ++ ⟨#[10]⟩).data.size = _
  rw [← Array.length_toList, line_text, List.length_append]
  rfl
set_option maxRecDepth 100000 in
set_option maxHeartbeats 8000000 in
theorem pProgram_any (B : Option Addr) (m d : Nat) (cs : List (Tm × List (Bool × Tm))) (w : World) (hB : IsG RC 2 w B m d cs) (hcs : ∀ c ∈ cs, okCl c) (hm : m ≤ 100) (htab : Tab w) :
    Calls Tryd.prog 19 #[.slice B m d] w (RetS w (prPr cs)) := by
  have hlen := hB.len
  have hd1 := hB.cap_le
  have HB := Lib.hid hB
  have Hcs := Lib.hid hcs
  have Htab := Lib.hid htab
  have hfr := Wr.fresh w
  have hal : Below w.heap.size w (w.alloc (.cells #[.pointer none, .slice none 0 0] 74)) := (Below.refl _ _).alloc (Nat.le_refl _) _
  have hx1 : (w.alloc (.cells #[.pointer none, .slice none 0 0] 74)).heap[w.heap.size]? = some (.cells #[.pointer none, .slice none 0 0] 74 (0, 0)) := alloc_at rfl
  have Hfr := Lib.hid hfr
  have Hal := Lib.hid hal
  have Hx1 := Lib.hid hx1
  obtain ⟨b, hb⟩ : ∃ b, w.heap.size = b := ⟨_, rfl⟩
  have Hb := Lib.hid hb
  clear hB hcs htab hfr hal hx1 hb
  go_enter Tryd.func19, Tryd.ntmps19
  go_wp2
  go_loopw [8] (fun iv wr => ∃ k : Nat, k ≤ m ∧ iv = .int .i64 k ∧ Wr w.heap.size (prPr (cs.take k)) wr ∧ Below w.heap.size w wr ∧ (k = 0 → wr.heap[w.heap.size]? = some (.cells #[.pointer none, .slice none 0 0] 74 (0, 0)))) (fun iv _ => m - (intOf iv).toNat)
  case atStart => exact ⟨0, Nat.zero_le _, rfl, by simpa [prPr] using Hfr.out, Hal.out, fun _ => Hx1.out⟩
  case round =>
    clear Hfr Hal Hx1
    obtain ⟨k, hk, rfl, hwr, hbw, hz⟩ := hrel
    by_cases hlt : k < m
    · clear hz
      obtain ⟨c, hp⟩ := HB.out.get hlt
      obtain ⟨bq, off, A, n, cp, B', m', d', rfl, hbq, g0', g1', hi1, hi2⟩ := rc_at HB.out hp
      have g0 := (hbw.cell (p := ⟨bq, off + k * 2, none⟩) hbq).trans g0'
      have g1 := (hbw.cell (p := ⟨bq, off + k * 2 + 1, none⟩) hbq).trans g1'
      have hbq2 : bq < wr.heap.size := Nat.lt_of_lt_of_le hbq hbw.size
      have hok := Hcs.out _ (List.mem_of_getElem? hp)
      have htk := congrArg prPr (take_snoc hp)
      rw [prPr_snoc] at htk
      have Htk := Lib.hid htk
      have hwsz := hbw.size
      have hml := hi2.len
      have hcl := fun (w' : World) (hb' : Below w.heap.size w w') => pClause_any A n cp c.1 B' m' d' c.2 w' (hi1.below hb') hok.1 hok.2.1 (hi2.below keepsRL hb') hok.2.2.1 (by have := hok.2.2.2; omega) (Htab.out.below hb')
      have Hcl := Lib.hid hcl
      have hcll := prCl_len hok
      obtain ⟨t, ht⟩ : ∃ t, prCl c = t := ⟨_, rfl⟩
      have hcc : (c.1, c.2) = c := rfl
      rw [hcc, ht] at hcl
      rw [ht] at htk hcll
      have Hcl := Lib.hid hcl
      have Htk := Lib.hid htk
      have hpl := prPr_len (cs.take k) (fun q hq => Hcs.out q (List.mem_of_mem_take hq))
      have hpl2 : (prPr (cs.take k)).length ≤ 810001 * 100 := Nat.le_trans hpl (Nat.mul_le_mul (Nat.le_refl _) (by rw [List.length_take]; omega))
      have Hpl := Lib.hid hpl2
      have hbw5 : Below w.heap.size w (wr.alloc (.cells #[.slice A n cp, .slice B' m' d'] 33)) := hbw.alloc hwsz _
      have hwr5 := hwr.alloc (.cells #[.slice A n cp, .slice B' m' d'] 33)
      have hcat : ¬ 9223372036854775807 < t.length + 1 := by omega
      have hcat3 : ¬ 9223372036854775807 < (t.length : Int) + 1 := by omega
      have Hbw5 := Lib.hid hbw5
      have Hwr5 := Lib.hid hwr5
      have Hcll := Lib.hid hcll
      clear htk hcl hpl hpl2 hbw5 hwr5 hcll hi1 hi2 g0' g1' hp hok hbq hwr hbw ht hcc hml
      go_upto_region 6 with (first
        | (go_at_call 39; refine (wstr w.heap.size (prPr (cs.take k)) _ w6 (Hwr5.out.below hb6) (by have := Hpl.out; have := Hcll.out; rw [line_size]; omega)).mono ?_; rintro e w7 ⟨rfl, h7, f7⟩; rw [line_text] at h7)
        | (go_at_call 14; refine (Hcl.out _ Hbw5.out).mono ?_; rintro e w6 ⟨rfl, hb6⟩))
      have h8 : Wr w.heap.size (prPr (cs.take (k + 1))) w7 := by rw [Htk.out]; exact h7
      have hb8 : Below w.heap.size w w7 := Hbw5.out.trans ((hb6.mono (by simp; omega)).trans f7.low)
      have H8 := Lib.hid h8
      have Hb8 := Lib.hid hb8
      clear h7 h8 hb8 f7 hb6 Hwr5 Hbw5 Hcl
      go_wp2
      go_roundw
      case rel => exact ⟨k + 1, by omega, by go_num, H8.out, Hb8.out, fun h => by omega⟩
      case measure => simp [intOf]; omega
    · obtain rfl : k = m := by omega
      rw [List.take_of_length_le (by omega)] at hwr
      have Hwr := Lib.hid hwr
      have Hbw := Lib.hid hbw
      rcases Nat.eq_zero_or_pos k with h0 | hpos
      · have hz0 := hz h0
        have hnil : cs = [] := List.eq_nil_of_length_eq_zero (by omega)
        have Hz := Lib.hid hz0
        clear hwr hbw hz hz0
        go_wp2_with (go_at_call 41; refine (bstring_fresh w.heap.size _ _ Hz.out).mono ?_; rintro e w9 ⟨rfl, f9⟩)
        go_ret
        refine ⟨?_, Hbw.out.trans f9.low⟩
        rw [hnil]
        rfl
      · have hne : prPr cs ≠ [] := by
          cases cs with
          | nil => simp at hlen; omega
          | cons c cs => simp [prPr]
        have Hne := Lib.hid hne
        clear hwr hbw hz hne
        go_wp2_with (go_at_call 41; refine (bstring w.heap.size _ _ Hwr.out Hne.out).mono ?_; rintro e w9 ⟨rfl, h9, f9⟩)
        go_ret
        exact ⟨rfl, Hbw.out.trans f9.low⟩
end Go.Proofs.YtekdcmplcjgonaaDoor

/- The walk of the law's own maker of terms. -/
namespace Go.Proofs.YtekdcmplcjgonaaDoor
open Go.RowKit

theorem own_lit (w : World) (cur : Array Value) (e : TypeId) (size n : Nat) (hs : cur.size = n * size) (hn : n ≤ maxLen) : (w.alloc (.cells cur e)).ownsRow w.heap.size e size (.slice (some ⟨w.heap.size, 0, none⟩) n n) n cur.toList := by
  refine ⟨by simpa using hs, .inr ⟨w.heap.size, n, cur, rfl, Nat.le_refl _, alloc_at rfl, Nat.le_refl _, hn, by simpa using hs, ?_⟩⟩
  rw [List.take_of_length_le (by simp; omega)]
theorem wfC {k n : Int} {s : ByteArray} (h1 : i64 k) (h2 : i64 n) (h3 : s.size ≤ maxLen) : (⟨k, s, n⟩ : C).wf := ⟨h1, h2, h3⟩
theorem oneCs (cs : List C) : ∀ u ∈ flatC cs, u.oneCell' = true := by
  intro u hu
  obtain ⟨c, _, hc⟩ := List.mem_flatMap.1 hu
  simp [C.flat] at hc
  rcases hc with rfl | rfl | rfl <;> rfl
set_option maxRecDepth 100000 in
set_option maxHeartbeats 4000000 in
theorem fun_any (s : ByteArray) (k : Int) (A : Option Addr) (n cap : Nat) (cs : List C) (w : World) (h : IsC w A n cap cs) (hn : n ≤ 100000) (hs : s.size ≤ 1000) (hk : i64 k) :
    Calls Tryd.prog 35 #[.string s, .int .i64 k, .slice A n cap] w (RetC w (⟨3, s, k⟩ :: cs)) := by
  have hsl := h.sl
  have hown := own_lit w #[.int .i64 3, .string s, .int .i64 k] 66 3 1 rfl (by simp [maxLen])
  have hlen := h.len
  have Hh := Lib.hid h
  clear h
  go_enter Tryd.func35, Tryd.ntmps35
  go_wp2_with (at_builtin; go_must (refine wpList_append_sl rfl (.tmp 12) (.tmp 13) 22 rfl w.heap.size 66 Tryd.underlying22 infoC rfl (by omega) rfl hown rfl (hsl.below ((Below.refl _ _).alloc (Nat.le_refl _) _)) (oneCs cs) (by omega) (by omega) (by simp) ?_); intro A' cap' w2 hown1 hb2 _ _)
  go_ret
  refine ⟨A', 1 + n, cap', rfl, ⟨?_, fun c hc => ?_⟩, ((Below.refl _ w).alloc (Nat.le_refl _) _).trans hb2⟩
  · exact Sl.own hown1 (by omega)
  · rcases List.mem_cons.1 hc with rfl | hc
    · exact ⟨(show i64 3 from ⟨by decide, by decide⟩), hk, by simp [maxLen]; omega⟩
    · exact Hh.out.wf c hc
/-- a row of cells out of a block -/
theorem isC_lit {w : World} {g n : Nat} {l : List C} {cs : Array Value} (h : w.heap[g]? = some (.cells cs 66 (0, 0))) (hc : cs.toList = flatC l) (hl : l.length = n) (hn : n ≤ 1000) (hw : ∀ c ∈ l, c.wf) : IsC w (some ⟨g, 0, none⟩) n n l := by
  refine ⟨⟨by rw [flatC_len, hl], Nat.le_refl _, by simp [maxLen]; omega, fun _ => ⟨g, 0, rfl, block_lt h, fun j u hu => ?_⟩⟩, hw⟩
  rw [Nat.zero_add, cells_of h, ← Array.getElem?_toList, hc]
  exact hu
theorem isC_nil (w : World) : IsC w none 0 0 [] := ⟨⟨rfl, Nat.le_refl _, by simp [maxLen], fun h => absurd h (by omega)⟩, by simp⟩
end Go.Proofs.YtekdcmplcjgonaaDoor
