/- What the live questions' heaps are, and the small functions that they call. -/
import Derived.Test.YtlndjooddkjnoaaHE
import Derived.Test.YtlndjooddkjnoaaHF
import Derived.Test.YtlndjooddkjnoaaHU1
import Derived.Test.YtlndjooddkjnoaaB1
import Derived.Test.YtlndjooddkjnoaaHG1
import Derived.Test.YtlndjooddkjnoaaHV3
set_option linter.unusedVariables false
set_option linter.unusedSimpArgs false
namespace Go.Proofs.Ytlndjooddkjnoaa
open Go.RowKit

def hT1 : Tm := .f ⟨#[102]⟩ [.v 0, .f ⟨#[103]⟩ [.v 0], .i 7]
def hL1 : List C := [⟨4, ⟨#[102]⟩, 3⟩, ⟨1, ⟨#[]⟩, 1⟩, ⟨3, ⟨#[]⟩, 4⟩, ⟨2, ⟨#[]⟩, 7⟩, ⟨4, ⟨#[103]⟩, 1⟩, ⟨1, ⟨#[]⟩, 1⟩]
def hL2 : List C := hL1 ++ [⟨2, ⟨#[]⟩, 7⟩]
def hL3 : List C := [⟨4, ⟨#[102]⟩, 3⟩, ⟨1, ⟨#[]⟩, 6⟩, ⟨3, ⟨#[]⟩, 4⟩, ⟨2, ⟨#[]⟩, 7⟩, ⟨4, ⟨#[103]⟩, 1⟩, ⟨1, ⟨#[]⟩, 1⟩, ⟨2, ⟨#[]⟩, 7⟩]
def hX : List C := [⟨3, ⟨#[102]⟩, 3⟩, ⟨2, ⟨#[]⟩, 7⟩, ⟨3, ⟨#[103]⟩, 1⟩, ⟨2, ⟨#[]⟩, 7⟩, ⟨2, ⟨#[]⟩, 7⟩]
def hY : List C := [⟨3, ⟨#[103]⟩, 1⟩, ⟨1, ⟨#[]⟩, 1⟩]
theorem hput1 : putA [] hT1 [] = (hL1, 0, [1]) := by kernel_rfl
theorem hput2 : putA hL1 (.i 7) [1] = (hL2, 6, [1]) := by kernel_rfl
theorem hput3 : (putA hL2 (.v 1) [1]).1.length = 8 := by kernel_rfl
theorem hput4 : putA hL2 (.v 0) [1] = (hL2, 1, [1]) := by kernel_rfl
theorem huni1 : uniF hL2 [] 1 6 = some (hL3, [1]) := by kernel_rfl
theorem huni2 : uniF hL2 [] 1 2 = none := by kernel_rfl
theorem hget1 : getF hL3 0 = some hX := by kernel_rfl
theorem hget2 : getF hL2 2 = some hY := by kernel_rfl
theorem hundo1 : undoL hL3 [1] 6 0 = hL1 := by kernel_rfl
theorem good_nil : Good [] := ⟨by decide, fun _ => 0, fun p q h => by rw [leads_past (by simp)] at h; cases h⟩
theorem atOk_nil (L : List C) (n : Nat) : AtOk L n [] := fun v => .inl rfl
theorem hput1_ok : PutOk [] hT1 [] hL1 0 [1] := by
  have := put_ok good_nil (T := hT1) (by kernel_rfl) (atOk_nil _ _) (by rw [hput1]; decide)
  rw [hput1] at this
  exact this
theorem hput2_ok : PutOk hL1 (.i 7) [1] hL2 6 [1] := by
  have := put_ok hput1_ok.good (T := .i 7) (by kernel_rfl) hput1_ok.at_ (by rw [hput2]; decide)
  rw [hput2] at this
  exact this
theorem trOk_nil (l : List C) : TrOk l [] := ⟨by simp, by simp⟩
theorem hL3_ok : Good hL3 ∧ TrOk hL3 [1] := by
  have h := huni1
  unfold uniF at h
  cases hr : uRun (fuelU hL2.length) ⟨hL2, [], [(1, 6)], []⟩ with
  | none => rw [hr] at h; cases h
  | some s =>
    rw [hr] at h
    simp at h
    obtain ⟨h1, _, _⟩ := uRun_ok _ _ _ (start_ok hput2_ok.good (trOk_nil _) (by decide) (by decide)) hr
    rw [← h.1, ← h.2]
    exact ⟨h1.good, h1.tr⟩
theorem hright3 : rightH ⟨hL3, [1], 7⟩ = true := rightH_iff.2 ⟨by decide, by decide, by decide, hL3_ok.1, hL3_ok.2⟩
theorem hright0 : rightH ⟨[], [], 0⟩ = false := by simp [rightH]
theorem cv8_any (x : Int) (w : World) : Calls Try.prog 35 #[.int .i64 x] w (RetV w (.agg #[.int .i64 1, .string ⟨#[]⟩, .int .i64 x])) := by
  go_enter Try.func35, Try.ntmps35
  go_wp2
  refine bodyPost_ret (v := .agg #[.int .i64 1, .string ⟨#[]⟩, .int .i64 x]) (by simp [results, Try.results35, go_sem, *]) rfl ?_
  exact ⟨rfl, (by repeat (first | assumption | exact Below.refl _ _ | refine Below.drew ?_ | refine below_drewN ?_ _ | refine Below.alloc ?_ ?_ _ | refine Below.setCell ?_ ?_ _ | (apply Below.size; assumption) | (simp; done) | (simp; omega) | (have hz := hb.size; simp; omega) | (have hz := hb.size; omega) | omega))⟩
theorem cn8_any (x : Int) (w : World) : Calls Try.prog 40 #[.int .i64 x] w (RetV w (.agg #[.int .i64 2, .string ⟨#[]⟩, .int .i64 x])) := by
  go_enter Try.func40, Try.ntmps40
  go_wp2
  refine bodyPost_ret (v := .agg #[.int .i64 2, .string ⟨#[]⟩, .int .i64 x]) (by simp [results, Try.results40, go_sem, *]) rfl ?_
  exact ⟨rfl, (by repeat (first | assumption | exact Below.refl _ _ | refine Below.drew ?_ | refine below_drewN ?_ _ | refine Below.alloc ?_ ?_ _ | refine Below.setCell ?_ ?_ _ | (apply Below.size; assumption) | (simp; done) | (simp; omega) | (have hz := hb.size; simp; omega) | (have hz := hb.size; omega) | omega))⟩
theorem cf8_any (s : ByteArray) (x : Int) (w : World) : Calls Try.prog 39 #[.string s, .int .i64 x] w (RetV w (.agg #[.int .i64 3, .string s, .int .i64 x])) := by
  go_enter Try.func39, Try.ntmps39
  go_wp2
  refine bodyPost_ret (v := .agg #[.int .i64 3, .string s, .int .i64 x]) (by simp [results, Try.results39, go_sem, *]) rfl ?_
  exact ⟨rfl, (by repeat (first | assumption | exact Below.refl _ _ | refine Below.drew ?_ | refine below_drewN ?_ _ | refine Below.alloc ?_ ?_ _ | refine Below.setCell ?_ ?_ _ | (apply Below.size; assumption) | (simp; done) | (simp; omega) | (have hz := hb.size; simp; omega) | (have hz := hb.size; omega) | omega))⟩
theorem isC_lit8 {w : World} {g n : Nat} {l : List C} {cs : Array Value} {t : TypeId} (h : w.heap[g]? = some (.cells cs t (0, 0))) (hc : cs.toList = flatC l) (hl : l.length = n) (hn : n ≤ 1000) (hw : ∀ c ∈ l, c.wf) : IsC w (some ⟨g, 0, none⟩) n n l := by
  have := Sl.blk (size := 3) (n := n) h (by rw [← Array.length_toList, hc, flatC_len, hl]) (by simp [maxLen]; omega)
  rw [hc] at this
  exact ⟨this, hw⟩
theorem isI_lit8 {w : World} {g : Nat} {x : Int} {t : TypeId} (h : w.heap[g]? = some (.cells #[.int .i64 x] t (0, 0))) (hw : i64 x) : IsI w (some ⟨g, 0, none⟩) 1 1 [x] := by
  have := Sl.blk (size := 1) (n := 1) h rfl (by simp [maxLen])
  exact ⟨this, by simpa using hw⟩
theorem isC_nil8 (w : World) (A : Option Addr) : IsC w A 0 0 [] := ⟨⟨rfl, Nat.le_refl _, by simp [maxLen], fun h => absurd h (by omega)⟩, by simp⟩
theorem isI_nil8 (w : World) (A : Option Addr) : IsI w A 0 0 [] := ⟨⟨rfl, Nat.le_refl _, by simp [maxLen], fun h => absurd h (by omega)⟩, by simp⟩
theorem cells_wf8 {l : List C} (h : l.all (fun c => decide (-3000000000 ≤ c.kind) && (decide (c.kind ≤ 3000000000) && (decide (-3000000000 ≤ c.n) && (decide (c.n ≤ 3000000000) && decide (c.name.size ≤ 100))))) = true) : ∀ c ∈ l, c.wf := fun c hc => by
  have := List.all_eq_true.1 h c hc
  simp only [Bool.and_eq_true, decide_eq_true_eq] at this
  obtain ⟨h1, h2, h3, h4, h5⟩ := this
  exact ⟨by unfold i64; omega, by unfold i64; omega, by simp [maxLen]; omega⟩
/-- a heap that stands in a block of its own -/
def HB (w : World) (g : Nat) (l : List C) (tr : List Int) (r : Int) : Prop := ∃ A c B d, w.heap[g]? = some (.cells #[.slice A l.length c, .slice B tr.length d, .int .i64 r] 25 (0, 0)) ∧ IsC w A l.length c l ∧ IsI w B tr.length d tr
theorem HB.below {w w' : World} {g : Nat} {l : List C} {tr : List Int} {r : Int} (h : HB w g l tr r) (hb : Below w.heap.size w w') : HB w' g l tr r := by
  obtain ⟨A, c, B, d, h1, h2, h3⟩ := h
  exact ⟨A, c, B, d, (hb.block g (block_lt h1)).trans h1, h2.below hb, h3.below hb⟩
theorem put_yes {w : World} {args : List Value} {A B : Option Addr} {n c m d q : Nat} {r : Int} {p : List C × Nat × List Int} {L : List C} {b : List Int} (h : Calls Try.prog 19 args.toArray w (RetPut w A B n c m d r p)) (hp : p = (L, q, b)) (hr : (L.length : Int) ≤ r) :
    Calls Try.prog 19 args.toArray w (fun e w' => ∃ A' c' D d', e = .returned (.tuple #[.agg #[.slice A' L.length c', .slice B m d, .int .i64 r], .int .i64 q, .slice D b.length d', .int .i64 0]) ∧ IsC w' A' L.length c' L ∧ IsI w' D b.length d' b ∧ Below w.heap.size w w') := by
  subst hp
  refine h.mono fun e w' hh => ?_
  unfold RetPut at hh
  rw [if_pos hr] at hh
  obtain ⟨A', n', c', D, k, d', h1, h2, h3, h4, _⟩ := hh
  have e1 := h2.len
  have e2 := h3.len
  subst e1
  subst e2
  exact ⟨A', c', D, d', h1, h2, h3, h4⟩
theorem put_no {w : World} {args : List Value} {A B : Option Addr} {n c m d : Nat} {r : Int} {p : List C × Nat × List Int} (h : Calls Try.prog 19 args.toArray w (RetPut w A B n c m d r p)) (hr : ¬ (p.1.length : Int) ≤ r) :
    Calls Try.prog 19 args.toArray w (fun e w' => e = .returned (.tuple #[.agg #[.slice A n c, .slice B m d, .int .i64 r], .int .i64 0, .slice none 0 0, .int .i64 80]) ∧ Below w.heap.size w w') := by
  refine h.mono fun e w' hh => ?_
  unfold RetPut at hh
  rw [if_neg hr] at hh
  exact hh
theorem new7 (w : World) : Calls Try.prog 15 #[.int .i64 7] w (RetV w (.agg #[.slice none 0 0, .slice none 0 0, .int .i64 7])) := hNew_any 7 w (by unfold i64; omega)
theorem new0 (w : World) : Calls Try.prog 15 #[.int .i64 0] w (RetV w (.agg #[.slice none 0 0, .slice none 0 0, .int .i64 0])) := hNew_any 0 w (by unfold i64; omega)
theorem new4097 (w : World) : Calls Try.prog 15 #[.int .i64 4097] w (RetV w (.agg #[.slice none 0 0, .slice none 0 0, .int .i64 0])) := hNew_any 4097 w (by unfold i64; omega)
theorem bas (w : World) (o : Obj) : Below w.heap.size w (w.alloc o) := (Below.refl _ _).alloc (Nat.le_refl _) _
theorem cell3 {w : World} {g k : Nat} {u0 u1 u2 v : Value} {t : TypeId} (hx : w.heap[g]? = some (.cells #[u0, u1, u2] t (0, 0))) (h : w.cell? ⟨g, k, none⟩ = some v) : (k = 0 ∧ v = u0) ∨ (k = 1 ∧ v = u1) ∨ (k = 2 ∧ v = u2) := by
  obtain ⟨h0, h1, h2, _⟩ := open3 hx
  match k with
  | 0 => rw [h0] at h; exact .inl ⟨rfl, (Option.some.inj h).symm⟩
  | 1 => rw [h1] at h; exact .inr (.inl ⟨rfl, (Option.some.inj h).symm⟩)
  | 2 => rw [h2] at h; exact .inr (.inr ⟨rfl, (Option.some.inj h).symm⟩)
  | k + 3 => simp [World.cell?, hx] at h
theorem IsC.off_heap {w : World} {A A1 B1 : Option Addr} {n c gb n1 c1 m1 d1 : Nat} {x : Int} {l : List C} {t : TypeId} (h : IsC w A n c l) (hl : 0 < l.length) (hx : w.heap[gb]? = some (.cells #[.slice A1 n1 c1, .slice B1 m1 d1, .int .i64 x] t (0, 0))) : ∀ a, A = some a → a.block ≠ gb := by
  obtain ⟨b, off, rfl, hbb, hwf, e0, e1, e2⟩ := h.at_ (sAt_some hl)
  intro a ha he
  cases ha
  simp only at he
  subst he
  rcases cell3 hx e1 with ⟨_, hv⟩ | ⟨_, hv⟩ | ⟨_, hv⟩ <;> cases hv
theorem IsI.off_heap {w : World} {A A1 B1 : Option Addr} {n c gb n1 c1 m1 d1 : Nat} {x y : Int} {l : List Int} {t : TypeId} (h : IsI w A n c (y :: l)) (hl : y ≠ x) (hx : w.heap[gb]? = some (.cells #[.slice A1 n1 c1, .slice B1 m1 d1, .int .i64 x] t (0, 0))) : ∀ a, A = some a → a.block ≠ gb := by
  obtain ⟨b, off, rfl, hbb, hwf, e0⟩ := h.at_ (k := 0) rfl
  intro a ha he
  cases ha
  simp only at he
  subst he
  rcases cell3 hx e0 with ⟨_, hv⟩ | ⟨_, hv⟩ | ⟨_, hv⟩
  · cases hv
  · cases hv
  · injection hv with h1 h2; exact hl h2
theorem huniz1 : uniZ hL2 [] 1 6 = some (hL3, [1]) := by unfold uniZ; rw [if_pos (by decide)]; exact huni1
theorem huniz2 : uniZ hL2 [] 1 2 = none := by unfold uniZ; rw [if_pos (by decide)]; exact huni2
theorem hgetz1 : getZ hL3 0 = some hX := by unfold getZ; rw [if_pos (by decide)]; exact hget1
theorem hgetz2 : getZ hL2 2 = some hY := by unfold getZ; rw [if_pos (by decide)]; exact hget2
theorem isI_nil_any {w w' : World} {B : Option Addr} {d : Nat} (h : IsI w B 0 d []) : IsI w' B 0 d [] := ⟨⟨rfl, h.sl.hcap, h.sl.hmax, fun h => absurd h (by omega)⟩, by simp⟩
theorem undo_head (A B : Option Addr) (c d : Nat) (w : World) (h : IsC w A 7 c hL3) (hT : IsI w B 1 d [1]) :
    Calls Try.prog 29 #[.agg #[.slice A 7 c, .slice B 1 d, .int .i64 7], .agg #[.int .i64 6, .int .i64 0, .slice none 0 0]] w (fun e w' => ∃ A' c' B' d', e = .returned (.agg #[.slice A' 6 c', .slice B' 0 d', .int .i64 7]) ∧ IsC w' A' 6 c' hL1 ∧ IsI w' B' 0 d' [] ∧ Below w.heap.size w w') := by
  have := hUndo_any A B none 7 c 1 d 6 0 0 0 7 hL3 [1] w h hT (by omega) (by omega) (by omega) (by omega) (fun t ht => ⟨1, by simpa using ht, by omega⟩)
  rw [hundo1] at this
  refine this.mono ?_
  rintro e w' ⟨A', n', c', B', m', d', h1, h2, h3, h4⟩
  have e1 := h2.len
  have e2 := h3.len
  subst e1 e2
  exact ⟨A', c', B', d', h1, h2, h3, h4⟩
theorem mark_head (A B : Option Addr) (c d : Nat) (w : World) : Calls Try.prog 25 #[.agg #[.slice A 6 c, .slice B 0 d, .int .i64 7], .slice none 0 0] w (RetV w (.agg #[.int .i64 6, .int .i64 0, .slice none 0 0])) := hMark_any A B none 6 c 0 d 0 0 7 w (by omega) (by omega)
theorem ints_yes (A B : Option Addr) (c d : Nat) (w : World) (h : IsI w A 1 c [1]) (h' : IsI w B 1 d [1]) : Calls Try.prog 27 #[.slice A 1 c, .slice B 1 d] w (RetV w (.bool true)) := by
  have := Ints8_any A B 1 1 c d [1] [1] w h h' (by omega) (by omega)
  rw [show sameI [1] [1] = true by decide] at this
  exact this.mono fun _ _ h => h.v
theorem heaps_yes {A B A' B' : Option Addr} {n c m d n' c' m' d' : Nat} {r : Int} {l : List C} {tr : List Int} {w : World} (h : IsC w A n c l) (hT : IsI w B m d tr) (h' : IsC w A' n' c' l) (hT' : IsI w B' m' d' tr) (hn : n ≤ 1000) (hm : m ≤ 1000) (hn' : n' ≤ 1000) (hm' : m' ≤ 1000) :
    Calls Try.prog 14 #[.agg #[.slice A n c, .slice B m d, .int .i64 r], .agg #[.slice A' n' c', .slice B' m' d', .int .i64 r]] w (RetV w (.bool true)) := by
  have := qSame_any A B A' B' n c m d n' c' m' d' r r l l tr tr w h hT h' hT' (by omega) (by omega) (by omega) (by omega)
  rw [(sameH_iff ⟨l, tr, r⟩ ⟨l, tr, r⟩).2 rfl] at this
  exact this
theorem terms_yes {A B : Option Addr} {n c n' d : Nat} {l : List C} {w : World} (h : IsC w A n c l) (h' : IsC w B n' d l) (hn : n ≤ 1000) (hn' : n' ≤ 1000) : Calls Try.prog 28 #[.slice A n c, .slice B n' d] w (RetV w (.bool true)) := by
  have := rSame_any A B n n' c d l l w h h' (by omega) (by omega)
  rw [(sameC_iff l l).2 rfl] at this
  exact this.mono fun _ _ h => h.v
theorem right_yes {A B : Option Addr} {c d : Nat} {w : World} (h : IsC w A 7 c hL3) (hT : IsI w B 1 d [1]) : Calls Try.prog 12 #[.agg #[.slice A 7 c, .slice B 1 d, .int .i64 7]] w (RetV w (.bool true)) := by
  have := hRight_any A B 7 c 1 d 7 hL3 [1] w h hT (by omega) (by omega)
  rw [hright3] at this
  exact this
theorem right_no8 (w : World) : Calls Try.prog 12 #[.agg #[.slice none 0 0, .slice none 0 0, .int .i64 0]] w (RetV w (.bool false)) := by
  have := hRight_any none none 0 0 0 0 0 [] [] w (isC_nil8 _ _) (isI_nil8 _ _) (by omega) (by omega)
  rw [hright0] at this
  exact this
theorem slot_yes (w : World) : (binOp .eql 68 (.agg #[.int .i64 1, .string ⟨#[]⟩, .int .i64 6]) (.agg #[.int .i64 1, .string ⟨#[]⟩, .int .i64 6])).run Try.prog w = .ok (.bool true) w := by
  have := eqS ⟨1, ⟨#[]⟩, 6⟩ ⟨1, ⟨#[]⟩, 6⟩ w
  rw [(beq_iff _ _).2 rfl] at this
  exact this
/-- a heap in a block, and the block's cells -/
theorem HB.open {w : World} {g : Nat} {l : List C} {tr : List Int} {r : Int} (h : HB w g l tr r) : ∃ A c B d, (IsC w A l.length c l ∧ IsI w B tr.length d tr) ∧ ∀ w', Below w.heap.size w w' → (w'.cell? ⟨g, 0, none⟩ = some (.slice A l.length c) ∧ w'.cell? ⟨g, 1, none⟩ = some (.slice B tr.length d) ∧ w'.cell? ⟨g, 2, none⟩ = some (.int .i64 r) ∧ g < w'.heap.size) := by
  obtain ⟨A, c, B, d, h1, h2, h3⟩ := h
  refine ⟨A, c, B, d, ⟨h2, h3⟩, fun w' hb => ?_⟩
  exact open3 ((hb.block g (block_lt h1)).trans h1)
theorem store_heap {Y : World} {g n c m d : Nat} {A B : Option Addr} {r : Int} (h : Y.heap[g]? = some (.cells #[.slice none 0 0, .slice none 0 0, .int .i64 0] 25 (0, 0))) : ∃ F, F = ((Y.setCell ⟨g, 0, none⟩ (.slice A n c)).setCell ⟨g, 1, none⟩ (.slice B m d)).setCell ⟨g, 2, none⟩ (.int .i64 r) ∧ F.heap[g]? = some (.cells #[.slice A n c, .slice B m d, .int .i64 r] 25 (0, 0)) ∧ Kq g Y F := by
  refine ⟨_, rfl, ?_, ((Kq.set Y 0 _).trans (Kq.set _ 1 _)).trans (Kq.set _ 2 _)⟩
  have h1 := set_block (k := 0) h (.slice A n c)
  have h2 := set_block (k := 1) h1 (.slice B m d)
  have h3 := set_block (k := 2) h2 (.int .i64 r)
  simpa using h3
/-- the block's cells, and that they are not frozen -/
theorem cells3 {w : World} {b : Nat} {v0 v1 v2 : Value} {t : TypeId} (h : w.heap[b]? = some (.cells #[v0, v1, v2] t (0, 0))) :
    w.cell? ⟨b, 0, none⟩ = some v0 ∧ w.cell? ⟨b, 1, none⟩ = some v1 ∧ w.cell? ⟨b, 2, none⟩ = some v2 ∧ b < w.heap.size ∧ w.frozen? ⟨b, 0, none⟩ = false ∧ w.frozen? ⟨b, 1, none⟩ = false ∧ w.frozen? ⟨b, 2, none⟩ = false := by
  obtain ⟨h0, h1, h2, h3⟩ := open3 h
  exact ⟨h0, h1, h2, h3, frozen_of h 0, frozen_of h 1, frozen_of h 2⟩
end Go.Proofs.Ytlndjooddkjnoaa
