/- Texts of this proof that belong together: words of memory, plain laws, walks. -/
import Derived.Deep.CutBlock
import Derived.Deep.LoopGhost
import Derived.Deep.OwnRows
import Derived.Deep.RegionLaw
import Derived.Laws.EntriesVeiled
import Derived.StillTailTactics
import Derived.Test.YtgipiplklaeplaaDoorB04
import Derived.Test.YtgipiplklaeplaaDoorB06
import Derived.Test.YtgipiplklaeplaaDoorB08
import Derived.Test.YtgipiplklaeplaaDoorB09
import Derived.Test.YtgipiplklaeplaaDoorB11
import Derived.Test.YtgipiplklaeplaaDoorB13
set_option linter.unusedVariables false
set_option linter.unusedSimpArgs false
namespace Go.Proofs.YtgipiplklaeplaaDoor
open Go.RowKit
set_option maxHeartbeats 400000 in
theorem qIs_any (A B : Option Addr) (n c m d : Nat) (r x : Int) (w : World) (hn : n ≤ 100000) :
  Calls Tryd.prog 107 #[.agg #[.slice A n c, .slice B m d, .int .i64 r], .int .i64 x] w (RetV w (.bool (decide (0 ≤ x) && decide (x < (n : Int))))) := by
 by_cases h1 : 0 ≤ x
 ·go_enter Tryd.func107, Tryd.ntmps107
  go_wp2
  go_ret
  exact ⟨ret_bool (by simp [h1]), (Below.refl _ _).alloc (Nat.le_refl _) _⟩
 ·have h2 : ¬ (x ≥ 0) := h1
  have hd : (decide (0 ≤ x) && decide (x < (n : Int))) = false := by simp; omega
  have Hd := Lib.hid hd
  clear hd h1
  go_enter Tryd.func107, Tryd.ntmps107
  go_wp2
  go_ret
  exact ⟨ret_bool Hd.out.symm, (Below.refl _ _).alloc (Nat.le_refl _) _⟩
theorem hwithin_any (A B : Option Addr) (n c m d : Nat) (r x : Int) (w : World) (hn : n ≤ 100000) :
  Calls Tryd.prog 60 #[.agg #[.slice A n c, .slice B m d, .int .i64 r], .int .i64 x] w (RetV w (.bool (decide (0 ≤ x) && decide (x < (n : Int))))) := by
 by_cases h1 : 0 ≤ x
 ·go_enter Tryd.func60, Tryd.ntmps60
  go_wp2
  go_ret
  exact ⟨ret_bool (by simp [h1]), (Below.refl _ _).alloc (Nat.le_refl _) _⟩
 ·have h2 : ¬ (x ≥ 0) := h1
  have hd : (decide (0 ≤ x) && decide (x < (n : Int))) = false := by simp; omega
  have Hd := Lib.hid hd
  clear hd h1
  go_enter Tryd.func60, Tryd.ntmps60
  go_wp2
  go_ret
  exact ⟨ret_bool Hd.out.symm, (Below.refl _ _).alloc (Nat.le_refl _) _⟩
end Go.Proofs.YtgipiplklaeplaaDoor
namespace Go.Proofs.YtgipiplklaeplaaDoor
open Go.RowKit
theorem leads_len {l : List C} (hs : shpB l = true) (p : Nat) : (leads l p).length ≤ 6 := by
 cases ho : onB l p
 ·by_cases h4 : (sAt l p).kind = 4
  ·rw [leads_top h4]
   have hp : p < l.length := by
    by_cases hp : p < l.length
    ·exact hp
    ·rw [sAt_past (by omega)] at h4; simp at h4
   have := ok_top (shp_at hs hp) h4
   simp; omega
  ·rw [leads_no ho h4]; simp
 ·rw [leads_on ho]; simp
theorem closed_path {l : List C} {S : List Nat} (hc : ∀ s ∈ S, ∀ q ∈ leads l s, q ∈ S) {p q : Nat} (hp : p ∈ S) (h : Path l p q) : q ∈ S := by
 induction h with
 | refl => exact hp
 | step hq _ ih => exact ih (hc _ hp _ hq)
structure OcI (l : List C) (what from_ : Nat) (S R : List Nat) : Prop where
 sl : ∀ s ∈ S, s < l.length
 nd : S.Nodup
 rl : ∀ r ∈ R, r < l.length ∧ Path l from_ r
 cl : ∀ s ∈ S, s ≠ what ∧ ∀ q ∈ leads l s, q ∈ S ∨ q ∈ R
 fr : from_ ∈ S ∨ from_ ∈ R
def muO (n : Nat) (S R : List Nat) : Nat := 7 * (n - S.length) + R.length
theorem OcI.start {l : List C} {what from_ : Nat} (h : from_ < l.length) : OcI l what from_ [] [from_] :=
 ⟨by simp, by simp, fun r hr => by simp at hr; subst hr; exact ⟨h, .refl _⟩, by simp, by simp⟩
theorem OcI.pop {l : List C} {what from_ a : Nat} {S R : List Nat} (h : OcI l what from_ S (R ++ [a])) (ha : a ∈ S) : OcI l what from_ S R :=
 ⟨h.sl, h.nd, fun r hr => h.rl r (by simp [hr]), fun s hs => ⟨(h.cl s hs).1, fun q hq => by
  rcases (h.cl s hs).2 q hq with h1 | h1
  ·exact .inl h1
  ·rcases List.mem_append.1 h1 with h1 | h1
   ·exact .inr h1
   ·simp at h1; subst h1; exact .inl ha⟩, by
  rcases h.fr with h1 | h1
  ·exact .inl h1
  ·rcases List.mem_append.1 h1 with h1 | h1
   ·exact .inr h1
   ·simp at h1; subst h1; exact .inl ha⟩
theorem OcI.push {l : List C} (hs : shpB l = true) {what from_ a : Nat} {S R : List Nat} (h : OcI l what from_ S (R ++ [a])) (ha : a ∉ S) (hne : a ≠ what) : OcI l what from_ (a :: S) (R ++ leads l a) := by
 obtain ⟨h1, h2⟩ := h.rl a (by simp)
 refine ⟨fun s hs' => ?_, List.nodup_cons.2 ⟨ha, h.nd⟩, fun r hr => ?_, fun s hs' => ?_, ?_⟩
 ·rcases List.mem_cons.1 hs' with rfl | hs'
  ·exact h1
  ·exact h.sl s hs'
 ·rcases List.mem_append.1 hr with hr | hr
  ·exact h.rl r (by simp [hr])
  ·exact ⟨leads_lt hs hr, h2.snoc hr⟩
 ·rcases List.mem_cons.1 hs' with rfl | hs'
  ·exact ⟨hne, fun q hq => .inr (by simp [hq])⟩
  ·refine ⟨(h.cl s hs').1, fun q hq => ?_⟩
   rcases (h.cl s hs').2 q hq with g | g
   ·exact .inl (by simp [g])
   ·rcases List.mem_append.1 g with g | g
    ·exact .inr (by simp [g])
    ·simp at g; subst g; exact .inl (by simp)
 ·rcases h.fr with g | g
  ·exact .inl (by simp [g])
  ·rcases List.mem_append.1 g with g | g
   ·exact .inr (by simp [g])
   ·simp at g; subst g; exact .inl (by simp)
theorem OcI.mu_push {l : List C} (hs : shpB l = true) {what from_ a : Nat} {S R : List Nat} (h : OcI l what from_ S (R ++ [a])) (ha : a ∉ S) : muO l.length (a :: S) (R ++ leads l a) < muO l.length S (R ++ [a]) := by
 have h1 := leads_len hs a
 have h2 : (a :: S).length ≤ l.length := nodup_le _ _ (List.nodup_cons.2 ⟨ha, h.nd⟩) (fun s hs' => by
  rcases List.mem_cons.1 hs' with rfl | hs'
  ·exact (h.rl s (by simp)).1
  ·exact h.sl s hs')
 simp only [muO, List.length_append, List.length_cons, List.length_nil] at h2 ⊢
 omega
theorem OcI.done {l : List C} {what from_ : Nat} {S : List Nat} (h : OcI l what from_ S []) : ¬ Path l from_ what := by
 intro hp
 have hf : from_ ∈ S := by
  rcases h.fr with g | g
  ·exact g
  ·cases g
 have := closed_path (fun s hs q hq => by
  rcases (h.cl s hs).2 q hq with g | g
  ·exact g
  ·cases g) hf hp
 exact (h.cl what this).1 rfl
end Go.Proofs.YtgipiplklaeplaaDoor
namespace Go.Proofs.YtgipiplklaeplaaDoor
open Go.RowKit
theorem infoB8 : (Tryd.prog.info? 4).map (fun i => (i.zero, i.size, i.bytes)) = some (some (.bool false), 1, 1) := by kernel_rfl
theorem own_cut {w : World} {base size n cap m : Nat} {e : TypeId} {A : Option Addr} {xs : List Value} (h : w.ownsRow base e size (.slice A n cap) n xs) (hm : m ≤ n) : w.ownsRow base e size (.slice A m cap) m (xs.take (m * size)) := by
 have hle : m * size ≤ n * size := Nat.mul_le_mul_right _ hm
 refine ⟨by rw [List.length_take, h.1]; omega, ?_⟩
 rcases h.2 with ⟨h1, h2⟩ | ⟨g, cap', cur, h1, hb, hg, h2, h3, h4, h5⟩
 ·injection h1 with e1 e2 e3
  obtain rfl : m = 0 := by omega
  exact .inl ⟨by rw [e1, e3], rfl⟩
 ·injection h1 with e1 e2 e3
  subst e1
  subst e3
  exact .inr ⟨g, cap, cur, rfl, hb, hg, by omega, h3, h4, by rw [← h5, List.take_take, Nat.min_eq_left hle]⟩
theorem grown_block {w w' : World} {A : Option Addr} {n c g : Nat} (h : w.grownBy w' (Value.slice A n c).ownBlock) (hg : g < w.heap.size) (hne : ∀ a, A = some a → a.block ≠ g) : w'.heap[g]? = w.heap[g]? := by
 refine h.block g hg ?_
 cases A with
 | none => simp [Value.ownBlock]
 | some b => have := hne b rfl; simp [Value.ownBlock]; omega
theorem rowIs_heap {w : World} {b n : Nat} {t : TypeId} {f : Nat → Value} (h : w.rowIs b t n f) : ∃ c, w.heap[b]? = some (.cells c t (0, 0)) := by
 obtain ⟨c, hc, _⟩ := h
 exact ⟨c, hc⟩
theorem ints_append (a b : List Nat) : ints (a ++ b) = ints a ++ ints b := by simp [ints]
theorem ints_len (a : List Nat) : (ints a).length = a.length := by simp [ints]
theorem ints_get {a : List Nat} {k x : Nat} (h : a[k]? = some x) : (ints a)[k]? = some (x : Int) := by simp [ints, h]
theorem ints_snoc_get (R : List Nat) (a : Nat) : (ints (R ++ [a]))[R.length]? = some (a : Int) := ints_get (by simp)
theorem row_see {w : World} {b n a : Nat} {t : TypeId} {S : List Nat} (h : w.rowIs b t n (fun j => .bool (decide (j ∈ S)))) : (w.setCell ⟨b, a, none⟩ (.bool true)).rowIs b t n (fun j => .bool (decide (j ∈ a :: S))) :=
 (h.set a (.bool true)).congr fun i hi => by
  by_cases e : i = a
  ·subst e; simp
  ·rw [if_neg e]; simp [e]
set_option maxRecDepth 100000 in
set_option maxHeartbeats 2000000 in
theorem hoccurs_any (A : Option Addr) (n cap : Nat) (l : List C) (what from_ : Nat) (w : World) (h : IsC w A n cap l) (hg : Good l) (hn : n ≤ 100000) (hw : what < n) (hf : from_ < n) :
  Calls Tryd.prog 172 #[.slice A n cap, .int .i64 what, .int .i64 from_] w (RetV w (.bool (rch l from_ what))) := by
 have hl := h.len
 have Hl := Lib.hid hl
 have Hg := Lib.hid hg
 have HC := Lib.hid h
 have hmk : ∀ w, (Instr.makeSlice 161 (.int .i64 (n : Int)) (.int .i64 (n : Int))).run Tryd.prog w = .ok (.slice (some ⟨w.heap.size, 0, none⟩) n n) (w.alloc (.cells (madeCells #[.bool false] n) 4)) := fun w =>
  run_make_row' 161 4 (.bool false) 1 Tryd.underlying161 infoB8 rfl .i64 .i64 n (by omega) (by omega) w
 have hstart := OcI.start (l := l) (what := what) (from_ := from_) (by omega)
 have Hstart := Lib.hid hstart
 clear hl hg h hstart
 go_enter Tryd.func172, Tryd.ntmps172
 go_wp2
 clear hmk
 go_loopg [8] (muO n [] [from_]) (fun k rv wr => ∃ (S R : List Nat) (m c' : Nat) (Ar : Option Addr), rv = .slice Ar m c' ∧ wr.ownsRow w.heap.size 3 1 (.slice Ar m c') m ((ints R).map (Value.int .i64)) ∧ wr.rowIs w.heap.size 4 n (fun j => .bool (decide (j ∈ S))) ∧ Hid (OcI l what from_ S R) ∧ Hid (muO n S R ≤ k ∧ k ≤ 7 * n + 1) ∧ Below w.heap.size w wr)
 case atStart =>
  refine ⟨[], [from_], 1, 1, some ⟨w.heap.size + 1, 0, none⟩, by simp, ?_, ?_, Hstart, Lib.hid ⟨Nat.le_refl _, by simp [muO]⟩, ((Below.refl _ _).alloc (Nat.le_refl _) _).alloc (by simp) _⟩
  ·have := World.ownsRow_lit (w.alloc (.cells (madeCells #[.bool false] n) 4)) (e := 3) (size := 1) #[.int .i64 (from_ : Int)] 1 (Nat.le_refl _) (by simp [maxLen]) rfl
   simp at this
   exact own_lower this (by simp)
  ·exact ((World.rowIs_made w (.bool false) n 4).congr fun i hi => by simp).alloc _
 case round =>
  obtain ⟨S, R, m, c', Ar, rfl, hown, hrow, hI, hmu, hb⟩ := hrel
  have hlen := hown.1
  simp [ints_len] at hlen
  rcases List.eq_nil_or_concat R with rfl | ⟨R', a, rfl⟩
  ·obtain rfl : m = 0 := by simpa using hlen.symm
   have hno := (Hg.out.rch_no (p := from_) (q := what) (by rw [Hl.out]; exact hf)).2 hI.out.done
   have Hno := Lib.hid hno
   clear hno hlen
   go_wp2
   go_ret
   exact ⟨ret_bool Hno.out.symm, hb⟩
  ·rw [List.concat_eq_append] at *
   obtain ⟨k, rfl⟩ : ∃ k, m = k + 1 := ⟨R'.length, by simpa using hlen.symm⟩
   have hkR : R'.length = k := by simpa using hlen
   have hra := hI.out.rl a (by simp)
   have han : a < n := by have := Hl.out; omega
   have hget : ((ints (R' ++ [a])).map (Value.int .i64))[k]? = some (.int .i64 (a : Int)) := by rw [List.getElem?_map, ← hkR, ints_snoc_get]; rfl
   obtain ⟨c0, hx0⟩ := rowIs_heap hrow
   have hne := own_ne hown hx0 (by intro cur he; simp at he)
   obtain ⟨gg, rfl⟩ : ∃ gg, Ar = some ⟨gg, 0, none⟩ := by
    obtain ⟨g, cap', hv, _⟩ := hown.form (by omega)
    injection hv with hv
    exact ⟨g, hv⟩
   have hne1 : gg ≠ w.heap.size := hne _ rfl
   have hl0 := (hown.cellAt k (by omega)).trans hget
   obtain ⟨hg1, hg2⟩ := hown.lt gg rfl
   have hcapk : k + 1 ≤ c' ∧ c' ≤ maxLen := by
    rcases hown.2 with ⟨h1, _⟩ | ⟨g, cap', cur, h1, _, _, h2, h3, _⟩
    ·cases h1
    ·injection h1 with e1 e2 e3; subst e3; exact ⟨h2, h3⟩
   have hcc1 := hcapk.1
   have hcc2 := hcapk.2
   unfold maxLen at hcc2
   have hcut := own_cut hown (m := k) (by omega)
   have hcutx : ((ints (R' ++ [a])).map (Value.int .i64)).take (k * 1) = (ints R').map (Value.int .i64) := by
    rw [ints_append, List.map_append, Nat.mul_one, List.take_append_of_le_length (by simp [ints_len]; omega), List.take_of_length_le (by simp [ints_len]; omega)]
   rw [hcutx] at hcut
   have hgs := hrow.lt
   have hs0 := hrow.cell (i := a) han
   have hs1 := hrow.frozen a
   have Hcut := Lib.hid hcut
   have Hown := Lib.hid hown
   have HkR := Lib.hid hkR
   have Hrow := Lib.hid hrow
   have Hx0 := Lib.hid hx0
   have Hra := Lib.hid hra
   clear hcapk hlen hget hne hcutx hcut hown hkR hrow hx0 hra
   by_cases haw : a = what
   ·subst haw
    have hyes := (Hg.out.rch_iff (p := from_) (q := a) (by rw [Hl.out]; exact hf)).2 Hra.out.2
    have Hyes := Lib.hid hyes
    clear hyes
    go_wp2
    go_ret
    exact ⟨ret_bool Hyes.out.symm, hb⟩
   ·have hd : ((a : Int) == (what : Int)) = false := by simp; omega
    have Haw := Lib.hid haw
    clear haw
    by_cases hin : a ∈ S
    ·have hdi : decide (a ∈ S) = true := by simp [hin]
     rw [hdi] at hs0
     have hI2 := hI.out.pop hin
     have HI2 := Lib.hid hI2
     clear hdi hin hI2
     go_wp2
     go_roundg (muO n S R')
     case measure => have := hmu.out; simp only [muO, List.length_append, List.length_cons, List.length_nil] at this ⊢; omega
     case rel => exact ⟨S, R', k, c', _, rfl, Hcut.out, Hrow.out, HI2, Lib.hid ⟨Nat.le_refl _, by have := hmu.out; simp only [muO, List.length_append, List.length_cons, List.length_nil] at this ⊢; omega⟩, hb⟩
    ·have hdi : decide (a ∈ S) = false := by simp [hin]
     rw [hdi] at hs0
     have hI2 := hI.out.push Hg.out.shp hin Haw.out
     have hmu2 := hI.out.mu_push Hg.out.shp hin
     have HI2 := Lib.hid hI2
     have Hmu2 := Lib.hid hmu2
     have hrow2 := row_see (a := a) Hrow.out
     have hbs : Below w.heap.size w (wr.setCell ⟨w.heap.size, a, none⟩ (.bool true)) := hb.setCell (Nat.le_refl _) _
     have hss : (wr.setCell ⟨w.heap.size, a, none⟩ (.bool true)).heap.size = wr.heap.size := by simp
     have hcut2 : (wr.setCell ⟨w.heap.size, a, none⟩ (.bool true)).ownsRow w.heap.size 3 1 (.slice (some ⟨gg, 0, none⟩) k c') k ((ints R').map (Value.int .i64)) := own_at Hcut.out fun a' ha' => by cases ha'; exact set_other hne1 _
     have hle := hleads_any A n cap l a (wr.setCell ⟨w.heap.size, a, none⟩ (.bool true)) (HC.out.below hbs) Hg.out.shp hn han
     have Hle := Lib.hid hle
     have Hcut2 := Lib.hid hcut2
     have Hrow2 := Lib.hid hrow2
     have hll6 := leads_len Hg.out.shp a
     have Hll6 := Lib.hid hll6
     have hkn : k ≤ 1000000 := by have h1 := hmu.out; have h2 := HkR.out; simp only [muO, List.length_append, List.length_cons, List.length_nil] at h1; omega
     clear hdi hin hI2 hmu2 hle hcut2 hrow2 hll6
     go_wp2_with (first
      | (go_at_call 63; go_must (refine Hle.out.mono ?_); rintro e w1 ⟨Al, nl, cl, rfl, hIl, hb1⟩; have hnl : nl ≤ 6 := (by have h1 := hIl.len; have h2 := Hll6.out; rw [ints_len] at h1; omega); have hsz1 := hb1.size; rw [hss] at hsz1)
      | (at_builtin; go_must (refine wpList_append_sl rfl (.tmp 40) (.tmp 43) 42 rfl w.heap.size 3 Tryd.underlying42 infoI rfl (by omega) rfl (own_below Hcut2.out hb1) rfl hIl.sl (oneI _ _) (by omega) (by omega) (by omega) ?_); intro A' cap' w2 hown2 hb2 hgr hblk))
     have hx1 := (hb1.block w.heap.size (by rw [hss]; exact hgs))
     have hx2 := grown_block (g := w.heap.size) hgr (by omega) (fun a' ha' => by cases ha'; exact hne1)
     go_roundg (muO n (a :: S) (R' ++ leads l a))
     case measure => have h1 := hmu.out; have h2 := Hmu2.out; rw [Hl.out] at h2; omega
     case rel => exact ⟨a :: S, R' ++ leads l a, _, _, _, rfl, by rw [ints_append, List.map_append]; exact hown2, (Hrow2.out.of_block hx1).of_block hx2, HI2, Lib.hid ⟨Nat.le_refl _, by have h1 := hmu.out; have h2 := Hmu2.out; rw [Hl.out] at h2; omega⟩, (hbs.trans (hb1.mono (by rw [hss]; omega))).trans hb2⟩
end Go.Proofs.YtgipiplklaeplaaDoor
namespace Go.Proofs.YtgipiplklaeplaaDoor
open Go.RowKit
structure Hp where
 cells : List C
 trail : List Int
 room : Int
structure OkH (h : Hp) : Prop where
 room1 : 1 ≤ h.room
 room2 : h.room ≤ 4096
 fit : (h.cells.length : Int) ≤ h.room
 good : Good h.cells
 tr : TrOk h.cells h.trail
end Go.Proofs.YtgipiplklaeplaaDoor
namespace Go.Proofs.YtgipiplklaeplaaDoor
open Go.RowKit
structure Kq (g : Nat) (w w' : World) : Prop where
 bel : Below g w w'
 old : ∀ b, b < w.heap.size → b ≠ g → w'.heap[b]? = w.heap[b]?
theorem Kq.trans {g : Nat} {w w' w'' : World} (h : Kq g w w') (h' : Kq g w' w'') : Kq g w w'' :=
 ⟨h.bel.trans h'.bel, fun b hb hn => (h'.old b (Nat.lt_of_lt_of_le hb h.bel.size) hn).trans (h.old b hb hn)⟩
theorem Kq.set {g : Nat} (w : World) (i : Nat) (v : Value) : Kq g w (w.setCell ⟨g, i, none⟩ v) := ⟨Below.setCell (p := ⟨g, i, none⟩) (Below.refl g w) (Nat.le_refl _) v, fun b _ hn => set_other hn _⟩
theorem Kq.apart {g : Nat} {w w' : World} (h : Kq g w w') : Apart w w' (some ⟨g, 0, none⟩) none := ⟨h.bel.size, fun b hb hn => h.old b hb (fun e => hn _ rfl e.symm), by simp⟩
theorem IsC.kq {g n c : Nat} {w w' : World} {A : Option Addr} {l : List C} (h : IsC w A n c l) (hk : Kq g w w') (hA : ∀ a, A = some a → a.block ≠ g) : IsC w' A n c l :=
 h.apart hk.apart fun a a' ha ha' e => hA a' ha' (by cases ha; exact e.symm)
theorem IsI.kq {g n c : Nat} {w w' : World} {A : Option Addr} {l : List Int} (h : IsI w A n c l) (hk : Kq g w w') (hA : ∀ a, A = some a → a.block ≠ g) : IsI w' A n c l :=
 h.apart hk.apart fun a a' ha ha' e => hA a' ha' (by cases ha; exact e.symm)
end Go.Proofs.YtgipiplklaeplaaDoor
namespace Go.Proofs.YtgipiplklaeplaaDoor
open Go.RowKit
theorem IsI.take {w : World} {A : Option Addr} {n cap : Nat} {ns : List Int} (h : IsI w A n cap ns) {m : Nat} (hm : m ≤ n) : IsI w A m cap (ns.take m) := by
 have h1 := h.sl.hcap
 have h3 := h.len
 refine ⟨⟨by rw [List.length_map, List.length_take]; omega, by omega, h.sl.hmax, fun hn => ?_⟩, fun c hc => h.wf c (List.mem_of_mem_take hc)⟩
 obtain ⟨b, off, rfl, hb, hc⟩ := h.sl.cells (by omega)
 refine ⟨b, off, rfl, hb, fun j u hu => hc j u ?_⟩
 rw [List.map_take, List.getElem?_take] at hu
 split at hu
 ·exact hu
 ·cases hu
end Go.Proofs.YtgipiplklaeplaaDoor
namespace Go.Proofs.YtgipiplklaeplaaDoor
open Go.RowKit
theorem own_setn {w : World} {base n c i q : Nat} {A : Option Addr} {ls : List C} (h : w.ownsRow base 90 3 (.slice A n c) n (flatC ls)) (hi : i < n) (hl : ls.length = n) :
  ∃ ga x, A = some ⟨ga, 0, none⟩ ∧ w.cell? ⟨ga, i * 3 + 2, none⟩ = some (.int .i64 x) ∧ w.frozen? ⟨ga, i * 3 + 2, none⟩ = false ∧ base ≤ ga ∧ ga < w.heap.size ∧ n ≤ c ∧ c ≤ maxLen ∧ (w.setCell ⟨ga, i * 3 + 2, none⟩ (.int .i64 (q : Int))).ownsRow base 90 3 (.slice A n c) n (flatC (setN ls i q)) := by
 obtain ⟨ga, x, rfl, h1, h2, h3, h4⟩ := Ly.slot (.inr h) (i := i) (by omega)
 have hs := Sl.own h (by omega)
 refine ⟨ga, x, rfl, h2, h3, (Own0.lt h _ rfl).1, h4, hs.hcap, hs.hmax, ?_⟩
 rw [← flatC_setN ls i q (by omega)]
 exact (h.stored _ _).1
end Go.Proofs.YtgipiplklaeplaaDoor
namespace Go.Proofs.YtgipiplklaeplaaDoor
open Go.RowKit
theorem neqS (a b : C) (w : World) : (binOp .neq 90 (.agg #[.int .i64 a.kind, .string a.name, .int .i64 a.n]) (.agg #[.int .i64 b.kind, .string b.name, .int .i64 b.n])).run Tryd.prog w = .ok (.bool (!a.beq b)) w := by
 go_simp
 by_cases h1 : a.kind = b.kind <;> by_cases h2 : a.name.toList = b.name.toList <;> by_cases h3 : a.n = b.n <;> simp [C.beq, h1, h2, h3]
def sameH (a b : Hp) : Bool := sameC a.cells b.cells && (sameI a.trail b.trail && (a.room == b.room))
theorem sameH_iff (a b : Hp) : sameH a b = true ↔ a = b := by
 obtain ⟨a1, a2, a3⟩ := a
 obtain ⟨b1, b2, b3⟩ := b
 simp [sameH, sameC_iff, sameI_iff]
set_option maxRecDepth 100000 in
set_option maxHeartbeats 2000000 in
theorem qSame_any (A B A' B' : Option Addr) (n c m d n' c' m' d' : Nat) (r r' : Int) (l l' : List C) (tr tr' : List Int) (w : World) (h : IsC w A n c l) (hT : IsI w B m d tr) (h' : IsC w A' n' c' l') (hT' : IsI w B' m' d' tr')
  (hn : n ≤ 100000) (hm : m ≤ 100000) (hn' : n' ≤ 100000) (hm' : m' ≤ 100000) :
  Calls Tryd.prog 20 #[.agg #[.slice A n c, .slice B m d, .int .i64 r], .agg #[.slice A' n' c', .slice B' m' d', .int .i64 r']] w (RetV w (.bool (sameH ⟨l, tr, r⟩ ⟨l', tr', r'⟩))) := by
 have Hl := Lib.hid h.len
 have Hl' := Lib.hid h'.len
 have Ht := Lib.hid hT.len
 have Ht' := Lib.hid hT'.len
 have HC := Lib.hid h
 have HC' := Lib.hid h'
 have HT := Lib.hid hT
 have HT' := Lib.hid hT'
 generalize hR : sameH ⟨l, tr, r⟩ ⟨l', tr', r'⟩ = R
 have HR := Lib.hid hR
 clear h h' hT hT' hR
 have hal : Below w.heap.size w ((w.alloc (.cells #[.slice A n c, .slice B m d, .int .i64 r] 44)).alloc (.cells #[.slice A' n' c', .slice B' m' d', .int .i64 r'] 44)) := ((Below.refl _ _).alloc (Nat.le_refl _) _).alloc (by first | omega | (simp; done) | (simp; omega)) _
 by_cases hnn : n = n'
 ·subst hnn
  by_cases hmm : m = m'
  ·subst hmm
   by_cases hrr : r = r'
   ·subst hrr
    go_enter Tryd.func20, Tryd.ntmps20
    go_upto_region 1 with fail
    refine wp_world' (Φ := fun X => Below w.heap.size w X ∧ X.heap[w.heap.size]? = some (.cells #[.slice A n c, .slice B m d, .int .i64 r] 44 (0, 0)) ∧ X.heap[w.heap.size + 1]? = some (.cells #[.slice A' n c', .slice B' m d', .int .i64 r] 44 (0, 0)))
     ⟨hal, (alloc_past (by first | omega | (simp; done) | (simp; omega))).trans (alloc_at rfl), alloc_at (by first | omega | (simp; done) | (simp; omega))⟩ ?_
    rintro X ⟨hbX, x0, x1⟩
    obtain ⟨y0, y1, y2, yl⟩ := open3 x0
    obtain ⟨z0, z1, z2, zl⟩ := open3 x1
    have HCX := Lib.hid (HC.out.below hbX)
    have HCX' := Lib.hid (HC'.out.below hbX)
    have HTX := Lib.hid (HT.out.below hbX)
    have HTX' := Lib.hid (HT'.out.below hbX)
    clear hal x0 x1
    go_wp2
    go_loopw [5] (fun i wr => ∃ k : Nat, k ≤ n ∧ i = .int .i64 k ∧ Hid (sameC (l.drop k) (l'.drop k) = sameC l l') ∧ ∃ d, wr = X.drewN d) (fun i _ => n - (intOf i).toNat)
    case atStart => exact ⟨0, Nat.zero_le _, rfl, rfl, 0, rfl⟩
    case round =>
     obtain ⟨k, hk, rfl, hres, dd, rfl⟩ := hrel
     by_cases hlt : k < n
     ·obtain ⟨x, hxk⟩ := HCX.out.get hlt
      obtain ⟨y, hyk⟩ := HCX'.out.get hlt
      obtain ⟨b, off, rfl, hbb, hwf, h0, h1, h2⟩ := HCX.out.at_ hxk
      obtain ⟨b', off', rfl, hbb', hwf', h0', h1', h2'⟩ := HCX'.out.at_ hyk
      have hd := drop_get hxk
      have hd' := drop_get hyk
      have Hd := Lib.hid hd
      have Hd' := Lib.hid hd'
      clear hxk hyk hd hd'
      have hp : (k : Int) < (n : Int) := by omega
      have hq := neqS x y
      go_wp2
      go_quiet (fail)
      go_wp2
      ·rename_i h
       go_ret
       refine ⟨ret_bool ?_, hbX.trans (below_drewN (below_drewN (Below.refl w.heap.size X) _) _)⟩
       have := hres.out
       rw [Hd.out, Hd'.out, sameC] at this
       rw [← HR.out]
       simp at h
       unfold sameH
       simp only
       rw [← this]
       simp [h]
      ·rename_i h
       go_roundw
       case rel => exact ⟨k + 1, by omega, by go_num, by have := hres.out; rw [Hd.out, Hd'.out, sameC] at this; simp at h; exact Lib.hid (by simpa [h] using this), _, rfl⟩
       case measure => simp [intOf]; omega
     ·have hkn : k = n := by omega
      subst hkn
      have hsc : Hid (sameC l l' = true) := Lib.hid (by have := hres.out; rw [drop_end HCX.out.len hlt, drop_end HCX'.out.len hlt] at this; simpa [sameC] using this.symm)
      go_wp2
      go_loopw [6] (fun i wr => ∃ k : Nat, k ≤ m ∧ i = .int .i64 k ∧ Hid (sameI (tr.drop k) (tr'.drop k) = sameI tr tr') ∧ ∃ d, wr = X.drewN d) (fun i _ => m - (intOf i).toNat)
      case atStart => exact ⟨0, Nat.zero_le _, rfl, rfl, dd, rfl⟩
      case round =>
       clear hlt hres
       obtain ⟨k2, hk2, rfl, hres, dd, rfl⟩ := hrel
       by_cases hlt : k2 < m
       ·obtain ⟨x, hxk⟩ := HTX.out.get hlt
        obtain ⟨y, hyk⟩ := HTX'.out.get hlt
        obtain ⟨b, off, rfl, hbb, hwf, h0⟩ := HTX.out.at_ hxk
        obtain ⟨b', off', rfl, hbb', hwf', h0'⟩ := HTX'.out.at_ hyk
        have hd := drop_get hxk
        have hd' := drop_get hyk
        have Hd := Lib.hid hd
        have Hd' := Lib.hid hd'
        clear hxk hyk hd hd'
        have hp : (k2 : Int) < (m : Int) := by omega
        go_wp2
        go_quiet (fail)
        go_wp2
        ·rename_i h
         go_ret
         refine ⟨ret_bool ?_, hbX.trans (below_drewN (below_drewN (Below.refl w.heap.size X) _) _)⟩
         have := hres.out
         rw [Hd.out, Hd'.out, sameI] at this
         rw [← HR.out]
         simp at h
         unfold sameH
         simp only
         rw [← this]
         simp [h]
        ·rename_i h
         go_roundw
         case rel => exact ⟨k2 + 1, by omega, by go_num, by have := hres.out; rw [Hd.out, Hd'.out, sameI] at this; simp at h; exact Lib.hid (by simpa [h] using this), _, rfl⟩
         case measure => simp [intOf]; omega
       ·have hkm : k2 = m := by omega
        subst hkm
        have hsi : Hid (sameI tr tr' = true) := Lib.hid (by have := hres.out; rw [drop_end HTX.out.len hlt, drop_end HTX'.out.len hlt] at this; simpa [sameI] using this.symm)
        go_wp2
        go_ret
        refine ⟨ret_bool ?_, hbX.trans (below_drewN (Below.refl w.heap.size X) _)⟩
        rw [← HR.out]
        unfold sameH
        simp [hsc.out, hsi.out]
   ·have hne : ((r : Int) == r') = false := by simpa using hrr
    have hne2 : ((r : Int) != r') = true := by simpa using hrr
    go_enter Tryd.func20, Tryd.ntmps20
    go_wp2
    go_ret
    exact ⟨ret_bool (by rw [← HR.out]; simp [sameH, hrr]), hal⟩
  ·have hne : ((m : Int) == (m' : Int)) = false := by simp; omega
   go_enter Tryd.func20, Tryd.ntmps20
   go_wp2
   go_ret
   exact ⟨ret_bool (by rw [← HR.out]; unfold sameH; simp only; rw [sameI_len (a := tr) (b := tr') (by rw [Ht.out, Ht'.out]; exact hmm)]; simp), hal⟩
 ·have hne : ((n : Int) == (n' : Int)) = false := by simp; omega
  go_enter Tryd.func20, Tryd.ntmps20
  go_wp2
  go_ret
  exact ⟨ret_bool (by rw [← HR.out]; unfold sameH; simp only; rw [sameC_len (a := l) (b := l') (by rw [Hl.out, Hl'.out]; exact hnn)]; simp), hal⟩
end Go.Proofs.YtgipiplklaeplaaDoor
namespace Go.Proofs.YtgipiplklaeplaaDoor
open Go.RowKit
def newF (x : Int) : Int := if 1 ≤ x ∧ x ≤ 4096 then x else 0
theorem hNew_any (x : Int) (w : World) (hx : i64 x) : Calls Tryd.prog 41 #[.int .i64 x] w (RetV w (.agg #[.slice none 0 0, .slice none 0 0, .int .i64 (newF x)])) := by
 by_cases h1 : x < 1
 ·have hf : Hid (newF x = 0) := Lib.hid (by unfold newF; rw [if_neg (by omega)])
  go_enter Tryd.func41, Tryd.ntmps41
  go_wp2
  refine bodyPost_ret (v := .agg #[.slice none 0 0, .slice none 0 0, .int .i64 0]) (by simp [results, Tryd.results41, go_sem]) rfl ⟨by rw [hf.out], ?_⟩
  exact (by repeat (first | assumption | exact Below.refl _ _ | refine Below.drew ?_ | refine below_drewN ?_ _ | refine Below.alloc ?_ ?_ _ | refine Below.setCell ?_ ?_ _ | (apply Below.size; assumption) | (simp; done) | (simp; omega) | (have hz := hb.size; simp; omega) | (have hz := hb.size; omega) | omega))
 ·by_cases h2 : x > 4096
  ·have hf : Hid (newF x = 0) := Lib.hid (by unfold newF; rw [if_neg (by omega)])
   go_enter Tryd.func41, Tryd.ntmps41
   go_wp2
   refine bodyPost_ret (v := .agg #[.slice none 0 0, .slice none 0 0, .int .i64 0]) (by simp [results, Tryd.results41, go_sem]) rfl ⟨by rw [hf.out], ?_⟩
   exact (by repeat (first | assumption | exact Below.refl _ _ | refine Below.drew ?_ | refine below_drewN ?_ _ | refine Below.alloc ?_ ?_ _ | refine Below.setCell ?_ ?_ _ | (apply Below.size; assumption) | (simp; done) | (simp; omega) | (have hz := hb.size; simp; omega) | (have hz := hb.size; omega) | omega))
  ·have hf : Hid (newF x = x) := Lib.hid (by unfold newF; rw [if_pos (by omega)])
   go_enter Tryd.func41, Tryd.ntmps41
   go_wp2
   refine bodyPost_ret (v := .agg #[.slice none 0 0, .slice none 0 0, .int .i64 x]) (by simp [results, Tryd.results41, go_sem]) rfl ⟨by rw [hf.out], ?_⟩
   exact (by repeat (first | assumption | exact Below.refl _ _ | refine Below.drew ?_ | refine below_drewN ?_ _ | refine Below.alloc ?_ ?_ _ | refine Below.setCell ?_ ?_ _ | (apply Below.size; assumption) | (simp; done) | (simp; omega) | (have hz := hb.size; simp; omega) | (have hz := hb.size; omega) | omega))
end Go.Proofs.YtgipiplklaeplaaDoor
