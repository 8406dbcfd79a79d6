/- The walk of the code's search: does a place lead to another one? -/
import Derived.Deep.LoopGhost
import Derived.Deep.OwnRows
import Derived.Test.YtlndjooddkjnoaaH4
import Derived.Test.YtlndjooddkjnoaaB1
set_option linter.unusedVariables false
set_option linter.unusedSimpArgs false
namespace Go.Proofs.Ytlndjooddkjnoaa
open Go.RowKit

theorem infoB8 : (Try.prog.info? 4).map (fun i => (i.zero, i.size, i.bytes)) = some (some (.bool false), 1, 1) := by kernel_rfl
theorem own_cut {w : World} {base size n cap m : Nat} {e : TypeId} {A : Option Addr} {xs : List Value} (h : w.ownsRow base e size (.slice A n cap) n xs) (hm : m ≤ n) : w.ownsRow base e size (.slice A m cap) m (xs.take (m * size)) := by
  have hle : m * size ≤ n * size := Nat.mul_le_mul_right _ hm
  refine ⟨by rw [List.length_take, h.1]; omega, ?_⟩
  rcases h.2 with ⟨h1, h2⟩ | ⟨g, cap', cur, h1, hb, hg, h2, h3, h4, h5⟩
  · injection h1 with e1 e2 e3
    obtain rfl : m = 0 := by omega
    exact .inl ⟨by rw [e1, e3], rfl⟩
  · injection h1 with e1 e2 e3
    subst e1
    subst e3
    exact .inr ⟨g, cap, cur, rfl, hb, hg, by omega, h3, h4, by rw [← h5, List.take_take, Nat.min_eq_left hle]⟩
theorem grown_block {w w' : World} {A : Option Addr} {n c g : Nat} (h : w.grownBy w' (Value.slice A n c).ownBlock) (hg : g < w.heap.size) (hne : ∀ a, A = some a → a.block ≠ g) : w'.heap[g]? = w.heap[g]? := by
  refine h.block g hg ?_
  cases A with
  | none => simp [Value.ownBlock]
  | some b => have := hne b rfl; simp [Value.ownBlock]; omega
theorem rowIs_heap {w : World} {b n : Nat} {t : TypeId} {f : Nat → Value} (h : w.rowIs b t n f) : ∃ c, w.heap[b]? = some (.cells c t (0, 0)) := by
  obtain ⟨c, hc, _⟩ := h
  exact ⟨c, hc⟩
theorem ints_append (a b : List Nat) : ints (a ++ b) = ints a ++ ints b := by simp [ints]
theorem ints_len (a : List Nat) : (ints a).length = a.length := by simp [ints]
theorem ints_get {a : List Nat} {k x : Nat} (h : a[k]? = some x) : (ints a)[k]? = some (x : Int) := by simp [ints, h]
theorem ints_snoc_get (R : List Nat) (a : Nat) : (ints (R ++ [a]))[R.length]? = some (a : Int) := ints_get (by simp)
/-- one more that was seen -/
theorem row_see {w : World} {b n a : Nat} {t : TypeId} {S : List Nat} (h : w.rowIs b t n (fun j => .bool (decide (j ∈ S)))) : (w.setCell ⟨b, a, none⟩ (.bool true)).rowIs b t n (fun j => .bool (decide (j ∈ a :: S))) :=
  (h.set a (.bool true)).congr fun i hi => by
    by_cases e : i = a
    · subst e; simp
    · rw [if_neg e]; simp [e]

set_option maxRecDepth 100000 in
set_option maxHeartbeats 2000000 in
theorem hoccurs_any (A : Option Addr) (n cap : Nat) (l : List C) (what from_ : Nat) (w : World) (h : IsC w A n cap l) (hg : Good l) (hn : n ≤ 100000) (hw : what < n) (hf : from_ < n) :
    Calls Try.prog 62 #[.slice A n cap, .int .i64 what, .int .i64 from_] w (RetV w (.bool (rch l from_ what))) := by
  have hl := h.len
  have Hl := Lib.hid hl
  have Hg := Lib.hid hg
  have HC := Lib.hid h
  have hmk : ∀ w, (Instr.makeSlice 95 (.int .i64 (n : Int)) (.int .i64 (n : Int))).run Try.prog w = .ok (.slice (some ⟨w.heap.size, 0, none⟩) n n) (w.alloc (.cells (madeCells #[.bool false] n) 4)) := fun w =>
    run_make_row' 95 4 (.bool false) 1 Try.underlying95 infoB8 rfl .i64 .i64 n (by omega) (by omega) w
  have hstart := OcI.start (l := l) (what := what) (from_ := from_) (by omega)
  have Hstart := Lib.hid hstart
  clear hl hg h hstart
  go_enter Try.func62, Try.ntmps62
  go_wp2
  clear hmk
  go_loopg [8] (muO n [] [from_]) (fun k rv wr => ∃ (S R : List Nat) (m c' : Nat) (Ar : Option Addr), rv = .slice Ar m c' ∧ wr.ownsRow w.heap.size 3 1 (.slice Ar m c') m ((ints R).map (Value.int .i64)) ∧ wr.rowIs w.heap.size 4 n (fun j => .bool (decide (j ∈ S))) ∧ Hid (OcI l what from_ S R) ∧ Hid (muO n S R ≤ k ∧ k ≤ 7 * n + 1) ∧ Below w.heap.size w wr)
  case atStart =>
    refine ⟨[], [from_], 1, 1, some ⟨w.heap.size + 1, 0, none⟩, by simp, ?_, ?_, Hstart, Lib.hid ⟨Nat.le_refl _, by simp [muO]⟩, ((Below.refl _ _).alloc (Nat.le_refl _) _).alloc (by simp) _⟩
    · have := World.ownsRow_lit (w.alloc (.cells (madeCells #[.bool false] n) 4)) (e := 3) (size := 1) #[.int .i64 (from_ : Int)] 1 (Nat.le_refl _) (by simp [maxLen]) rfl
      simp at this
      exact own_lower this (by simp)
    · exact ((World.rowIs_made w (.bool false) n 4).congr fun i hi => by simp).alloc _
  case round =>
    obtain ⟨S, R, m, c', Ar, rfl, hown, hrow, hI, hmu, hb⟩ := hrel
    have hlen := hown.1
    simp [ints_len] at hlen
    rcases List.eq_nil_or_concat R with rfl | ⟨R', a, rfl⟩
    · obtain rfl : m = 0 := by simpa using hlen.symm
      have hno := (Hg.out.rch_no (p := from_) (q := what) (by rw [Hl.out]; exact hf)).2 hI.out.done
      have Hno := Lib.hid hno
      clear hno hlen
      go_wp2
      go_ret
      exact ⟨ret_bool Hno.out.symm, hb⟩
    · rw [List.concat_eq_append] at *
      obtain ⟨k, rfl⟩ : ∃ k, m = k + 1 := ⟨R'.length, by simpa using hlen.symm⟩
      have hkR : R'.length = k := by simpa using hlen
      have hra := hI.out.rl a (by simp)
      have han : a < n := by have := Hl.out; omega
      have hget : ((ints (R' ++ [a])).map (Value.int .i64))[k]? = some (.int .i64 (a : Int)) := by rw [List.getElem?_map, ← hkR, ints_snoc_get]; rfl
      obtain ⟨c0, hx0⟩ := rowIs_heap hrow
      have hne := own_ne hown hx0 (by intro cur he; simp at he)
      obtain ⟨gg, rfl⟩ : ∃ gg, Ar = some ⟨gg, 0, none⟩ := by
        obtain ⟨g, cap', hv, _⟩ := hown.form (by omega)
        injection hv with hv
        exact ⟨g, hv⟩
      have hne1 : gg ≠ w.heap.size := hne _ rfl
      have hl0 := (hown.cellAt k (by omega)).trans hget
      obtain ⟨hg1, hg2⟩ := hown.lt gg rfl
      have hcapk : k + 1 ≤ c' ∧ c' ≤ maxLen := by
        rcases hown.2 with ⟨h1, _⟩ | ⟨g, cap', cur, h1, _, _, h2, h3, _⟩
        · cases h1
        · injection h1 with e1 e2 e3; subst e3; exact ⟨h2, h3⟩
      have hcc1 := hcapk.1
      have hcc2 := hcapk.2
      unfold maxLen at hcc2
      have hcut := own_cut hown (m := k) (by omega)
      have hcutx : ((ints (R' ++ [a])).map (Value.int .i64)).take (k * 1) = (ints R').map (Value.int .i64) := by
        rw [ints_append, List.map_append, Nat.mul_one, List.take_append_of_le_length (by simp [ints_len]; omega), List.take_of_length_le (by simp [ints_len]; omega)]
      rw [hcutx] at hcut
      have hgs := hrow.lt
      have hs0 := hrow.cell (i := a) han
      have hs1 := hrow.frozen a
      have Hcut := Lib.hid hcut
      have Hown := Lib.hid hown
      have HkR := Lib.hid hkR
      have Hrow := Lib.hid hrow
      have Hx0 := Lib.hid hx0
      have Hra := Lib.hid hra
      clear hcapk hlen hget hne hcutx hcut hown hkR hrow hx0 hra
      by_cases haw : a = what
      · subst haw
        have hyes := (Hg.out.rch_iff (p := from_) (q := a) (by rw [Hl.out]; exact hf)).2 Hra.out.2
        have Hyes := Lib.hid hyes
        clear hyes
        go_wp2
        go_ret
        exact ⟨ret_bool Hyes.out.symm, hb⟩
      · have hd : ((a : Int) == (what : Int)) = false := by simp; omega
        have Haw := Lib.hid haw
        clear haw
        by_cases hin : a ∈ S
        · have hdi : decide (a ∈ S) = true := by simp [hin]
          rw [hdi] at hs0
          have hI2 := hI.out.pop hin
          have HI2 := Lib.hid hI2
          clear hdi hin hI2
          go_wp2
          go_roundg (muO n S R')
          case measure => have := hmu.out; simp only [muO, List.length_append, List.length_cons, List.length_nil] at this ⊢; omega
          case rel => exact ⟨S, R', k, c', _, rfl, Hcut.out, Hrow.out, HI2, Lib.hid ⟨Nat.le_refl _, by have := hmu.out; simp only [muO, List.length_append, List.length_cons, List.length_nil] at this ⊢; omega⟩, hb⟩
        · have hdi : decide (a ∈ S) = false := by simp [hin]
          rw [hdi] at hs0
          have hI2 := hI.out.push Hg.out.shp hin Haw.out
          have hmu2 := hI.out.mu_push Hg.out.shp hin
          have HI2 := Lib.hid hI2
          have Hmu2 := Lib.hid hmu2
          have hrow2 := row_see (a := a) Hrow.out
          have hbs : Below w.heap.size w (wr.setCell ⟨w.heap.size, a, none⟩ (.bool true)) := hb.setCell (Nat.le_refl _) _
          have hss : (wr.setCell ⟨w.heap.size, a, none⟩ (.bool true)).heap.size = wr.heap.size := by simp
          have hcut2 : (wr.setCell ⟨w.heap.size, a, none⟩ (.bool true)).ownsRow w.heap.size 3 1 (.slice (some ⟨gg, 0, none⟩) k c') k ((ints R').map (Value.int .i64)) := own_at Hcut.out fun a' ha' => by cases ha'; exact set_other hne1 _
          have hle := hleads_any A n cap l a (wr.setCell ⟨w.heap.size, a, none⟩ (.bool true)) (HC.out.below hbs) Hg.out.shp hn han
          have Hle := Lib.hid hle
          have Hcut2 := Lib.hid hcut2
          have Hrow2 := Lib.hid hrow2
          have hll6 := leads_len Hg.out.shp a
          have Hll6 := Lib.hid hll6
          have hkn : k ≤ 1000000 := by have h1 := hmu.out; have h2 := HkR.out; simp only [muO, List.length_append, List.length_cons, List.length_nil] at h1; omega
          clear hdi hin hI2 hmu2 hle hcut2 hrow2 hll6
          go_wp2_with (first
            | (go_at_call 46; go_must (refine Hle.out.mono ?_); rintro e w1 ⟨Al, nl, cl, rfl, hIl, hb1⟩; have hnl : nl ≤ 6 := (by have h1 := hIl.len; have h2 := Hll6.out; rw [ints_len] at h1; omega); have hsz1 := hb1.size; rw [hss] at hsz1)
            | (at_builtin; go_must (refine wpList_append_sl rfl (.tmp 40) (.tmp 43) 23 rfl w.heap.size 3 Try.underlying23 infoI rfl (by omega) rfl (own_below Hcut2.out hb1) rfl hIl.sl (oneI _ _) (by omega) (by omega) (by omega) ?_); intro A' cap' w2 hown2 hb2 hgr hblk))
          have hx1 := (hb1.block w.heap.size (by rw [hss]; exact hgs))
          have hx2 := grown_block (g := w.heap.size) hgr (by omega) (fun a' ha' => by cases ha'; exact hne1)
          go_roundg (muO n (a :: S) (R' ++ leads l a))
          case measure => have h1 := hmu.out; have h2 := Hmu2.out; rw [Hl.out] at h2; omega
          case rel => exact ⟨a :: S, R' ++ leads l a, _, _, _, rfl, by rw [ints_append, List.map_append]; exact hown2, (Hrow2.out.of_block hx1).of_block hx2, HI2, Lib.hid ⟨Nat.le_refl _, by have h1 := hmu.out; have h2 := Hmu2.out; rw [Hl.out] at h2; omega⟩, (hbs.trans (hb1.mono (by rw [hss]; omega))).trans hb2⟩
end Go.Proofs.Ytlndjooddkjnoaa
