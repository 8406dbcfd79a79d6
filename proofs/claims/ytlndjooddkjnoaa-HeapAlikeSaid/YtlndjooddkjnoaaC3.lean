/- Texts of this proof that belong together: words of memory, plain laws, short walks. -/
import Derived.Test.YtlndjooddkjnoaaH3
import Derived.Deep.LoopGhost
import Derived.Deep.OwnRows
import Derived.Test.YtlndjooddkjnoaaB1
import Derived.StillTailTactics
import Derived.Deep.CutBlock
set_option linter.unusedVariables false
set_option linter.unusedSimpArgs false
/- The walk of the document's Leads. -/
namespace Go.Proofs.Ytlndjooddkjnoaa
open Go.RowKit

theorem own_lit0 {Y : World} {e : TypeId} {size base g : Nat} (hg : Y.heap.size = g) (h : base ≤ g) : (Y.alloc (.cells #[] e)).ownsRow base e size (.slice (some ⟨g, 0, none⟩) 0 0) 0 [] := by
  subst hg
  exact own_lower (World.ownsRow_lit Y #[] 0 (Nat.le_refl _) (by simp [maxLen]) (by simp)) h
set_option maxRecDepth 100000 in
set_option maxHeartbeats 2000000 in
theorem qLeads_any (A B : Option Addr) (n c m d : Nat) (r : Int) (l : List C) (p : Nat) (w : World) (h : IsC w A n c l) (hs : shpB l = true) (hn : n ≤ 100000) (hp : p < n) :
    Calls Try.prog 82 #[.agg #[.slice A n c, .slice B m d, .int .i64 r], .int .i64 p] w (RetI w (ints (leads l p))) := by
  have hl := h.len
  have hok := shp_at hs (p := p) (by omega)
  have hll : ∀ q ∈ leads l p, q < 1000000 := fun q hq => by have := leads_lt hs hq; omega
  have hwf := ints_wf hll
  have Hwf := Lib.hid hwf
  clear hll hl hwf
  obtain ⟨x, hc⟩ := h.get hp
  have hC := h
  obtain ⟨b, off, rfl, hbb, hwc, h0, h1, h2⟩ := h.at_ hc
  have hs := sAt_get hc
  rw [hs] at hok
  have Hs := Lib.hid hs
  have HC := Lib.hid hC
  clear hs hc h hC
  by_cases k4 : x.kind = 4
  · have ht := ok_top hok k4
    have hle := leads_top (l := l) (p := p) (by rw [Hs.out]; exact k4)
    rw [Hs.out] at hle
    obtain ⟨a, ha⟩ : ∃ a : Nat, x.n = a := ⟨x.n.toNat, by omega⟩
    have ha6 : a ≤ 6 := by omega
    rw [ha] at h2 hle
    simp only [Int.toNat_natCast] at hle
    rw [hle] at Hwf ⊢
    have hk3 : (x.kind == 3) = false := by simp [k4]
    have hk1 : (x.kind == 1) = false := by simp [k4]
    have hk4 : (x.kind == 4) = true := by simp [k4]
    clear k4 ht hle ha hok
    go_enter Try.func82, Try.ntmps82
    go_wp2
    go_loopw [6, 7] (fun o i wr => ∃ (k c' : Nat) (Ao : Option Addr), k ≤ a ∧ i = .int .i64 (k + 1) ∧ o = .slice Ao k c' ∧ wr.ownsRow w.heap.size 3 1 (.slice Ao k c') k ((ints ((List.range k).map fun i => p + 1 + i)).map (Value.int .i64)) ∧ Below w.heap.size w wr ∧ wr.heap[w.heap.size + 2]? = some (.cells #[.int .i64 x.kind, .string x.name, .int .i64 a] 68 (0, 0))) (fun _ i _ => a + 1 - (intOf i).toNat)
    case atStart => exact ⟨0, 0, _, Nat.zero_le _, rfl, rfl, (own_lit0 (by first | omega | (simp; done) | (simp; omega)) (by first | omega | (simp; done) | (simp; omega))).alloc _, (((Below.refl _ _).alloc (Nat.le_refl _) _).alloc (by first | omega | (simp; done) | (simp; omega)) _).alloc (by first | omega | (simp; done) | (simp; omega)) _, alloc_at (by first | omega | (simp; done) | (simp; omega))⟩
    case round =>
      obtain ⟨k, c', Ao, hk, rfl, rfl, hown, hb, hx⟩ := hrel
      have hne := own_ne hown hx (by intro cur he; simp at he)
      obtain ⟨hc, hf⟩ := bcell hb
      obtain ⟨y0, y1, y2, yl⟩ := open3 hx
      have Hx := Lib.hid hx
      have Hne := Lib.hid hne
      clear hx hne
      by_cases hlt : k < a
      · have hlt' : decide ((k : Int) + 1 ≤ (a : Int)) = true := by simp; omega
        have hsum : IntKind.i64.wrap ((p : Int) + (k + 1)) = ((p + 1 + k : Nat) : Int) := by rw [IntWalk.i64_in _ (by omega)]; omega
        go_wp2_with (first
          | (at_builtin; go_must (refine wpList_append_own1 rfl (.tmp 44) (.tmp 48) 23 rfl w.heap.size 3 Try.underlying23 infoI rfl (by omega) rfl (.inr (hown.alloc _)) rfl (Sl.lit _ _ [.int .i64 ((p + 1 + k : Nat) : Int)] 3 1 1 (by first | rfl | simp) rfl (by simp [maxLen])) (one1 rfl) (by omega) (by omega) (by omega) (by have := hb.size; first | omega | (simp; done) | (simp; omega)) ?_); intro A' cap' w1 hown1 hb1 hap))
        have hb2 : Below w.heap.size w w1 := Below.trans (by repeat (first | assumption | exact Below.refl _ _ | refine Below.drew ?_ | refine below_drewN ?_ _ | refine Below.alloc ?_ ?_ _ | refine Below.setCell ?_ ?_ _ | (apply Below.size; assumption) | (simp; done) | (simp; omega) | (have hz := hb.size; simp; omega) | (have hz := hb.size; omega) | omega)) hb1
        have hx2 := (hap.old _ (by first | omega | (simp; done) | (simp; omega)) Hne.out).trans ((alloc_past yl).trans Hx.out)
        go_roundw
        case rel => exact ⟨k + 1, cap', A', by omega, by go_num, rfl, by rw [ints_range_succ, List.map_append]; exact hown1, hb2, hx2⟩
        case measure => simp [intOf]; omega
      · have hka : k = a := by omega
        subst hka
        have hres : IsI wr Ao k c' (ints ((List.range k).map fun i => p + 1 + i)) := ⟨Sl.own hown (by omega), Hwf.out⟩
        have hlt' : decide ((k : Int) + 1 ≤ (k : Int)) = false := by simp; omega
        go_wp2
        go_ret
        exact ⟨_, _, _, rfl, hres, hb⟩
  · have hk4 : (x.kind == 4) = false := by simp [k4]
    cases ho : onB l p
    · have hb0 : bndB l p = false := by rw [on_bnd] at ho; simp at ho; exact ho.1
      have hk : (x.kind == 3) = false := by have := Hs.out; rw [on_bnd] at ho; simp at ho; rw [this] at ho; simpa using ho.2
      have hle := leads_no (l := l) (p := p) ho (by rw [Hs.out]; exact k4)
      rw [hle]
      have hb1 := hb0
      unfold bndB at hb1
      rw [Hs.out] at hb1
      by_cases k1 : x.kind = 1
      · have hk1 : (x.kind == 1) = true := by simp [k1]
        rw [hk1] at hb1
        simp at hb1
        have he : (x.n == (p : Int)) = true := by simp [hb1]
        have he2 : (x.n != (p : Int)) = false := by simp [hb1]
        clear hb0 k4 hle hok ho k1 hb1
        go_enter Try.func82, Try.ntmps82
        go_wp2
        go_loopw [6, 7] (fun o i wr => o = .slice (some ⟨w.heap.size + 1, 0, none⟩) 0 0 ∧ i = .int .i64 1 ∧ Below w.heap.size w wr ∧ wr.heap[w.heap.size + 2]? = some (.cells #[.int .i64 x.kind, .string x.name, .int .i64 x.n] 68 (0, 0))) (fun _ i _ => 0)
        case atStart => exact ⟨by simp, rfl, (((Below.refl _ _).alloc (Nat.le_refl _) _).alloc (by first | omega | (simp; done) | (simp; omega)) _).alloc (by first | omega | (simp; done) | (simp; omega)) _, alloc_at (by first | omega | (simp; done) | (simp; omega))⟩
        case round =>
          obtain ⟨rfl, rfl, hb, hx⟩ := hrel
          obtain ⟨y0, y1, y2, yl⟩ := open3 hx
          clear hx
          go_wp2
          go_ret
          exact ⟨_, _, _, rfl, IsI.nil _ _ 0 (by simp [maxLen]), hb⟩
      · have hk1 : (x.kind == 1) = false := by simp [k1]
        clear hb0 k4 hle hok ho k1 hb1
        go_enter Try.func82, Try.ntmps82
        go_wp2
        go_loopw [6, 7] (fun o i wr => o = .slice (some ⟨w.heap.size + 1, 0, none⟩) 0 0 ∧ i = .int .i64 1 ∧ Below w.heap.size w wr ∧ wr.heap[w.heap.size + 2]? = some (.cells #[.int .i64 x.kind, .string x.name, .int .i64 x.n] 68 (0, 0))) (fun _ i _ => 0)
        case atStart => exact ⟨by simp, rfl, (((Below.refl _ _).alloc (Nat.le_refl _) _).alloc (by first | omega | (simp; done) | (simp; omega)) _).alloc (by first | omega | (simp; done) | (simp; omega)) _, alloc_at (by first | omega | (simp; done) | (simp; omega))⟩
        case round =>
          obtain ⟨rfl, rfl, hb, hx⟩ := hrel
          obtain ⟨y0, y1, y2, yl⟩ := open3 hx
          clear hx
          go_wp2
          go_ret
          exact ⟨_, _, _, rfl, IsI.nil _ _ 0 (by simp [maxLen]), hb⟩
    · have hle := leads_on ho
      have hnn : 0 ≤ x.n := by
        rcases on_kind ho with ⟨k, _⟩ | k
        · have h2 := ok_ref hok (by rw [← Hs.out]; exact k); omega
        · have h2 := ok_ptr hok (by rw [← Hs.out]; exact k); omega
      have hnx2 : nx l p = x.n.toNat := by unfold nx; rw [Hs.out]
      obtain ⟨j, hm⟩ : ∃ j : Nat, x.n = j := ⟨x.n.toNat, by omega⟩
      rw [hle, hnx2, hm] at Hwf
      rw [hle, hnx2, hm]
      simp only [Int.toNat_natCast] at Hwf ⊢
      cases hb0 : bndB l p
      · have hk : (x.kind == 3) = true := by have := Hs.out; rw [on_bnd, hb0] at ho; simp at ho; rw [this] at ho; simpa using ho
        rw [hm] at h2
        clear hb0 k4 hle hok ho hm hnx2 hnn
        go_enter Try.func82, Try.ntmps82
        go_wp2_with (first
          | (at_builtin; go_must (refine wpList_append_own1 rfl (.tmp 28) (.tmp 31) 23 rfl w.heap.size 3 Try.underlying23 infoI rfl (by omega) rfl (.inl ⟨_, rfl, rfl, rfl⟩) rfl (Sl.lit _ _ [.int .i64 (j : Int)] 3 1 1 (by first | rfl | simp) rfl (by simp [maxLen])) (one1 rfl) (by omega) (by omega) (by omega) (by first | omega | (simp; done) | (simp; omega)) ?_); intro A' cap' w1 hown1 hb1 hap))
        have hb2 : Below w.heap.size w w1 := Below.trans ((((Below.refl _ _).alloc (Nat.le_refl _) _).alloc (by first | omega | (simp; done) | (simp; omega)) _).alloc (by first | omega | (simp; done) | (simp; omega)) _ |>.alloc (by first | omega | (simp; done) | (simp; omega)) _) hb1
        have hx2 := (hap.old (w.heap.size + 2) (by first | omega | (simp; done) | (simp; omega)) (by intro a ha; cases ha; first | omega | (simp; done) | (simp; omega))).trans ((alloc_past (by first | omega | (simp; done) | (simp; omega))).trans (alloc_at (by first | omega | (simp; done) | (simp; omega))))
        obtain ⟨y0, y1, y2, yl⟩ := open3 hx2
        have Hx2 := Lib.hid hx2
        clear hap hx2
        go_loopw [6, 7] (fun o i wr => o = .slice A' 1 cap' ∧ i = .int .i64 1 ∧ wr = w1) (fun _ i _ => 0)
        case atStart => exact ⟨rfl, rfl, rfl⟩
        case round =>
          obtain ⟨rfl, rfl, rfl⟩ := hrel
          go_wp2
          go_ret
          exact ⟨_, _, _, rfl, ⟨Sl.own hown1 (by omega), Hwf.out⟩, hb2⟩
      · have hb1 := hb0
        unfold bndB at hb1
        rw [Hs.out] at hb1
        simp at hb1
        obtain ⟨hb1, hb2⟩ := hb1
        have hk : (x.kind == 3) = false := by simp [hb1]
        have hk1 : (x.kind == 1) = true := by simp [hb1]
        have he : ((j : Int) == (p : Int)) = false := by simp; omega
        have he2 : ((j : Int) != (p : Int)) = true := by simp; omega
        rw [hm] at h2
        clear hb0 k4 hle hok ho hm hnx2 hnn hb1 hb2
        go_enter Try.func82, Try.ntmps82
        go_wp2_with (first
          | (at_builtin; go_must (refine wpList_append_own1 rfl (.tmp 28) (.tmp 31) 23 rfl w.heap.size 3 Try.underlying23 infoI rfl (by omega) rfl (.inl ⟨_, rfl, rfl, rfl⟩) rfl (Sl.lit _ _ [.int .i64 (j : Int)] 3 1 1 (by first | rfl | simp) rfl (by simp [maxLen])) (one1 rfl) (by omega) (by omega) (by omega) (by first | omega | (simp; done) | (simp; omega)) ?_); intro A' cap' w1 hown1 hb1 hap))
        have hb2 : Below w.heap.size w w1 := Below.trans ((((Below.refl _ _).alloc (Nat.le_refl _) _).alloc (by first | omega | (simp; done) | (simp; omega)) _).alloc (by first | omega | (simp; done) | (simp; omega)) _ |>.alloc (by first | omega | (simp; done) | (simp; omega)) _) hb1
        have hx2 := (hap.old (w.heap.size + 2) (by first | omega | (simp; done) | (simp; omega)) (by intro a ha; cases ha; first | omega | (simp; done) | (simp; omega))).trans ((alloc_past (by first | omega | (simp; done) | (simp; omega))).trans (alloc_at (by first | omega | (simp; done) | (simp; omega))))
        obtain ⟨y0, y1, y2, yl⟩ := open3 hx2
        have Hx2 := Lib.hid hx2
        clear hap hx2
        go_loopw [6, 7] (fun o i wr => o = .slice A' 1 cap' ∧ i = .int .i64 1 ∧ wr = w1) (fun _ i _ => 0)
        case atStart => exact ⟨rfl, rfl, rfl⟩
        case round =>
          obtain ⟨rfl, rfl, rfl⟩ := hrel
          go_wp2
          go_ret
          exact ⟨_, _, _, rfl, ⟨Sl.own hown1 (by omega), Hwf.out⟩, hb2⟩
end Go.Proofs.Ytlndjooddkjnoaa

/- The walk of the code's search: does a place lead to another one? -/
namespace Go.Proofs.Ytlndjooddkjnoaa
open Go.RowKit

theorem infoB8 : (Try.prog.info? 4).map (fun i => (i.zero, i.size, i.bytes)) = some (some (.bool false), 1, 1) := by kernel_rfl
theorem own_cut {w : World} {base size n cap m : Nat} {e : TypeId} {A : Option Addr} {xs : List Value} (h : w.ownsRow base e size (.slice A n cap) n xs) (hm : m ≤ n) : w.ownsRow base e size (.slice A m cap) m (xs.take (m * size)) := by
  have hle : m * size ≤ n * size := Nat.mul_le_mul_right _ hm
  refine ⟨by rw [List.length_take, h.1]; omega, ?_⟩
  rcases h.2 with ⟨h1, h2⟩ | ⟨g, cap', cur, h1, hb, hg, h2, h3, h4, h5⟩
  · injection h1 with e1 e2 e3
    obtain rfl : m = 0 := by omega
    exact .inl ⟨by rw [e1, e3], rfl⟩
  · injection h1 with e1 e2 e3
    subst e1
    subst e3
    exact .inr ⟨g, cap, cur, rfl, hb, hg, by omega, h3, h4, by rw [← h5, List.take_take, Nat.min_eq_left hle]⟩
theorem grown_block {w w' : World} {A : Option Addr} {n c g : Nat} (h : w.grownBy w' (Value.slice A n c).ownBlock) (hg : g < w.heap.size) (hne : ∀ a, A = some a → a.block ≠ g) : w'.heap[g]? = w.heap[g]? := by
  refine h.block g hg ?_
  cases A with
  | none => simp [Value.ownBlock]
  | some b => have := hne b rfl; simp [Value.ownBlock]; omega
theorem rowIs_heap {w : World} {b n : Nat} {t : TypeId} {f : Nat → Value} (h : w.rowIs b t n f) : ∃ c, w.heap[b]? = some (.cells c t (0, 0)) := by
  obtain ⟨c, hc, _⟩ := h
  exact ⟨c, hc⟩
theorem ints_append (a b : List Nat) : ints (a ++ b) = ints a ++ ints b := by simp [ints]
theorem ints_len (a : List Nat) : (ints a).length = a.length := by simp [ints]
theorem ints_get {a : List Nat} {k x : Nat} (h : a[k]? = some x) : (ints a)[k]? = some (x : Int) := by simp [ints, h]
theorem ints_snoc_get (R : List Nat) (a : Nat) : (ints (R ++ [a]))[R.length]? = some (a : Int) := ints_get (by simp)
/-- one more that was seen -/
theorem row_see {w : World} {b n a : Nat} {t : TypeId} {S : List Nat} (h : w.rowIs b t n (fun j => .bool (decide (j ∈ S)))) : (w.setCell ⟨b, a, none⟩ (.bool true)).rowIs b t n (fun j => .bool (decide (j ∈ a :: S))) :=
  (h.set a (.bool true)).congr fun i hi => by
    by_cases e : i = a
    · subst e; simp
    · rw [if_neg e]; simp [e]

set_option maxRecDepth 100000 in
set_option maxHeartbeats 2000000 in
theorem hoccurs_any (A : Option Addr) (n cap : Nat) (l : List C) (what from_ : Nat) (w : World) (h : IsC w A n cap l) (hg : Good l) (hn : n ≤ 100000) (hw : what < n) (hf : from_ < n) :
    Calls Try.prog 62 #[.slice A n cap, .int .i64 what, .int .i64 from_] w (RetV w (.bool (rch l from_ what))) := by
  have hl := h.len
  have Hl := Lib.hid hl
  have Hg := Lib.hid hg
  have HC := Lib.hid h
  have hmk : ∀ w, (Instr.makeSlice 95 (.int .i64 (n : Int)) (.int .i64 (n : Int))).run Try.prog w = .ok (.slice (some ⟨w.heap.size, 0, none⟩) n n) (w.alloc (.cells (madeCells #[.bool false] n) 4)) := fun w =>
    run_make_row' 95 4 (.bool false) 1 Try.underlying95 infoB8 rfl .i64 .i64 n (by omega) (by omega) w
  have hstart := OcI.start (l := l) (what := what) (from_ := from_) (by omega)
  have Hstart := Lib.hid hstart
  clear hl hg h hstart
  go_enter Try.func62, Try.ntmps62
  go_wp2
  clear hmk
  go_loopg [8] (muO n [] [from_]) (fun k rv wr => ∃ (S R : List Nat) (m c' : Nat) (Ar : Option Addr), rv = .slice Ar m c' ∧ wr.ownsRow w.heap.size 3 1 (.slice Ar m c') m ((ints R).map (Value.int .i64)) ∧ wr.rowIs w.heap.size 4 n (fun j => .bool (decide (j ∈ S))) ∧ Hid (OcI l what from_ S R) ∧ Hid (muO n S R ≤ k ∧ k ≤ 7 * n + 1) ∧ Below w.heap.size w wr)
  case atStart =>
    refine ⟨[], [from_], 1, 1, some ⟨w.heap.size + 1, 0, none⟩, by simp, ?_, ?_, Hstart, Lib.hid ⟨Nat.le_refl _, by simp [muO]⟩, ((Below.refl _ _).alloc (Nat.le_refl _) _).alloc (by simp) _⟩
    · have := World.ownsRow_lit (w.alloc (.cells (madeCells #[.bool false] n) 4)) (e := 3) (size := 1) #[.int .i64 (from_ : Int)] 1 (Nat.le_refl _) (by simp [maxLen]) rfl
      simp at this
      exact own_lower this (by simp)
    · exact ((World.rowIs_made w (.bool false) n 4).congr fun i hi => by simp).alloc _
  case round =>
    obtain ⟨S, R, m, c', Ar, rfl, hown, hrow, hI, hmu, hb⟩ := hrel
    have hlen := hown.1
    simp [ints_len] at hlen
    rcases List.eq_nil_or_concat R with rfl | ⟨R', a, rfl⟩
    · obtain rfl : m = 0 := by simpa using hlen.symm
      have hno := (Hg.out.rch_no (p := from_) (q := what) (by rw [Hl.out]; exact hf)).2 hI.out.done
      have Hno := Lib.hid hno
      clear hno hlen
      go_wp2
      go_ret
      exact ⟨ret_bool Hno.out.symm, hb⟩
    · rw [List.concat_eq_append] at *
      obtain ⟨k, rfl⟩ : ∃ k, m = k + 1 := ⟨R'.length, by simpa using hlen.symm⟩
      have hkR : R'.length = k := by simpa using hlen
      have hra := hI.out.rl a (by simp)
      have han : a < n := by have := Hl.out; omega
      have hget : ((ints (R' ++ [a])).map (Value.int .i64))[k]? = some (.int .i64 (a : Int)) := by rw [List.getElem?_map, ← hkR, ints_snoc_get]; rfl
      obtain ⟨c0, hx0⟩ := rowIs_heap hrow
      have hne := own_ne hown hx0 (by intro cur he; simp at he)
      obtain ⟨gg, rfl⟩ : ∃ gg, Ar = some ⟨gg, 0, none⟩ := by
        obtain ⟨g, cap', hv, _⟩ := hown.form (by omega)
        injection hv with hv
        exact ⟨g, hv⟩
      have hne1 : gg ≠ w.heap.size := hne _ rfl
      have hl0 := (hown.cellAt k (by omega)).trans hget
      obtain ⟨hg1, hg2⟩ := hown.lt gg rfl
      have hcapk : k + 1 ≤ c' ∧ c' ≤ maxLen := by
        rcases hown.2 with ⟨h1, _⟩ | ⟨g, cap', cur, h1, _, _, h2, h3, _⟩
        · cases h1
        · injection h1 with e1 e2 e3; subst e3; exact ⟨h2, h3⟩
      have hcc1 := hcapk.1
      have hcc2 := hcapk.2
      unfold maxLen at hcc2
      have hcut := own_cut hown (m := k) (by omega)
      have hcutx : ((ints (R' ++ [a])).map (Value.int .i64)).take (k * 1) = (ints R').map (Value.int .i64) := by
        rw [ints_append, List.map_append, Nat.mul_one, List.take_append_of_le_length (by simp [ints_len]; omega), List.take_of_length_le (by simp [ints_len]; omega)]
      rw [hcutx] at hcut
      have hgs := hrow.lt
      have hs0 := hrow.cell (i := a) han
      have hs1 := hrow.frozen a
      have Hcut := Lib.hid hcut
      have Hown := Lib.hid hown
      have HkR := Lib.hid hkR
      have Hrow := Lib.hid hrow
      have Hx0 := Lib.hid hx0
      have Hra := Lib.hid hra
      clear hcapk hlen hget hne hcutx hcut hown hkR hrow hx0 hra
      by_cases haw : a = what
      · subst haw
        have hyes := (Hg.out.rch_iff (p := from_) (q := a) (by rw [Hl.out]; exact hf)).2 Hra.out.2
        have Hyes := Lib.hid hyes
        clear hyes
        go_wp2
        go_ret
        exact ⟨ret_bool Hyes.out.symm, hb⟩
      · have hd : ((a : Int) == (what : Int)) = false := by simp; omega
        have Haw := Lib.hid haw
        clear haw
        by_cases hin : a ∈ S
        · have hdi : decide (a ∈ S) = true := by simp [hin]
          rw [hdi] at hs0
          have hI2 := hI.out.pop hin
          have HI2 := Lib.hid hI2
          clear hdi hin hI2
          go_wp2
          go_roundg (muO n S R')
          case measure => have := hmu.out; simp only [muO, List.length_append, List.length_cons, List.length_nil] at this ⊢; omega
          case rel => exact ⟨S, R', k, c', _, rfl, Hcut.out, Hrow.out, HI2, Lib.hid ⟨Nat.le_refl _, by have := hmu.out; simp only [muO, List.length_append, List.length_cons, List.length_nil] at this ⊢; omega⟩, hb⟩
        · have hdi : decide (a ∈ S) = false := by simp [hin]
          rw [hdi] at hs0
          have hI2 := hI.out.push Hg.out.shp hin Haw.out
          have hmu2 := hI.out.mu_push Hg.out.shp hin
          have HI2 := Lib.hid hI2
          have Hmu2 := Lib.hid hmu2
          have hrow2 := row_see (a := a) Hrow.out
          have hbs : Below w.heap.size w (wr.setCell ⟨w.heap.size, a, none⟩ (.bool true)) := hb.setCell (Nat.le_refl _) _
          have hss : (wr.setCell ⟨w.heap.size, a, none⟩ (.bool true)).heap.size = wr.heap.size := by simp
          have hcut2 : (wr.setCell ⟨w.heap.size, a, none⟩ (.bool true)).ownsRow w.heap.size 3 1 (.slice (some ⟨gg, 0, none⟩) k c') k ((ints R').map (Value.int .i64)) := own_at Hcut.out fun a' ha' => by cases ha'; exact set_other hne1 _
          have hle := hleads_any A n cap l a (wr.setCell ⟨w.heap.size, a, none⟩ (.bool true)) (HC.out.below hbs) Hg.out.shp hn han
          have Hle := Lib.hid hle
          have Hcut2 := Lib.hid hcut2
          have Hrow2 := Lib.hid hrow2
          have hll6 := leads_len Hg.out.shp a
          have Hll6 := Lib.hid hll6
          have hkn : k ≤ 1000000 := by have h1 := hmu.out; have h2 := HkR.out; simp only [muO, List.length_append, List.length_cons, List.length_nil] at h1; omega
          clear hdi hin hI2 hmu2 hle hcut2 hrow2 hll6
          go_wp2_with (first
            | (go_at_call 46; go_must (refine Hle.out.mono ?_); rintro e w1 ⟨Al, nl, cl, rfl, hIl, hb1⟩; have hnl : nl ≤ 6 := (by have h1 := hIl.len; have h2 := Hll6.out; rw [ints_len] at h1; omega); have hsz1 := hb1.size; rw [hss] at hsz1)
            | (at_builtin; go_must (refine wpList_append_sl rfl (.tmp 40) (.tmp 43) 23 rfl w.heap.size 3 Try.underlying23 infoI rfl (by omega) rfl (own_below Hcut2.out hb1) rfl hIl.sl (oneI _ _) (by omega) (by omega) (by omega) ?_); intro A' cap' w2 hown2 hb2 hgr hblk))
          have hx1 := (hb1.block w.heap.size (by rw [hss]; exact hgs))
          have hx2 := grown_block (g := w.heap.size) hgr (by omega) (fun a' ha' => by cases ha'; exact hne1)
          go_roundg (muO n (a :: S) (R' ++ leads l a))
          case measure => have h1 := hmu.out; have h2 := Hmu2.out; rw [Hl.out] at h2; omega
          case rel => exact ⟨a :: S, R' ++ leads l a, _, _, _, rfl, by rw [ints_append, List.map_append]; exact hown2, (Hrow2.out.of_block hx1).of_block hx2, HI2, Lib.hid ⟨Nat.le_refl _, by have h1 := hmu.out; have h2 := Hmu2.out; rw [Hl.out] at h2; omega⟩, (hbs.trans (hb1.mono (by rw [hss]; omega))).trans hb2⟩
end Go.Proofs.Ytlndjooddkjnoaa

/- The walk of the document's search: which places does a place lead to? -/
namespace Go.Proofs.Ytlndjooddkjnoaa
open Go.RowKit

/-- a row of truths -/
def RetBs (w : World) (n : Nat) (f : Nat → Bool) (e : Ending) (w' : World) : Prop := ∃ g, e = .returned (.slice (some ⟨g, 0, none⟩) n n) ∧ w.heap.size ≤ g ∧ w'.rowIs g 4 n (fun j => .bool (f j)) ∧ Below w.heap.size w w'
theorem cut1 {w : World} {gg m c' : Nat} {a : Nat} {R : List Nat} (h : Sl w 1 (some ⟨gg, 0, none⟩) (m + 1) c' ((ints (a :: R)).map (Value.int .i64))) :
    (c' = 1 → m = 0 ∧ R = []) ∧ (c' ≠ 1 → Sl w 1 (some ⟨gg, 1, none⟩) m (c' - 1) ((ints R).map (Value.int .i64))) := by
  have hcap := h.hcap
  have hl := h.len
  simp [ints_len] at hl
  refine ⟨fun hc => ?_, fun hc => ?_⟩
  · have : m = 0 := by omega
    subst this
    exact ⟨rfl, List.eq_nil_of_length_eq_zero (by omega)⟩
  · have := h.cut (lo := 1) (hi := m + 1) (by omega) (Nat.le_refl _) (by omega)
    rw [if_neg hc] at this
    have e : ((ints (a :: R)).map (Value.int .i64)).drop (1 * 1) = (ints R).map (Value.int .i64) := by simp [ints]
    rw [e, List.take_of_length_le (by simp [ints_len]; omega)] at this
    simpa [Addr.add] using this

theorem row_ne {w : World} {g n b o : Nat} {t : TypeId} {f : Nat → Bool} {x : Int} {k : IntKind} (h : w.rowIs g t n (fun j => .bool (f j))) (hc : w.cell? ⟨b, o, none⟩ = some (.int k x)) : b ≠ g := by
  rintro rfl
  obtain ⟨c, hb, hn, hf⟩ := h
  rw [cells_of hb] at hc
  have hlt := (Array.getElem?_eq_some_iff.1 hc).1
  have := hf o (by omega)
  rw [hc] at this
  cases this
set_option maxRecDepth 100000 in
set_option maxHeartbeats 4000000 in
theorem qReach_any (A B : Option Addr) (n c m d : Nat) (r : Int) (l : List C) (p : Nat) (w : World) (h : IsC w A n c l) (hs : shpB l = true) (hn : n ≤ 100000) (hp : p < n) :
    Calls Try.prog 66 #[.agg #[.slice A n c, .slice B m d, .int .i64 r], .int .i64 p] w (RetBs w n (pathB l p)) := by
  have hl := h.len
  have Hl := Lib.hid hl
  have Hs := Lib.hid hs
  have hmk : ∀ w, (Instr.makeSlice 95 (.int .i64 (n : Int)) (.int .i64 (n : Int))).run Try.prog w = .ok (.slice (some ⟨w.heap.size, 0, none⟩) n n) (w.alloc (.cells (madeCells #[.bool false] n) 4)) := fun w =>
    run_make_row' 95 4 (.bool false) 1 Try.underlying95 infoB8 rfl .i64 .i64 n (by omega) (by omega) w
  have hstart := ReI.start (l := l) (from_ := p) (by omega)
  have Hstart := Lib.hid hstart
  have Hn0 : Hid (w.heap.size ≤ w.heap.size) := Nat.le_refl _
  clear hstart hl hs
  go_enter Try.func66, Try.ntmps66
  go_upto_region 1 with fail
  refine wp_world' (Φ := fun X => Below w.heap.size w X ∧ X.heap.size = w.heap.size + 1 ∧ X.heap[w.heap.size]? = some (.cells #[.slice A n c, .slice B m d, .int .i64 r] 25 (0, 0))) ⟨(Below.refl _ _).alloc (Nat.le_refl _) _, by simp, alloc_at rfl⟩ ?_
  rintro X ⟨hbX, hX1, x0⟩
  have hCX := h.below hbX
  have HC := Lib.hid hCX
  have HbX := Lib.hid hbX
  have hwX : w.heap.size ≤ X.heap.size := by omega
  obtain ⟨g0, hg0⟩ : ∃ g0, g0 = w.heap.size := ⟨_, rfl⟩
  rw [← hg0] at x0 ⊢
  have hX2 : g0 < X.heap.size := by omega
  clear hX1 hbX hCX h hg0
  obtain ⟨y0, y1, y2, yl⟩ := open3 x0
  have HX0 := Lib.hid x0
  clear x0
  obtain ⟨gs, hgs⟩ : ∃ gs, gs = X.heap.size := ⟨_, rfl⟩
  go_upto_region 2 with fail
  refine wp_world' (Φ := fun Y => Below X.heap.size X Y ∧ Y.heap.size = X.heap.size + 2 ∧ Y.rowIs X.heap.size 4 n (fun j => .bool (decide (j ∈ ([] : List Nat)))) ∧ Y.ownsRow X.heap.size 3 1 (.slice (some ⟨X.heap.size + 1, 0, none⟩) 1 1) 1 ((ints [p]).map (Value.int .i64)))
    ⟨((Below.refl _ _).alloc (Nat.le_refl _) _).alloc (by simp) _, by simp, ((World.rowIs_made X (.bool false) n 4).congr fun i hi => by simp).alloc _, ?_⟩ ?_
  · have := World.ownsRow_lit (X.alloc (.cells (madeCells #[.bool false] n) 4)) (e := 3) (size := 1) #[.int .i64 (p : Int)] 1 (Nat.le_refl _) (by simp [maxLen]) rfl
    simp at this
    exact own_lower this (by simp)
  rintro Y ⟨hbY, hY1, hrY, hoY⟩
  clear hmk
  rw [← hgs] at hbY hY1 hrY hoY yl hX2 hwX ⊢
  have hrY2 := row_see (a := p) hrY
  have hgsY := hrY.lt
  have hfY := hrY.frozen p
  have hcY := hrY.cell hp
  have hoY2 : (Y.setCell ⟨gs, p, none⟩ (.bool true)).ownsRow gs 3 1 (.slice (some ⟨gs + 1, 0, none⟩) 1 1) 1 ((ints [p]).map (Value.int .i64)) := own_at hoY fun a ha => by cases ha; exact set_other (by simp) _
  have hbY2 : Below gs X (Y.setCell ⟨gs, p, none⟩ (.bool true)) := hbY.setCell (Nat.le_refl _) _
  have Hgs := Lib.hid hgs
  have HrY2 := Lib.hid hrY2
  have HoY2 := Lib.hid hoY2
  have HbY2 := Lib.hid hbY2
  clear hgs hrY2 hoY2 hbY2 hrY hoY
  go_wp2
  clear hcY hfY
  go_loopg [6] (muR n [p] [p]) (fun k rv wr => ∃ (S R : List Nat) (j c' : Nat) (Ar : Option Addr), rv = .slice Ar j c' ∧ wr.ownsRow gs 3 1 (.slice Ar j c') j ((ints R).map (Value.int .i64)) ∧ wr.rowIs gs 4 n (fun j => .bool (decide (j ∈ S))) ∧ Hid (ReI l p S R) ∧ Hid (muR n S R ≤ k ∧ k ≤ 2 * n + 1) ∧ Below gs X wr)
  case atStart =>
    exact ⟨[p], [p], 1, 1, _, rfl, HoY2.out, HrY2.out, Hstart, Lib.hid ⟨Nat.le_refl _, by simp only [muR, List.length_cons, List.length_nil]; omega⟩, HbY2.out⟩
  case round =>
    clear HoY2 HrY2 HbY2 hbY hY1 hgsY
    obtain ⟨S, R, j, c', Ar, rfl, hown, hrow, hI, hmu, hb⟩ := hrel
    have hlen := hown.1
    simp [ints_len] at hlen
    have hbw : Below w.heap.size w wr := HbX.out.trans (hb.mono hwX)
    cases R with
    | nil =>
      obtain rfl : j = 0 := by simpa using hlen.symm
      have hres : wr.rowIs gs 4 n (fun j => .bool (pathB l p j)) := hrow.congr fun i hi => by rw [hI.out.doneB]
      clear hlen
      go_wp2
      go_ret
      exact ⟨gs, rfl, hwX, hres, hbw⟩
    | cons a R' =>
      obtain ⟨k, rfl⟩ : ∃ k, j = k + 1 := ⟨R'.length, by simpa using hlen.symm⟩
      have hkR : R'.length = k := by simpa using hlen
      have hra := hI.out.sl a (hI.out.rl a (by simp))
      have han : a < n := by have := Hl.out; omega
      have hk1 : k ≤ 1000000 := by have h1 := hmu.out; simp only [muR, List.length_cons] at h1; omega
      obtain ⟨gg, rfl⟩ : ∃ gg, Ar = some ⟨gg, 0, none⟩ := by
        obtain ⟨g, cap', hv, _⟩ := hown.form (by omega)
        injection hv with hv
        exact ⟨g, hv⟩
      have hl0 := (hown.cellAt 0 (by omega)).trans (show ((ints (a :: R')).map (Value.int .i64))[0]? = some (.int .i64 (a : Int)) by simp [ints])
      obtain ⟨hg1, hg2⟩ := hown.lt gg rfl
      have hsl := Sl.own hown (by omega)
      have hcc1 := hsl.hcap
      have hcc2 := hsl.hmax
      unfold maxLen at hcc2
      obtain ⟨hcut1, hcut2⟩ := cut1 hsl
      have Hcut1 := Lib.hid hcut1
      have Hcut2 := Lib.hid hcut2
      have x1 := (hb.block g0 yl).trans HX0.out
      obtain ⟨z0, z1, z2, zl⟩ := open3 x1
      have Hx1 := Lib.hid x1
      have hJ := hI.out.pop
      have HJ := Lib.hid hJ
      have hJmu : muR n S R' < muR n S (a :: R') := by simp only [muR, List.length_cons]; omega
      have HJmu := Lib.hid hJmu
      have HkR := Lib.hid hkR
      have Hrow := Lib.hid hrow
      have hgsr := hrow.lt
      have hCr := HC.out.below (show Below X.heap.size X wr by rw [← Hgs.out]; exact hb)
      have hqL := qLeads_any A B n c m d r l a wr.drew (hCr.below (Below.refl _ _).drew) Hs.out hn han
      have HqL := Lib.hid hqL
      clear hlen hra hcut1 hcut2 x1 hJ hJmu hkR hrow hown hsl hCr hqL
      go_upto_region 4 with fail
      go_still_tail 4, (by kernel_rfl)
      change wpList _ _ _ _ _ wr.drew
      have hbd : Below gs X wr.drew := hb.drew
      have hrd : wr.drew.rowIs gs 4 n (fun j => .bool (decide (j ∈ S))) := Hrow.out
      have hcd : ∀ {Ac nc cc xs}, Sl wr 1 Ac nc cc xs → Sl wr.drew 1 Ac nc cc xs := fun hh => hh.below (Below.refl _ _).drew
      have hsd : wr.drew.heap.size = wr.heap.size := rfl
      have hcut2d := fun hc => hcd (Hcut2.out hc)
      have Hcut2d := Lib.hid hcut2d
      have Hrd := Lib.hid hrd
      clear hcd hcut2d hrd Hcut2
      generalize wr.drew = w1 at *
      have hlen6 := leads_len Hs.out a
      have Hlen6 := Lib.hid hlen6
      clear hlen6
      by_cases hc1 : c' = 1
      · obtain ⟨rfl, rfl⟩ := Hcut1.out hc1
        subst hc1
        go_wp2_with (first
          | (go_at_call 82; go_must (refine HqL.out.mono ?_); rintro e w2 ⟨Al, nl, cl, rfl, hIl, hb1⟩; have hnl : nl ≤ 6 := (by have h1 := hIl.len; have h2 := Hlen6.out; rw [ints_len] at h1; omega); have hlL : (leads l a).length = nl := (by have h1 := hIl.len; rw [ints_len] at h1; omega); have HlL := Lib.hid hlL; clear hlL; have hsz1 := hb1.size)
          | (at_builtin; go_must (refine wpList_append_sl rfl (.tmp 26) (.tmp 28) 23 rfl w2.heap.size 3 Try.underlying23 infoI rfl (by omega) rfl (own_lit0 rfl (Nat.le_refl _)) rfl (A := some ⟨gg, 0, none⟩) (m := 0) (c := 0) (news := (ints ([] : List Nat)).map (Value.int .i64)) ⟨rfl, Nat.le_refl _, by simp [maxLen], fun hh => absurd hh (by omega)⟩ (oneI _ _) (by omega) (by omega) (by simp) ?_); intro A' cap' w3 hown3 hb3 hgr hblk))
        have hbw2 : Below gs X w2 := hbd.trans (hb1.mono (by omega))
        have hb3w : Below gs X w3 := (hbw2.alloc (by omega) _).trans (hb3.mono (by omega))
        have hs3 : w2.heap.size + 1 ≤ w3.heap.size := by have := hb3.size; simp at this; omega
        have hr2 := (Hrd.out.of_block (hb1.block gs (by omega)))
        have hr3 : w3.rowIs gs 4 n (fun j => .bool (decide (j ∈ S))) := (hr2.alloc (.cells #[] 3)).of_block (hb3.block gs (by omega))
        have hb23 : Below w2.heap.size w2 w3 := ((Below.refl _ _).alloc (Nat.le_refl _) _).trans hb3
        have hIl3 : IsI w3 Al nl cl (ints (leads l a)) := hIl.below hb23
        have hAl : ∀ b off, Al = some ⟨b, off, none⟩ → 0 < nl → b < w2.heap.size ∧ b ≠ gs := fun b off hA h0 => by
          subst hA
          obtain ⟨q, hq⟩ := hIl.get h0
          obtain ⟨b', off', he, hb', _, hce⟩ := hIl.at_ hq
          injection he with he; injection he with he1 he2
          subst he1; subst he2
          exact ⟨hb', row_ne hr2 hce⟩
        have HAl := Lib.hid hAl
        have hown3' : w3.ownsRow w2.heap.size 3 1 (.slice A' 0 cap') 0 ((ints ([] : List Nat)).map (Value.int .i64)) := by simpa using hown3
        clear hr2 hAl hgr hblk hown3
        go_loopg [6, 8] nl (fun k rv iv wr' => ∃ (S2 R2 : List Nat) (q j2 c2 : Nat) (A2 : Option Addr), rv = .slice A2 j2 c2 ∧ iv = .int .i64 q ∧ Hid (q + k = nl) ∧ wr'.ownsRow w2.heap.size 3 1 (.slice A2 j2 c2) j2 ((ints R2).map (Value.int .i64)) ∧
          wr'.rowIs gs 4 n (fun j => .bool (decide (j ∈ S2))) ∧ IsI wr' Al nl cl (ints (leads l a)) ∧ Hid (ReJ l p a q S2 R2) ∧ Hid (muR n S2 R2 ≤ muR n S ([] : List Nat)) ∧ Below gs X wr' ∧ w2.heap.size ≤ wr'.heap.size)
        case atStart => exact ⟨S, ([] : List Nat), 0, 0, cap', A', by simp, rfl, Nat.zero_add _, hown3', hr3, hIl3, HJ, Nat.le_refl _, hb3w, by omega⟩
        case round =>
          clear hown3' hr3 hIl3 hb3w hb3
          obtain ⟨S2, R2, q, j2, c2, A2, rfl, rfl, hqk, hown4, hr4, hIl4, hJ4, hmu4, hb4, hw24⟩ := hrel
          have hgs4 := hr4.lt
          by_cases hq : q < nl
          · obtain ⟨y, hy⟩ : ∃ y, (leads l a)[q]? = some y := ⟨_, List.getElem?_eq_getElem (by rw [HlL.out]; exact hq)⟩
            have hyn : y < n := by have := leads_lt Hs.out (List.mem_of_getElem? hy); have := Hl.out; omega
            obtain ⟨bl, ol, rfl, hbl, _, hcl⟩ := hIl4.at_ (ints_get hy)
            obtain ⟨hbl2, hblg⟩ := HAl.out bl ol rfl (by omega)
            have hs0 := hr4.cell (i := y) hyn
            have hs1 := hr4.frozen y
            have hilc := hIl4.sl.hcap
            have hilm := hIl4.sl.hmax
            unfold maxLen at hilm
            have HIl4 := Lib.hid hIl4
            have Hy := Lib.hid hy
            have hj2 : j2 ≤ 1000000 := by
              have h1 := hown4.1
              have h2 := hmu4.out
              have h3 := hmu.out
              have h4 := HJmu.out
              simp only [List.length_map, ints_len, Nat.mul_one] at h1
              simp only [muR] at h2 h3 h4
              omega
            clear hy
            by_cases hin : y ∈ S2
            · have hdi : decide (y ∈ S2) = true := by simp [hin]
              rw [hdi] at hs0
              have Hin := Lib.hid hin
              clear hin hdi hIl4
              go_wp2
              go_roundg (nl - (q + 1))
              case measure => have := hqk.out; omega
              case rel => exact ⟨S2, R2, q + 1, j2, c2, A2, rfl, by go_num, Lib.hid (by omega), hown4, hr4, HIl4.out, hJ4.out.had Hy.out Hin.out, hmu4, hb4, hw24⟩
            · have hdi : decide (y ∈ S2) = false := by simp [hin]
              rw [hdi] at hs0
              have Hin := Lib.hid hin
              have hne4 : ∀ a', A2 = some a' → a'.block ≠ gs := fun a' ha' => by have := Own0.lt hown4 a' ha'; omega
              have hap0 : Apart wr (wr.setCell ⟨gs, y, none⟩ (.bool true)) (some ⟨gs, 0, none⟩) none := ⟨by simp, fun g _ hne => set_other (fun e => hne _ rfl e.symm) _, by simp⟩
              have hIl5 := hIl4.apart hap0 (by intro x1 x2 e1 e2; cases e1; cases e2; exact fun e => hblg e.symm)
              have hr5 := row_see (a := y) hr4
              have hown5 : (wr.setCell ⟨gs, y, none⟩ (.bool true)).ownsRow w2.heap.size 3 1 (.slice A2 j2 c2) j2 ((ints R2).map (Value.int .i64)) := own_at hown4 fun a' ha' => set_other (hne4 a' ha') _
              have hb5 : Below gs X (wr.setCell ⟨gs, y, none⟩ (.bool true)) := hb4.setCell (Nat.le_refl _) _
              have hneb : ∀ a', A2 = some a' → a'.block ≠ bl := fun a' ha' => by have := Own0.lt hown4 a' ha'; omega
              have HIl5 := Lib.hid hIl5
              have Hr5 := Lib.hid hr5
              have Hown5 := Lib.hid hown5
              have Hb5 := Lib.hid hb5
              have Hne4 := Lib.hid hne4
              have Hneb := Lib.hid hneb
              clear hin hdi hIl4 hap0 hIl5 hr5 hown5 hb5 hne4 hneb hown4 hr4 hb4
              go_wp2_with (first
                | (at_builtin; go_must (refine wpList_append_own1 rfl (.tmp 50) (.tmp 55) 23 rfl w2.heap.size 3 Try.underlying23 infoI rfl (by omega) rfl (.inr (Hown5.out.alloc _)) rfl (Sl.lit _ _ [.int .i64 (y : Int)] 3 1 1 (by first | rfl | simp) rfl (by simp [maxLen])) (one1 rfl) (by omega) (by omega) (by omega) (by first | omega | (simp; omega)) ?_); intro A6 cap6 w6 hown6 hb6 hap6))
              go_roundg (nl - (q + 1))
              case measure => have := hqk.out; omega
              case rel =>
                refine ⟨y :: S2, R2 ++ [y], q + 1, j2 + 1, cap6, A6, rfl, by go_num, Lib.hid (by omega), ?_, ?_, ?_, hJ4.out.new Hs.out Hy.out Hin.out, ?_, ?_, by have := hap6.size; simp at this; omega⟩
                · rw [ints_append, List.map_append]; exact hown6
                · exact (Hr5.out.alloc _).of_block (hap6.old gs (by simp; omega) Hne4.out)
                · exact (HIl5.out.below ((Below.refl _ _).alloc (Nat.le_refl _) _)).apart hap6 (by intro x1 x2 e1 e2; cases e2; exact Hneb.out x1 e1)
                · have h1 := hJ4.out.mu_new Hs.out Hy.out Hin.out
                  have h2 := hmu4.out
                  rw [Hl.out] at h1
                  exact Lib.hid (by omega)
                · exact (Hb5.out.alloc (by simp; omega) _).trans (hb6.mono (by omega))
          · have hq2 : q = nl := by have := hqk.out; omega
            subst hq2
            have hI4 := hJ4.out.out (by rw [HlL.out]; exact Nat.le_refl _)
            have HI4 := Lib.hid hI4
            clear hI4
            go_wp2
            go_roundg (muR n S2 R2)
            case measure => have h1 := hmu.out; have h2 := hmu4.out; have h3 := HJmu.out; omega
            case rel => exact ⟨S2, R2, j2, c2, A2, rfl, own_lower hown4 (by omega), hr4, HI4, Lib.hid ⟨Nat.le_refl _, by have h1 := hmu.out; have h2 := hmu4.out; have h3 := HJmu.out; omega⟩, hb4⟩
      · have hsl := Hcut2d.out hc1
        have hc2 : ¬ c' = 1 := hc1
        go_wp2_with (first
          | (go_at_call 82; go_must (refine HqL.out.mono ?_); rintro e w2 ⟨Al, nl, cl, rfl, hIl, hb1⟩; have hnl : nl ≤ 6 := (by have h1 := hIl.len; have h2 := Hlen6.out; rw [ints_len] at h1; omega); have hlL : (leads l a).length = nl := (by have h1 := hIl.len; rw [ints_len] at h1; omega); have HlL := Lib.hid hlL; clear hlL; have hsz1 := hb1.size)
          | (at_builtin; go_must (refine wpList_append_sl rfl (.tmp 26) (.tmp 28) 23 rfl w2.heap.size 3 Try.underlying23 infoI rfl (by omega) rfl (own_lit0 rfl (Nat.le_refl _)) rfl ((hsl.below hb1).below ((Below.refl _ _).alloc (Nat.le_refl _) _)) (oneI _ _) (by omega) (by omega) (by simp) ?_); intro A' cap' w3 hown3 hb3 hgr hblk))
        have hbw2 : Below gs X w2 := hbd.trans (hb1.mono (by omega))
        have hb3w : Below gs X w3 := (hbw2.alloc (by omega) _).trans (hb3.mono (by omega))
        have hs3 : w2.heap.size + 1 ≤ w3.heap.size := by have := hb3.size; simp at this; omega
        have hr2 := (Hrd.out.of_block (hb1.block gs (by omega)))
        have hr3 : w3.rowIs gs 4 n (fun j => .bool (decide (j ∈ S))) := (hr2.alloc (.cells #[] 3)).of_block (hb3.block gs (by omega))
        have hb23 : Below w2.heap.size w2 w3 := ((Below.refl _ _).alloc (Nat.le_refl _) _).trans hb3
        have hIl3 : IsI w3 Al nl cl (ints (leads l a)) := hIl.below hb23
        have hAl : ∀ b off, Al = some ⟨b, off, none⟩ → 0 < nl → b < w2.heap.size ∧ b ≠ gs := fun b off hA h0 => by
          subst hA
          obtain ⟨q, hq⟩ := hIl.get h0
          obtain ⟨b', off', he, hb', _, hce⟩ := hIl.at_ hq
          injection he with he; injection he with he1 he2
          subst he1; subst he2
          exact ⟨hb', row_ne hr2 hce⟩
        have HAl := Lib.hid hAl
        have hown3' : w3.ownsRow w2.heap.size 3 1 (.slice A' k cap') k ((ints R').map (Value.int .i64)) := by simpa using hown3
        clear hr2 hAl hgr hblk hown3
        go_loopg [6, 8] nl (fun k rv iv wr' => ∃ (S2 R2 : List Nat) (q j2 c2 : Nat) (A2 : Option Addr), rv = .slice A2 j2 c2 ∧ iv = .int .i64 q ∧ Hid (q + k = nl) ∧ wr'.ownsRow w2.heap.size 3 1 (.slice A2 j2 c2) j2 ((ints R2).map (Value.int .i64)) ∧
          wr'.rowIs gs 4 n (fun j => .bool (decide (j ∈ S2))) ∧ IsI wr' Al nl cl (ints (leads l a)) ∧ Hid (ReJ l p a q S2 R2) ∧ Hid (muR n S2 R2 ≤ muR n S R') ∧ Below gs X wr' ∧ w2.heap.size ≤ wr'.heap.size)
        case atStart => exact ⟨S, R', 0, k, cap', A', by simp, rfl, Nat.zero_add _, hown3', hr3, hIl3, HJ, Nat.le_refl _, hb3w, by omega⟩
        case round =>
          clear hown3' hr3 hIl3 hb3w hb3
          obtain ⟨S2, R2, q, j2, c2, A2, rfl, rfl, hqk, hown4, hr4, hIl4, hJ4, hmu4, hb4, hw24⟩ := hrel
          have hgs4 := hr4.lt
          by_cases hq : q < nl
          · obtain ⟨y, hy⟩ : ∃ y, (leads l a)[q]? = some y := ⟨_, List.getElem?_eq_getElem (by rw [HlL.out]; exact hq)⟩
            have hyn : y < n := by have := leads_lt Hs.out (List.mem_of_getElem? hy); have := Hl.out; omega
            obtain ⟨bl, ol, rfl, hbl, _, hcl⟩ := hIl4.at_ (ints_get hy)
            obtain ⟨hbl2, hblg⟩ := HAl.out bl ol rfl (by omega)
            have hs0 := hr4.cell (i := y) hyn
            have hs1 := hr4.frozen y
            have hilc := hIl4.sl.hcap
            have hilm := hIl4.sl.hmax
            unfold maxLen at hilm
            have HIl4 := Lib.hid hIl4
            have Hy := Lib.hid hy
            have hj2 : j2 ≤ 1000000 := by
              have h1 := hown4.1
              have h2 := hmu4.out
              have h3 := hmu.out
              have h4 := HJmu.out
              simp only [List.length_map, ints_len, Nat.mul_one] at h1
              simp only [muR] at h2 h3 h4
              omega
            clear hy
            by_cases hin : y ∈ S2
            · have hdi : decide (y ∈ S2) = true := by simp [hin]
              rw [hdi] at hs0
              have Hin := Lib.hid hin
              clear hin hdi hIl4
              go_wp2
              go_roundg (nl - (q + 1))
              case measure => have := hqk.out; omega
              case rel => exact ⟨S2, R2, q + 1, j2, c2, A2, rfl, by go_num, Lib.hid (by omega), hown4, hr4, HIl4.out, hJ4.out.had Hy.out Hin.out, hmu4, hb4, hw24⟩
            · have hdi : decide (y ∈ S2) = false := by simp [hin]
              rw [hdi] at hs0
              have Hin := Lib.hid hin
              have hne4 : ∀ a', A2 = some a' → a'.block ≠ gs := fun a' ha' => by have := Own0.lt hown4 a' ha'; omega
              have hap0 : Apart wr (wr.setCell ⟨gs, y, none⟩ (.bool true)) (some ⟨gs, 0, none⟩) none := ⟨by simp, fun g _ hne => set_other (fun e => hne _ rfl e.symm) _, by simp⟩
              have hIl5 := hIl4.apart hap0 (by intro x1 x2 e1 e2; cases e1; cases e2; exact fun e => hblg e.symm)
              have hr5 := row_see (a := y) hr4
              have hown5 : (wr.setCell ⟨gs, y, none⟩ (.bool true)).ownsRow w2.heap.size 3 1 (.slice A2 j2 c2) j2 ((ints R2).map (Value.int .i64)) := own_at hown4 fun a' ha' => set_other (hne4 a' ha') _
              have hb5 : Below gs X (wr.setCell ⟨gs, y, none⟩ (.bool true)) := hb4.setCell (Nat.le_refl _) _
              have hneb : ∀ a', A2 = some a' → a'.block ≠ bl := fun a' ha' => by have := Own0.lt hown4 a' ha'; omega
              have HIl5 := Lib.hid hIl5
              have Hr5 := Lib.hid hr5
              have Hown5 := Lib.hid hown5
              have Hb5 := Lib.hid hb5
              have Hne4 := Lib.hid hne4
              have Hneb := Lib.hid hneb
              clear hin hdi hIl4 hap0 hIl5 hr5 hown5 hb5 hne4 hneb hown4 hr4 hb4
              go_wp2_with (first
                | (at_builtin; go_must (refine wpList_append_own1 rfl (.tmp 50) (.tmp 55) 23 rfl w2.heap.size 3 Try.underlying23 infoI rfl (by omega) rfl (.inr (Hown5.out.alloc _)) rfl (Sl.lit _ _ [.int .i64 (y : Int)] 3 1 1 (by first | rfl | simp) rfl (by simp [maxLen])) (one1 rfl) (by omega) (by omega) (by omega) (by first | omega | (simp; omega)) ?_); intro A6 cap6 w6 hown6 hb6 hap6))
              go_roundg (nl - (q + 1))
              case measure => have := hqk.out; omega
              case rel =>
                refine ⟨y :: S2, R2 ++ [y], q + 1, j2 + 1, cap6, A6, rfl, by go_num, Lib.hid (by omega), ?_, ?_, ?_, hJ4.out.new Hs.out Hy.out Hin.out, ?_, ?_, by have := hap6.size; simp at this; omega⟩
                · rw [ints_append, List.map_append]; exact hown6
                · exact (Hr5.out.alloc _).of_block (hap6.old gs (by simp; omega) Hne4.out)
                · exact (HIl5.out.below ((Below.refl _ _).alloc (Nat.le_refl _) _)).apart hap6 (by intro x1 x2 e1 e2; cases e2; exact Hneb.out x1 e1)
                · have h1 := hJ4.out.mu_new Hs.out Hy.out Hin.out
                  have h2 := hmu4.out
                  rw [Hl.out] at h1
                  exact Lib.hid (by omega)
                · exact (Hb5.out.alloc (by simp; omega) _).trans (hb6.mono (by omega))
          · have hq2 : q = nl := by have := hqk.out; omega
            subst hq2
            have hI4 := hJ4.out.out (by rw [HlL.out]; exact Nat.le_refl _)
            have HI4 := Lib.hid hI4
            clear hI4
            go_wp2
            go_roundg (muR n S2 R2)
            case measure => have h1 := hmu.out; have h2 := hmu4.out; have h3 := HJmu.out; omega
            case rel => exact ⟨S2, R2, j2, c2, A2, rfl, own_lower hown4 (by omega), hr4, HI4, Lib.hid ⟨Nat.le_refl _, by have h1 := hmu.out; have h2 := hmu4.out; have h3 := HJmu.out; omega⟩, hb4⟩
end Go.Proofs.Ytlndjooddkjnoaa
