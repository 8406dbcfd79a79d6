/- The walks of the document's Has and pairs. -/
import Derived.BigQuiet
import Derived.Test.YtlndjooddkjnoaaB8
import Derived.Test.YtlndjooddkjnoaaHQ6
set_option linter.unusedVariables false
set_option linter.unusedSimpArgs false
namespace Go.Proofs.Ytlndjooddkjnoaa
open Go.RowKit

theorem pairsV_get : ∀ (S : List (Nat × Nat)) (k : Nat) (p : Nat × Nat), S[k]? = some p → (pairsV S)[k * 2]? = some (.int .i64 (p.1 : Int)) ∧ (pairsV S)[k * 2 + 1]? = some (.int .i64 (p.2 : Int))
  | [], k, p, h => by simp at h
  | q :: S, 0, p, h => by simp at h; subst h; simp [pairsV]
  | q :: S, k + 1, p, h => by
    obtain ⟨h1, h2⟩ := pairsV_get S k p (by simpa using h)
    have e1 : (k + 1) * 2 = k * 2 + 2 := by omega
    have e2 : (k + 1) * 2 + 1 = k * 2 + 1 + 2 := by omega
    rw [e1, show k * 2 + 2 + 1 = k * 2 + 1 + 2 by omega]
    simp only [pairsV, List.flatMap_cons, List.cons_append, List.nil_append, List.getElem?_cons_succ] at h1 h2 ⊢
    exact ⟨h1, h2⟩
set_option maxRecDepth 100000 in
set_option maxHeartbeats 4000000 in
theorem qHas_any (A : Option Addr) (n c x y : Nat) (S : List (Nat × Nat)) (w : World) (h : Sl w 2 A n c (pairsV S)) (hn : n ≤ 100000000) :
    Calls Try.prog 64 #[.slice A n c, .agg #[.int .i64 x, .int .i64 y]] w (RetV w (.bool (decide ((x, y) ∈ S)))) := by
  have hl := h.len
  rw [pairsV_len] at hl
  have Hl := Lib.hid (show S.length = n by omega)
  have HS := Lib.hid h
  have hcap := h.hcap
  have hmax := h.hmax
  unfold maxLen at hmax
  generalize hV : decide ((x, y) ∈ S) = V
  have HV := Lib.hid hV
  clear hV h hl
  go_enter Try.func64, Try.ntmps64
  have hal : Below w.heap.size w (w.alloc (.cells #[.int .i64 x, .int .i64 y] 89)) := (Below.refl _ _).alloc (Nat.le_refl _) _
  have x00 : (w.alloc (.cells #[.int .i64 x, .int .i64 y] 89)).heap[w.heap.size]? = some (.cells #[.int .i64 x, .int .i64 y] 89 (0, 0)) := alloc_at rfl
  go_wp2
  go_loopw [5] (fun iv wr => ∃ k : Nat, k ≤ n ∧ iv = .int .i64 k ∧ Hid ((x, y) ∉ S.take k) ∧ Below w.heap.size w wr ∧ wr.heap[w.heap.size]? = some (.cells #[.int .i64 x, .int .i64 y] 89 (0, 0))) (fun iv _ => n - (intOf iv).toNat)
  case atStart => exact ⟨0, Nat.zero_le _, rfl, Lib.hid (by simp), hal, x00⟩
  case round =>
    clear hal x00
    obtain ⟨k, hk, rfl, hno, hb, hx⟩ := hrel
    obtain ⟨q0, q1, ql⟩ := open2 hx
    by_cases hkn : k < n
    · obtain ⟨⟨a1, a2⟩, hp⟩ : ∃ p, S[k]? = some p := ⟨_, List.getElem?_eq_getElem (by have := Hl.out; omega)⟩
      obtain ⟨g1, g2⟩ := pairsV_get S k _ hp
      obtain ⟨b, off, rfl, hbb, hcc⟩ := HS.out.cells (by omega)
      have c1 := (hb.cell (p := ⟨b, off + k * 2, none⟩) hbb).trans (hcc _ _ g1)
      have c2 := (hb.cell (p := ⟨b, off + k * 2 + 1, none⟩) hbb).trans (hcc _ _ g2)
      simp only at c1 c2
      have hbr : b < wr.heap.size := Nat.lt_of_lt_of_le hbb hb.size
      have heq := fun w => eqP (a1 : Int) (a2 : Int) (x : Int) (y : Int) w
      have Hp := Lib.hid hp
      have Hx := Lib.hid hx
      clear hp hcc g1 g2 hx
      by_cases he : a1 = x ∧ a2 = y
      · obtain ⟨rfl, rfl⟩ := he
        have hd : decide ((a1 : Int) = (a1 : Int) ∧ (a2 : Int) = (a2 : Int)) = true := by simp
        rw [hd] at heq
        have hVt : V = true := by rw [← HV.out]; simp; exact List.mem_of_getElem? Hp.out
        subst hVt
        clear hd
        go_wp2_with fail
        go_quiet (fail)
        go_wp2
        go_ret
        exact ⟨rfl, below_drewN hb _⟩
      · have hd : decide ((a1 : Int) = (x : Int) ∧ (a2 : Int) = (y : Int)) = false := by simp; omega
        rw [hd] at heq
        have hno2 : Hid ((x, y) ∉ S.take (k + 1)) := Lib.hid (by
          rw [List.take_add_one, Hp.out, List.mem_append, not_or]
          refine ⟨hno.out, fun hm => ?_⟩
          simp at hm
          omega)
        clear hd he
        go_wp2_with fail
        go_quiet (fail)
        go_wp2
        go_roundw
        case rel => exact ⟨k + 1, by omega, by go_num, hno2, below_drewN hb _, Hx.out⟩
        case measure => simp [intOf]; omega
    · have hVf : V = false := by
        rw [← HV.out]
        have := hno.out
        rw [List.take_of_length_le (by have := Hl.out; omega)] at this
        simp [this]
      subst hVf
      go_wp2
      go_ret
      exact ⟨rfl, hb⟩
def RetPrs (w : World) (o : Option (List (Nat × Nat))) (e : Ending) (w' : World) : Prop := Below w.heap.size w w' ∧ match o with
  | some R => ∃ A n c, e = .returned (.tuple #[.slice A n c, .bool true]) ∧ w'.ownsRow w.heap.size 89 2 (.slice A n c) n (pairsV R)
  | none => e = .returned (.tuple #[.slice none 0 0, .bool false])
def pairsF (l : List C) (x y : Nat) : Option (List (Nat × Nat)) := if (sAt l x).beq (sAt l y) then some (argPairs x y (sAt l x)) else none
theorem argPairs_none {x y : Nat} {c : C} (h : c.kind ≠ 4) : argPairs x y c = [] := by unfold argPairs; rw [if_neg h]
theorem argPairs_top {x y N : Nat} {c : C} (h : c.kind = 4) (hN : c.n = (N : Int)) : argPairs x y c = (List.range N).map (fun i => (x + 1 + i, y + 1 + i)) := by unfold argPairs; rw [if_pos h, hN, Int.toNat_natCast]
set_option maxRecDepth 100000 in
set_option maxHeartbeats 4000000 in
theorem qpairs_any (A B : Option Addr) (n c m d x y : Nat) (r : Int) (l : List C) (w : World) (h : IsC w A n c l) (hs : shpB l = true) (hn : n ≤ 100000) (hx : x < n) (hy : y < n) :
    Calls Try.prog 67 #[.agg #[.slice A n c, .slice B m d, .int .i64 r], .int .i64 x, .int .i64 y] w (RetPrs w (pairsF l x y)) := by
  have hl := h.len
  unfold pairsF
  have hxl : x < l.length := by omega
  obtain ⟨X1, hX1⟩ := h.get hx
  obtain ⟨Y1, hY1⟩ := h.get hy
  have hokx := shp_at hs hxl
  rw [sAt_get hX1] at hokx ⊢
  rw [sAt_get hY1]
  obtain ⟨b, off, rfl, hbb, hwfx, e0, e1, e2⟩ := h.at_ hX1
  obtain ⟨b', off', he', _, hwfy, e3, e4, e5⟩ := h.at_ hY1
  injection he' with he'
  injection he' with i1 i2 i3
  subst i1; subst i2
  have hcd := h.sl.hcap
  have hcm := h.sl.hmax
  unfold maxLen at hcm
  have Hokx := Lib.hid hokx
  have Hl := Lib.hid hl
  clear h hX1 hY1 hokx hl hxl
  go_enter Try.func67, Try.ntmps67
  have hal : Below w.heap.size w (w.alloc (.cells #[.slice (some ⟨b, off, none⟩) n c, .slice B m d, .int .i64 r] 25)) := (Below.refl _ _).alloc (Nat.le_refl _) _
  have x00 : (w.alloc (.cells #[.slice (some ⟨b, off, none⟩) n c, .slice B m d, .int .i64 r] 25)).heap[w.heap.size]? = some (.cells #[.slice (some ⟨b, off, none⟩) n c, .slice B m d, .int .i64 r] 25 (0, 0)) := alloc_at rfl
  go_upto_region 1 with fail
  refine wp_world' (Φ := fun X => Below w.heap.size w X ∧ X.heap[w.heap.size]? = some (.cells #[.slice (some ⟨b, off, none⟩) n c, .slice B m d, .int .i64 r] 25 (0, 0))) ⟨hal, x00⟩ ?_
  rintro X ⟨hbX, hx0⟩
  obtain ⟨y0, y1, y2, yl⟩ := open3 hx0
  obtain ⟨g0, hg0⟩ : ∃ g0, g0 = w.heap.size := ⟨_, rfl⟩
  try rw [← hg0]
  rw [← hg0] at y0 yl
  have k0 := (hbX.cell (p := ⟨b, off + x * 3, none⟩) hbb).trans e0
  have k1 := (hbX.cell (p := ⟨b, off + x * 3 + 1, none⟩) hbb).trans e1
  have k2 := (hbX.cell (p := ⟨b, off + x * 3 + 2, none⟩) hbb).trans e2
  have k3 := (hbX.cell (p := ⟨b, off + y * 3, none⟩) hbb).trans e3
  have k4 := (hbX.cell (p := ⟨b, off + y * 3 + 1, none⟩) hbb).trans e4
  have k5 := (hbX.cell (p := ⟨b, off + y * 3 + 2, none⟩) hbb).trans e5
  have hbr : b < X.heap.size := Nat.lt_of_lt_of_le hbb hbX.size
  have hAl : ∀ w', Below X.heap.size X w' → w'.cell? ⟨g0, 0, none⟩ = some (.slice (some ⟨b, off, none⟩) n c) ∧ w'.cell? ⟨b, off + x * 3, none⟩ = some (.int .i64 X1.kind) ∧ w'.cell? ⟨b, off + x * 3 + 1, none⟩ = some (.string X1.name) ∧ w'.cell? ⟨b, off + x * 3 + 2, none⟩ = some (.int .i64 X1.n) ∧ w'.cell? ⟨b, off + y * 3, none⟩ = some (.int .i64 Y1.kind) ∧ w'.cell? ⟨b, off + y * 3 + 1, none⟩ = some (.string Y1.name) ∧ w'.cell? ⟨b, off + y * 3 + 2, none⟩ = some (.int .i64 Y1.n) := fun w' hb => ⟨(hb.cell (p := ⟨g0, 0, none⟩) yl).trans y0, (hb.cell (p := ⟨b, off + x * 3, none⟩) hbr).trans k0, (hb.cell (p := ⟨b, off + x * 3 + 1, none⟩) hbr).trans k1, (hb.cell (p := ⟨b, off + x * 3 + 2, none⟩) hbr).trans k2, (hb.cell (p := ⟨b, off + y * 3, none⟩) hbr).trans k3, (hb.cell (p := ⟨b, off + y * 3 + 1, none⟩) hbr).trans k4, (hb.cell (p := ⟨b, off + y * 3 + 2, none⟩) hbr).trans k5⟩
  have HAl := Lib.hid hAl
  have HbX := Lib.hid hbX
  have hwX := hbX.size
  clear hal x00 hbX hx0 hg0 y1 y2 e0 e1 e2 e3 e4 e5 hAl
  go_cut [8, 9] from 12 to 21 (fun xv yv wx => ∃ gx gy : Nat, xv = .pointer (some ⟨gx, 0, none⟩) ∧ yv = .pointer (some ⟨gy, 0, none⟩) ∧ Below X.heap.size X wx ∧ gx < wx.heap.size ∧ gy < wx.heap.size ∧ wx.cell? ⟨gx, 0, none⟩ = some (.int .i64 X1.kind) ∧ wx.cell? ⟨gx, 1, none⟩ = some (.string X1.name) ∧ wx.cell? ⟨gx, 2, none⟩ = some (.int .i64 X1.n) ∧ wx.cell? ⟨gy, 0, none⟩ = some (.int .i64 Y1.kind) ∧ wx.cell? ⟨gy, 1, none⟩ = some (.string Y1.name) ∧ wx.cell? ⟨gy, 2, none⟩ = some (.int .i64 Y1.n))
  case first =>
    refine wp_region_held_drew (S := fun w' => w'.cell? ⟨g0, 0, none⟩ = some (.slice (some ⟨b, off, none⟩) n c) ∧ w'.cell? ⟨b, off + x * 3, none⟩ = some (.int .i64 X1.kind) ∧ w'.cell? ⟨b, off + x * 3 + 1, none⟩ = some (.string X1.name) ∧ w'.cell? ⟨b, off + x * 3 + 2, none⟩ = some (.int .i64 X1.n) ∧ w'.cell? ⟨b, off + y * 3, none⟩ = some (.int .i64 Y1.kind) ∧ w'.cell? ⟨b, off + y * 3 + 1, none⟩ = some (.string Y1.name) ∧ w'.cell? ⟨b, off + y * 3 + 2, none⟩ = some (.int .i64 Y1.n)) (by kernel_rfl) ?gs3 ?gr3
    case gs3 => exact ⟨y0, k0, k1, k2, k3, k4, k5⟩
    case gr3 =>
      intro hHeld
      have HZ : Hid (Below X.heap.size X X.drew) := Lib.hid ((Below.refl _ _).drew)
      clear y0 k0 k1 k2 k3 k4 k5
      generalize X.drew = V at *
      have hVs := HZ.out.size
      have Hz1 := Lib.hid (HZ.out.alloc hVs (.cells #[.int .i64 0, .string ⟨#[]⟩, .int .i64 0] 68))

      refine takeH 0 hHeld ?_
      try simp only [Act.put, List.setIfInBounds_toArray, List.set_cons_zero, List.set_cons_succ]
      refine takeH 1 hHeld ?_
      try simp only [Act.put, List.setIfInBounds_toArray, List.set_cons_zero, List.set_cons_succ]
      refine takeH 2 hHeld ?_
      try simp only [Act.put, List.setIfInBounds_toArray, List.set_cons_zero, List.set_cons_succ]
      refine takeH 3 hHeld ?_
      try simp only [Act.put, List.setIfInBounds_toArray, List.set_cons_zero, List.set_cons_succ]
      refine takeH 4 hHeld ?_
      try simp only [Act.put, List.setIfInBounds_toArray, List.set_cons_zero, List.set_cons_succ]
      refine takeH 5 hHeld ?_
      try simp only [Act.put, List.setIfInBounds_toArray, List.set_cons_zero, List.set_cons_succ]
      refine takeH 6 hHeld ?_
      try simp only [Act.put, List.setIfInBounds_toArray, List.set_cons_zero, List.set_cons_succ]
      refine takeH 7 hHeld ?_
      try simp only [Act.put, List.setIfInBounds_toArray, List.set_cons_zero, List.set_cons_succ]
      refine takeH 8 hHeld ?_
      try simp only [Act.put, List.setIfInBounds_toArray, List.set_cons_zero, List.set_cons_succ]
      refine takeH 9 hHeld ?_
      try simp only [Act.put, List.setIfInBounds_toArray, List.set_cons_zero, List.set_cons_succ]
      refine held_two (i := 10) (j := 11) (oi := ?oi10u11) (oj := ?oi11u11) (by kernel_rfl) ?hi10u11 ?hi11u11 (fun K hK => ?rest10u11) (fun K hK => ?rest11u11)
      case hi10u11 => (simp only [List.getElem?_toArray, List.getElem?_cons_succ, List.getElem?_cons_zero]; exact rfl)
      case hi11u11 => (simp only [List.getElem?_toArray, List.getElem?_cons_succ, List.getElem?_cons_zero]; exact rfl)
      · go_simp
        have hHeld8 : (fun w' : World => w'.cell? ⟨g0, 0, none⟩ = some (.slice (some ⟨b, off, none⟩) n c) ∧ w'.cell? ⟨b, off + x * 3, none⟩ = some (.int .i64 X1.kind) ∧ w'.cell? ⟨b, off + x * 3 + 1, none⟩ = some (.string X1.name) ∧ w'.cell? ⟨b, off + x * 3 + 2, none⟩ = some (.int .i64 X1.n) ∧ w'.cell? ⟨b, off + y * 3, none⟩ = some (.int .i64 Y1.kind) ∧ w'.cell? ⟨b, off + y * 3 + 1, none⟩ = some (.string Y1.name) ∧ w'.cell? ⟨b, off + y * 3 + 2, none⟩ = some (.int .i64 Y1.n)) (V.alloc (.cells #[.int .i64 0, .string ⟨#[]⟩, .int .i64 0] 68)) := HAl.out _ Hz1.out
        refine hK _ _ hHeld8 ?_
        clear hK K hHeld
        have hHeld := hHeld8
        clear hHeld8
        try simp only [Act.put, List.setIfInBounds_toArray, List.set_cons_zero, List.set_cons_succ]
        refine held_one (i := 11) (o := ?oi11u12) (by kernel_rfl) ?hi11u12 (fun K hK => ?rest11u12)
        case hi11u12 => (simp only [List.getElem?_toArray, List.getElem?_cons_succ, List.getElem?_cons_zero]; exact rfl)
        go_simp
        have hHeld8 : (fun w' : World => w'.cell? ⟨g0, 0, none⟩ = some (.slice (some ⟨b, off, none⟩) n c) ∧ w'.cell? ⟨b, off + x * 3, none⟩ = some (.int .i64 X1.kind) ∧ w'.cell? ⟨b, off + x * 3 + 1, none⟩ = some (.string X1.name) ∧ w'.cell? ⟨b, off + x * 3 + 2, none⟩ = some (.int .i64 X1.n) ∧ w'.cell? ⟨b, off + y * 3, none⟩ = some (.int .i64 Y1.kind) ∧ w'.cell? ⟨b, off + y * 3 + 1, none⟩ = some (.string Y1.name) ∧ w'.cell? ⟨b, off + y * 3 + 2, none⟩ = some (.int .i64 Y1.n)) ((V.alloc (.cells #[.int .i64 0, .string ⟨#[]⟩, .int .i64 0] 68)).alloc (.cells #[.int .i64 0, .string ⟨#[]⟩, .int .i64 0] 68)) := HAl.out _ (Hz1.out.alloc (by first | omega | (simp; done) | (simp; omega)) _)
        refine hK _ _ hHeld8 ?_
        clear hK K hHeld
        have hHeld := hHeld8
        clear hHeld8
        try simp only [Act.put, List.setIfInBounds_toArray, List.set_cons_zero, List.set_cons_succ]
        refine held_one (i := 12) (o := ?oi12u13) (by kernel_rfl) ?hi12u13 (fun K hK => ?rest12u13)
        case hi12u13 => (simp only [List.getElem?_toArray, List.getElem?_cons_succ, List.getElem?_cons_zero]; exact rfl)
        go_simp
        have hHeld8 : (fun w' : World => w'.cell? ⟨g0, 0, none⟩ = some (.slice (some ⟨b, off, none⟩) n c) ∧ w'.cell? ⟨b, off + x * 3, none⟩ = some (.int .i64 X1.kind) ∧ w'.cell? ⟨b, off + x * 3 + 1, none⟩ = some (.string X1.name) ∧ w'.cell? ⟨b, off + x * 3 + 2, none⟩ = some (.int .i64 X1.n) ∧ w'.cell? ⟨b, off + y * 3, none⟩ = some (.int .i64 Y1.kind) ∧ w'.cell? ⟨b, off + y * 3 + 1, none⟩ = some (.string Y1.name) ∧ w'.cell? ⟨b, off + y * 3 + 2, none⟩ = some (.int .i64 Y1.n)) ((V.alloc (.cells #[.int .i64 X1.kind, .string X1.name, .int .i64 X1.n] 68)).alloc (.cells #[.int .i64 0, .string ⟨#[]⟩, .int .i64 0] 68)) := HAl.out _ ((HZ.out.alloc hVs _).alloc (by first | omega | (simp; done) | (simp; omega)) _)
        refine hK _ _ hHeld8 ?_
        clear hK K hHeld
        have hHeld := hHeld8
        clear hHeld8
        try simp only [Act.put, List.setIfInBounds_toArray, List.set_cons_zero, List.set_cons_succ]
        refine held_one (i := 13) (o := ?oi13u14) (by kernel_rfl) ?hi13u14 (fun K hK => ?rest13u14)
        case hi13u14 => (simp only [List.getElem?_toArray, List.getElem?_cons_succ, List.getElem?_cons_zero]; exact rfl)
        go_simp
        have hHeld8 : (fun w' : World => w'.cell? ⟨g0, 0, none⟩ = some (.slice (some ⟨b, off, none⟩) n c) ∧ w'.cell? ⟨b, off + x * 3, none⟩ = some (.int .i64 X1.kind) ∧ w'.cell? ⟨b, off + x * 3 + 1, none⟩ = some (.string X1.name) ∧ w'.cell? ⟨b, off + x * 3 + 2, none⟩ = some (.int .i64 X1.n) ∧ w'.cell? ⟨b, off + y * 3, none⟩ = some (.int .i64 Y1.kind) ∧ w'.cell? ⟨b, off + y * 3 + 1, none⟩ = some (.string Y1.name) ∧ w'.cell? ⟨b, off + y * 3 + 2, none⟩ = some (.int .i64 Y1.n)) ((V.alloc (.cells #[.int .i64 X1.kind, .string X1.name, .int .i64 X1.n] 68)).alloc (.cells #[.int .i64 Y1.kind, .string Y1.name, .int .i64 Y1.n] 68)) := HAl.out _ ((HZ.out.alloc hVs _).alloc (by first | omega | (simp; done) | (simp; omega)) _)
        refine hK _ _ hHeld8 ?_
        clear hK K hHeld
        have hHeld := hHeld8
        clear hHeld8
        try simp only [Act.put, List.setIfInBounds_toArray, List.set_cons_zero, List.set_cons_succ]
        refine wpAnyH_done (by kernel_rfl) ?_ _
        go_wp2_with fail
        go_meet
        exact ⟨V.heap.size, V.heap.size + 1, rfl, rfl, (HZ.out.alloc hVs _).alloc (by first | omega | (simp; done) | (simp; omega)) _, (by first | omega | (simp; done) | (simp; omega)), (by first | omega | (simp; done) | (simp; omega)), ((World.cell?_alloc_lt _ _ ⟨V.heap.size, 0, none⟩ (by first | omega | (simp; done) | (simp; omega))).trans (cells_of (alloc_at rfl) 0)), ((World.cell?_alloc_lt _ _ ⟨V.heap.size, 1, none⟩ (by first | omega | (simp; done) | (simp; omega))).trans (cells_of (alloc_at rfl) 1)), ((World.cell?_alloc_lt _ _ ⟨V.heap.size, 2, none⟩ (by first | omega | (simp; done) | (simp; omega))).trans (cells_of (alloc_at rfl) 2)), (cells_of (alloc_at (by first | omega | (simp; done) | (simp; omega))) 0), (cells_of (alloc_at (by first | omega | (simp; done) | (simp; omega))) 1), (cells_of (alloc_at (by first | omega | (simp; done) | (simp; omega))) 2)⟩
      · go_simp
        have hHeld8 : (fun w' : World => w'.cell? ⟨g0, 0, none⟩ = some (.slice (some ⟨b, off, none⟩) n c) ∧ w'.cell? ⟨b, off + x * 3, none⟩ = some (.int .i64 X1.kind) ∧ w'.cell? ⟨b, off + x * 3 + 1, none⟩ = some (.string X1.name) ∧ w'.cell? ⟨b, off + x * 3 + 2, none⟩ = some (.int .i64 X1.n) ∧ w'.cell? ⟨b, off + y * 3, none⟩ = some (.int .i64 Y1.kind) ∧ w'.cell? ⟨b, off + y * 3 + 1, none⟩ = some (.string Y1.name) ∧ w'.cell? ⟨b, off + y * 3 + 2, none⟩ = some (.int .i64 Y1.n)) (V.alloc (.cells #[.int .i64 0, .string ⟨#[]⟩, .int .i64 0] 68)) := HAl.out _ Hz1.out
        refine hK _ _ hHeld8 ?_
        clear hK K hHeld
        have hHeld := hHeld8
        clear hHeld8
        try simp only [Act.put, List.setIfInBounds_toArray, List.set_cons_zero, List.set_cons_succ]
        refine held_one (i := 10) (o := ?oi10u15) (by kernel_rfl) ?hi10u15 (fun K hK => ?rest10u15)
        case hi10u15 => (simp only [List.getElem?_toArray, List.getElem?_cons_succ, List.getElem?_cons_zero]; exact rfl)
        go_simp
        have hHeld8 : (fun w' : World => w'.cell? ⟨g0, 0, none⟩ = some (.slice (some ⟨b, off, none⟩) n c) ∧ w'.cell? ⟨b, off + x * 3, none⟩ = some (.int .i64 X1.kind) ∧ w'.cell? ⟨b, off + x * 3 + 1, none⟩ = some (.string X1.name) ∧ w'.cell? ⟨b, off + x * 3 + 2, none⟩ = some (.int .i64 X1.n) ∧ w'.cell? ⟨b, off + y * 3, none⟩ = some (.int .i64 Y1.kind) ∧ w'.cell? ⟨b, off + y * 3 + 1, none⟩ = some (.string Y1.name) ∧ w'.cell? ⟨b, off + y * 3 + 2, none⟩ = some (.int .i64 Y1.n)) ((V.alloc (.cells #[.int .i64 0, .string ⟨#[]⟩, .int .i64 0] 68)).alloc (.cells #[.int .i64 0, .string ⟨#[]⟩, .int .i64 0] 68)) := HAl.out _ (Hz1.out.alloc (by first | omega | (simp; done) | (simp; omega)) _)
        refine hK _ _ hHeld8 ?_
        clear hK K hHeld
        have hHeld := hHeld8
        clear hHeld8
        try simp only [Act.put, List.setIfInBounds_toArray, List.set_cons_zero, List.set_cons_succ]
        refine held_one (i := 12) (o := ?oi12u16) (by kernel_rfl) ?hi12u16 (fun K hK => ?rest12u16)
        case hi12u16 => (simp only [List.getElem?_toArray, List.getElem?_cons_succ, List.getElem?_cons_zero]; exact rfl)
        go_simp
        have hHeld8 : (fun w' : World => w'.cell? ⟨g0, 0, none⟩ = some (.slice (some ⟨b, off, none⟩) n c) ∧ w'.cell? ⟨b, off + x * 3, none⟩ = some (.int .i64 X1.kind) ∧ w'.cell? ⟨b, off + x * 3 + 1, none⟩ = some (.string X1.name) ∧ w'.cell? ⟨b, off + x * 3 + 2, none⟩ = some (.int .i64 X1.n) ∧ w'.cell? ⟨b, off + y * 3, none⟩ = some (.int .i64 Y1.kind) ∧ w'.cell? ⟨b, off + y * 3 + 1, none⟩ = some (.string Y1.name) ∧ w'.cell? ⟨b, off + y * 3 + 2, none⟩ = some (.int .i64 Y1.n)) ((V.alloc (.cells #[.int .i64 0, .string ⟨#[]⟩, .int .i64 0] 68)).alloc (.cells #[.int .i64 X1.kind, .string X1.name, .int .i64 X1.n] 68)) := HAl.out _ ((HZ.out.alloc hVs _).alloc (by first | omega | (simp; done) | (simp; omega)) _)
        refine hK _ _ hHeld8 ?_
        clear hK K hHeld
        have hHeld := hHeld8
        clear hHeld8
        try simp only [Act.put, List.setIfInBounds_toArray, List.set_cons_zero, List.set_cons_succ]
        refine held_one (i := 13) (o := ?oi13u17) (by kernel_rfl) ?hi13u17 (fun K hK => ?rest13u17)
        case hi13u17 => (simp only [List.getElem?_toArray, List.getElem?_cons_succ, List.getElem?_cons_zero]; exact rfl)
        go_simp
        have hHeld8 : (fun w' : World => w'.cell? ⟨g0, 0, none⟩ = some (.slice (some ⟨b, off, none⟩) n c) ∧ w'.cell? ⟨b, off + x * 3, none⟩ = some (.int .i64 X1.kind) ∧ w'.cell? ⟨b, off + x * 3 + 1, none⟩ = some (.string X1.name) ∧ w'.cell? ⟨b, off + x * 3 + 2, none⟩ = some (.int .i64 X1.n) ∧ w'.cell? ⟨b, off + y * 3, none⟩ = some (.int .i64 Y1.kind) ∧ w'.cell? ⟨b, off + y * 3 + 1, none⟩ = some (.string Y1.name) ∧ w'.cell? ⟨b, off + y * 3 + 2, none⟩ = some (.int .i64 Y1.n)) ((V.alloc (.cells #[.int .i64 Y1.kind, .string Y1.name, .int .i64 Y1.n] 68)).alloc (.cells #[.int .i64 X1.kind, .string X1.name, .int .i64 X1.n] 68)) := HAl.out _ ((HZ.out.alloc hVs _).alloc (by first | omega | (simp; done) | (simp; omega)) _)
        refine hK _ _ hHeld8 ?_
        clear hK K hHeld
        have hHeld := hHeld8
        clear hHeld8
        try simp only [Act.put, List.setIfInBounds_toArray, List.set_cons_zero, List.set_cons_succ]
        refine wpAnyH_done (by kernel_rfl) ?_ _
        go_wp2_with fail
        go_meet
        exact ⟨V.heap.size + 1, V.heap.size, rfl, rfl, (HZ.out.alloc hVs _).alloc (by first | omega | (simp; done) | (simp; omega)) _, (by first | omega | (simp; done) | (simp; omega)), (by first | omega | (simp; done) | (simp; omega)), (cells_of (alloc_at (by first | omega | (simp; done) | (simp; omega))) 0), (cells_of (alloc_at (by first | omega | (simp; done) | (simp; omega))) 1), (cells_of (alloc_at (by first | omega | (simp; done) | (simp; omega))) 2), ((World.cell?_alloc_lt _ _ ⟨V.heap.size, 0, none⟩ (by first | omega | (simp; done) | (simp; omega))).trans (cells_of (alloc_at rfl) 0)), ((World.cell?_alloc_lt _ _ ⟨V.heap.size, 1, none⟩ (by first | omega | (simp; done) | (simp; omega))).trans (cells_of (alloc_at rfl) 1)), ((World.cell?_alloc_lt _ _ ⟨V.heap.size, 2, none⟩ (by first | omega | (simp; done) | (simp; omega))).trans (cells_of (alloc_at rfl) 2))⟩
  case rest =>
    obtain ⟨gx, gy, rfl, rfl, hbW, hgx, hgy, x0, x1, x2, v0, v1, v2⟩ := hcut
    have HbW := Lib.hid (HbX.out.trans (hbW.mono hwX))
    have hneq := fun wz => neqS X1 Y1 wz
    clear y0 k0 k1 k2 k3 k4 k5 HAl hbW HbX yl
    cases hbq : X1.beq Y1
    · rw [hbq] at hneq
      go_wp2
      refine bodyPost_ret (v := .tuple #[.slice none 0 0, .bool false]) (by simp [results, Try.results67, go_sem, *]) rfl ?_
      exact ⟨HbW.out, rfl⟩
    · rw [hbq] at hneq
      have hXY := beq_true hbq
      subst hXY
      have hwW := HbW.out.size
      by_cases k4 : X1.kind = 4
      · have kb4 : (X1.kind == 4) = true := by simp [k4]
        have ht4 := ok_top Hokx.out k4
        obtain ⟨N, hN⟩ : ∃ N : Nat, X1.n = N := ⟨X1.n.toNat, by omega⟩
        have hN6 : N ≤ 6 := by omega
        have hxN : x + N < n := by have := Hl.out; omega
        simp only [hN] at x2 v2 hneq
        have Harg := Lib.hid (argPairs_top (x := x) (y := y) k4 hN)
        clear k4 ht4 hN
        go_wp2
        go_loopw [10, 11] (fun ov iv wr => ∃ (k i c8 : Nat) (A8 : Option Addr), 1 ≤ i ∧ i ≤ N + 1 ∧ iv = .int .i64 i ∧ ov = .slice A8 k c8 ∧ wr.ownsRow wc.heap.size 89 2 (.slice A8 k c8) k (pairsV ((List.range (i - 1)).map (fun i => (x + 1 + i, y + 1 + i)))) ∧ Below wc.heap.size wc wr) (fun _ iv _ => N + 1 - (intOf iv).toNat)
        case atStart => exact ⟨0, 1, 0, _, Nat.le_refl _, by omega, rfl, rfl, World.ownsRow_lit wc #[] 0 (Nat.le_refl _) (by simp [maxLen]) rfl, (Below.refl _ _).alloc (Nat.le_refl _) _⟩
        case round =>
          obtain ⟨k, i, c8, A8, hi1, hiN, rfl, rfl, hown, hb⟩ := hrel
          have hlen := hown.1
          rw [pairsV_len] at hlen
          simp at hlen
          have hslO := Sl.own hown (by omega)
          have hco1 := hslO.hcap
          have hco2 := hslO.hmax
          unfold maxLen at hco2
          have u2 := (hb.cell (p := ⟨gx, 2, none⟩) hgx).trans x2
          have u0 := (hb.cell (p := ⟨gx, 0, none⟩) hgx).trans x0
          have hgxr := Nat.lt_of_lt_of_le hgx hb.size
          have hszb := hb.size
          have Hown := Lib.hid hown
          clear hown hslO x0 x1 x2 v0 v1 v2
          by_cases hin : i ≤ N
          · have hin' : decide (i ≤ N) = true := by simp; exact hin
            have hs1 : IntKind.i64.wrap ((x : Int) + (i : Int)) = ((x + i : Nat) : Int) := by rw [IntWalk.i64_in _ (by omega)]; omega
            have hs2 : IntKind.i64.wrap ((y : Int) + (i : Int)) = ((y + i : Nat) : Int) := by rw [IntWalk.i64_in _ (by omega)]; omega
            go_wp2_with (first
              | (at_builtin; go_must (refine wpList_append_sl rfl (.tmp 37) (.tmp 45) 90 rfl wc.heap.size 89 Try.underlying90 infoPair rfl (by omega) rfl (Hown.out.alloc _) rfl (Sl.lit wr _ [.int .i64 ((x + i : Nat) : Int), .int .i64 ((y + i : Nat) : Int)] 89 2 1 (by simp) rfl (by simp [maxLen])) (by intro u hu; simp at hu; rcases hu with rfl | rfl <;> rfl) (by omega) (by omega) (by simp; omega) ?_); intro A9 c9 w9 hown9 hb9 _ _; have Hown9 := Lib.hid hown9; have Hb9 := Lib.hid hb9; clear hown9 hb9))
            go_roundw
            case rel => exact ⟨k + 1, i + 1, c9, A9, by omega, by omega, by go_num, rfl, by
              have h9 := Hown9.out
              have e : pairsV ((List.range (i + 1 - 1)).map (fun i => (x + 1 + i, y + 1 + i))) = pairsV ((List.range (i - 1)).map (fun i => (x + 1 + i, y + 1 + i))) ++ [.int .i64 ((x + i : Nat) : Int), .int .i64 ((y + i : Nat) : Int)] := by
                rw [show i + 1 - 1 = i - 1 + 1 by omega, List.range_succ, List.map_append, pairsV_append]
                simp only [List.map_cons, List.map_nil]
                rw [show x + 1 + (i - 1) = x + i by omega, show y + 1 + (i - 1) = y + i by omega]
                rfl
              rw [e]; exact h9, hb.trans (((Below.refl wc.heap.size wr).alloc hszb _).trans Hb9.out)⟩
            case measure => simp [intOf]; omega
          · have hin' : decide (i ≤ N) = false := by simp; omega
            have hiN1 : i - 1 = N := by omega
            rw [hiN1] at Hown hlen
            go_wp2
            refine bodyPost_ret (v := .tuple #[.slice A8 k c8, .bool true]) (by simp [results, Try.results67, go_sem, *]) rfl ?_
            refine ⟨HbW.out.trans (hb.mono hwW), A8, k, c8, rfl, ?_⟩
            rw [Harg.out]
            exact own_lower Hown.out hwW
      · have kb4 : (X1.kind == 4) = false := by simp [k4]
        have Harg := Lib.hid (argPairs_none (x := x) (y := y) k4)
        clear k4
        go_wp2
        go_loopw [10, 11] (fun ov iv wr => ∃ (k i c8 : Nat) (A8 : Option Addr), k = 0 ∧ 1 ≤ i ∧ iv = .int .i64 i ∧ ov = .slice A8 k c8 ∧ wr.ownsRow wc.heap.size 89 2 (.slice A8 k c8) k [] ∧ Below wc.heap.size wc wr) (fun _ iv _ => (intOf iv).toNat)
        case atStart => exact ⟨0, 1, 0, _, rfl, Nat.le_refl _, rfl, rfl, World.ownsRow_lit wc #[] 0 (Nat.le_refl _) (by simp [maxLen]) rfl, (Below.refl _ _).alloc (Nat.le_refl _) _⟩
        case round =>
          obtain ⟨k, i, c8, A8, hk0, hi1, rfl, rfl, hown, hb⟩ := hrel
          have Hk0 := Lib.hid hk0
          clear hk0
          have u0 := (hb.cell (p := ⟨gx, 0, none⟩) hgx).trans x0
          have hgxr := Nat.lt_of_lt_of_le hgx hb.size
          have hszb := hb.size
          have Hown := Lib.hid hown
          clear hown x0 x1 x2 v0 v1 v2
          go_wp2
          refine bodyPost_ret (v := .tuple #[.slice A8 k c8, .bool true]) (by simp [results, Try.results67, go_sem, *]) rfl ?_
          refine ⟨HbW.out.trans (hb.mono hwW), A8, k, c8, rfl, ?_⟩
          rw [Harg.out]
          exact own_lower Hown.out hwW
end Go.Proofs.Ytlndjooddkjnoaa
