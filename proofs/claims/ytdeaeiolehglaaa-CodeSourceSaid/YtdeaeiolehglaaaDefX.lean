/- The walk of the document's defs: what registers hold, as code tells. -/
import Derived.Laws.MakeOwn
import Derived.Deep.CutBlock
import Derived.Test.YtdeaeiolehglaaaDefW
set_option linter.unusedVariables false
set_option linter.unusedSimpArgs false
namespace Go.Proofs.Ytdeaeiolehglaaa
open Go.RowKit

theorem flatten_at {k : Nat} (hk : 0 < k) {vs : List (List Value)} {j : Nat} {u : Value} (h : ∀ v ∈ vs, v.length = k) (hu : vs.flatten[j]? = some u) : ∃ v, vs[j / k]? = some v ∧ v[j % k]? = some u := by
  have hjl : j < vs.length * k := by
    have := (List.getElem?_eq_some_iff.1 hu).1
    rwa [flatten_len h] at this
  have hdiv : j / k < vs.length := (Nat.div_lt_iff_lt_mul hk).2 hjl
  have hmod : j % k < k := Nat.mod_lt _ hk
  obtain ⟨v, hv⟩ : ∃ v, vs[j / k]? = some v := ⟨_, List.getElem?_eq_getElem hdiv⟩
  have hvl := h v (List.mem_of_getElem? hv)
  obtain ⟨c, hc⟩ : ∃ c, v[j % k]? = some c := ⟨_, List.getElem?_eq_getElem (by omega)⟩
  have := flatten_get h hv hc
  rw [Nat.div_add_mod', hu] at this
  cases this
  exact ⟨v, hv, hc⟩
theorem made_df (w : World) (n : Nat) (hn : n ≤ 100000) : IsG (RDf AnyQ) 4 (w.alloc (.cells (madeCells #[.int .i64 0, .string ⟨#[]⟩, .int .i64 0, .slice none 0 0] (n * 4)) 86)) (some ⟨w.heap.size, 0, none⟩) n n (List.replicate n {}) := by
  have h4 : ∀ v ∈ List.replicate n [Value.int .i64 0, .string ⟨#[]⟩, .int .i64 0, .slice none 0 0], v.length = 4 := fun v hv => by rw [List.eq_of_mem_replicate hv]; rfl
  refine ⟨by simp, List.replicate n [.int .i64 0, .string ⟨#[]⟩, .int .i64 0, .slice none 0 0], by simp, h4, ⟨by rw [flatten_len h4]; simp, Nat.le_refl _, by simp [maxLen]; omega, fun hp => ⟨w.heap.size, 0, rfl, by simp, fun j u hu => ?_⟩⟩, fun i x v hx hv => ?_⟩
  · obtain ⟨v, hv, hu'⟩ := flatten_at (by omega) h4 hu
    have hjl : j < n * 4 := by
      have := (List.getElem?_eq_some_iff.1 hu).1
      rw [flatten_len h4] at this
      simpa using this
    have hv' := List.eq_of_mem_replicate (List.mem_of_getElem? hv)
    subst hv'
    rw [cell_of_row _ _ _ _ 86 (0, 0) (alloc_at rfl)]
    have hm : j % 4 < 4 := Nat.mod_lt _ (by omega)
    simp only [madeCells, Nat.zero_add]
    rw [Array.getElem?_map, Array.getElem?_range, if_pos hjl]
    simp only [Option.map_some]
    rw [← hu']
    have : j % 4 = 0 ∨ j % 4 = 1 ∨ j % 4 = 2 ∨ j % 4 = 3 := by omega
    rcases this with e | e | e | e <;> simp [e]
  · have hx' := List.eq_of_mem_replicate (List.mem_of_getElem? hx)
    have hv' := List.eq_of_mem_replicate (List.mem_of_getElem? hv)
    subst hx' hv'
    exact ⟨none, 0, 0, rfl, IsG.nil (by simp [maxLen]), ⟨i64_0, i64_0, empty_size⟩, trivial⟩
theorem df_at {w : World} {A : Option Addr} {n c : Nat} {D : List Dd} (h : IsG (RDf AnyQ) 4 w A n c D) {k : Nat} {x : Dd} (hx : D[k]? = some x) : ∃ b o P m q, A = some ⟨b, o, none⟩ ∧ b < w.heap.size ∧ IsG RPt 4 w P m q x.parts ∧ x.wf ∧
    w.cell? ⟨b, o + k * 4, none⟩ = some (.int .i64 x.is) ∧ w.cell? ⟨b, o + k * 4 + 1, none⟩ = some (.string x.name) ∧ w.cell? ⟨b, o + k * 4 + 2, none⟩ = some (.int .i64 x.n) ∧ w.cell? ⟨b, o + k * 4 + 3, none⟩ = some (.slice P m q) := by
  obtain ⟨b, o, v, hA, hb, hl, ⟨P, m, q, rfl, h1, h2, _⟩, hc⟩ := h.at_ hx
  exact ⟨b, o, P, m, q, hA, hb, h1, h2, by simpa using hc 0 _ rfl, hc 1 _ rfl, hc 2 _ rfl, hc 3 _ rfl⟩
def RetDl (w : World) (D : List Dd) (e : Ending) (w' : World) : Prop := ∃ A n c, e = .returned (.slice A n c) ∧ IsG (RDf AnyQ) 4 w' A n c D ∧ Below w.heap.size w w'
theorem i64_1 : i64 1 := ⟨by decide, by decide⟩
theorem i64_2 : i64 2 := ⟨by decide, by decide⟩
theorem i64_3 : i64 3 := ⟨by decide, by decide⟩
theorem i64_4 : i64 4 := ⟨by decide, by decide⟩
theorem one_pt {w : World} {D : List Dp} {vs : List (List Value)} (h1 : vs.length = D.length) (h4 : ∀ (i : Nat) (x : Dp) (v : List Value), D[i]? = some x → vs[i]? = some v → RPt w x v) : ∀ u ∈ vs.flatten, u.oneCell' = true := by
  intro u hu
  obtain ⟨v, hv, huv⟩ := List.mem_flatten.1 hu
  obtain ⟨j, hj, rfl⟩ := List.getElem_of_mem hv
  obtain ⟨he, _⟩ := h4 j (D[j]'(by omega)) _ (List.getElem?_eq_getElem _) (List.getElem?_eq_getElem hj)
  rw [he] at huv
  simp at huv
  rcases huv with rfl | rfl | rfl | rfl <;> rfl
theorem one_pt1 (p : Dp) : ∀ u ∈ [Value.int .i64 p.is, .string noName, .int .i64 p.n, .slice none 0 0], u.oneCell' = true := by
  intro u hu
  simp at hu
  rcases hu with rfl | rfl | rfl | rfl <;> rfl
/-- the switch: definitions, the open structure, and a part (0: none) -/
def swF (s : List Dd × Int) (c : In) : List Dd × Int × Dp :=
  if c.op = 1 then (withF (withF s.1 c.x { is := 1 }) c.a { is := 4, n := c.x }, s.2, ⟨0, 0⟩)
  else if c.op = 2 then (withF s.1 c.a { is := 4, n := c.x }, s.2, ⟨0, 0⟩)
  else if c.op = 3 then (withF s.1 c.a { is := 2, n := c.n }, s.2, ⟨0, 0⟩)
  else if c.op = 4 ∨ c.op = 8 then (withF s.1 c.a { is := 3, name := c.name, n := c.n }, c.a, ⟨0, 0⟩)
  else if c.op = 5 ∨ c.op = 9 then (withF s.1 c.x { is := 1 }, s.2, ⟨4, c.x⟩)
  else if c.op = 6 ∨ c.op = 10 then (s.1, s.2, ⟨4, c.x⟩)
  else if c.op = 7 ∨ c.op = 11 then (s.1, s.2, ⟨2, c.n⟩)
  else (s.1, s.2, ⟨0, 0⟩)
theorem sw_step (s : List Dd × Int) (c : In) : dfStep s c = (if 0 < (swF s c).2.2.is then partF (swF s c).1 (swF s c).2.1 (swF s c).2.2 else (swF s c).1, (swF s c).2.1) := by
  unfold dfStep swF
  repeat' split
  all_goals first | rfl | simp_all
theorem swF_len (s : List Dd × Int) (c : In) : (swF s c).1.length = s.1.length := by
  unfold swF
  repeat' split
  all_goals simp [withF_len]
theorem swF_wf (s : List Dd × Int) (c : In) (hs : i64 s.2) (hc : c.wf) : i64 (swF s c).2.1 ∧ i64 (swF s c).2.2.is ∧ i64 (swF s c).2.2.n := by
  have h0 : i64 0 := i64_0
  have h2 : i64 2 := ⟨by decide, by decide⟩
  have h4 : i64 4 := ⟨by decide, by decide⟩
  have hx := hc.x
  have ha := hc.a
  have hn := hc.n
  unfold swF
  repeat' split
  all_goals exact ⟨by assumption, by assumption, by assumption⟩
theorem setD4 {w : World} {b : Nat} {a0 a1 a2 a3 : Value} {t : TypeId} (h : w.heap[b]? = some (.cells #[a0, a1, a2, a3] t (0, 0))) (v0 v1 v2 v3 : Value) :
    ((((w.setCell ⟨b, 0, none⟩ v0).setCell ⟨b, 1, none⟩ v1).setCell ⟨b, 2, none⟩ v2).setCell ⟨b, 3, none⟩ v3).heap[b]? = some (.cells #[v0, v1, v2, v3] t (0, 0)) := by
  have h0 := set_block (k := 0) h v0
  have h1 := set_block (k := 1) h0 v1
  have h2 := set_block (k := 2) h1 v2
  have h3 := set_block (k := 3) h2 v3
  simpa using h3
theorem mem_with {d : List Dd} {r : Int} {x y : Dd} (h : y ∈ withF d r x) : y ∈ d ∨ y = x := by
  unfold withF at h
  split at h
  · exact List.mem_or_eq_of_mem_set h
  · exact .inl h
theorem sw_mem {s : List Dd × Int} {c : In} {y : Dd} (h : y ∈ (swF s c).1) : y ∈ s.1 ∨ y.parts = [] := by
  unfold swF at h
  split at h
  · rcases mem_with h with h | rfl
    · rcases mem_with h with h | rfl
      · exact .inl h
      · exact .inr rfl
    · exact .inr rfl
  · split at h
    · rcases mem_with h with h | rfl
      · exact .inl h
      · exact .inr rfl
    · split at h
      · rcases mem_with h with h | rfl
        · exact .inl h
        · exact .inr rfl
      · split at h
        · rcases mem_with h with h | rfl
          · exact .inl h
          · exact .inr rfl
        · split at h
          · rcases mem_with h with h | rfl
            · exact .inl h
            · exact .inr rfl
          · split at h
            · exact .inl h
            · split at h <;> exact .inl h
theorem getD_mem {d : List Dd} {o : Int} (ho : 0 ≤ o ∧ o < d.length) : getD' d o ∈ d := by
  unfold getD'
  have hlt : o.toNat < d.length := by omega
  rw [List.getElem?_eq_getElem hlt]
  exact List.getElem_mem hlt
theorem step_mem {s : List Dd × Int} {c : In} {y : Dd} (h : y ∈ (dfStep s c).1) : y ∈ s.1 ∨ y.parts = [] ∨ ∃ x, (x ∈ s.1 ∨ x.parts = []) ∧ y.parts = x.parts ++ [(swF s c).2.2] := by
  rw [sw_step] at h
  simp only at h
  split at h
  · unfold partF at h
    split at h
    · rename_i ho
      rcases mem_with h with h | rfl
      · exact (sw_mem h).imp id .inl
      · exact .inr (.inr ⟨_, sw_mem (getD_mem ho), rfl⟩)
    · exact (sw_mem h).imp id .inl
  · exact (sw_mem h).imp id .inl
theorem parts_all_len : ∀ (l : List In) (s : List Dd × Int) (b : Nat), (∀ x ∈ s.1, x.parts.length ≤ b) → ∀ x ∈ (dfG s l).1, x.parts.length ≤ b + l.length
  | [], s, b, h => h
  | i :: l, s, b, h => by
    intro x hx
    have := parts_all_len l (dfStep s i) (b + 1) (fun y hy => by
      rcases step_mem hy with h1 | h1 | ⟨z, h2, h1⟩
      · have := h y h1; omega
      · rw [h1]; simp
      · rw [h1, List.length_append, List.length_singleton]
        rcases h2 with h2 | h2
        · have := h z h2; omega
        · rw [h2]; simp) x hx
    rw [List.length_cons]
    omega
theorem runDefs (n : Nat) (hn : n ≤ 100000) : ∀ w, (Instr.makeSlice 82 (.int .i64 (n : Int)) (.int .i64 (n : Int))).run Try.prog w = .ok (.slice (some ⟨w.heap.size, 0, none⟩) n n) (w.alloc (.cells (madeCells #[.int .i64 0, .string ⟨#[]⟩, .int .i64 0, .slice none 0 0] (n * 4)) 86)) := fun w => by
  obtain ⟨i, hi, hzz⟩ := Option.map_eq_some_iff.1 infoDf
  simp only [Prod.mk.injEq] at hzz
  obtain ⟨hz, hs, hb⟩ := hzz
  have := run_make (P := Try.prog) w 82 86 i _ Try.underlying82 hi hz .i64 .i64 (n : Int) (n : Int) (by omega) (Int.le_refl _) (by rw [hb]; omega) (by omega)
  rw [hs] at this
  simpa [Value.cells] using this
theorem dfG_append : ∀ (a b : List In) (s : List Dd × Int), dfG s (a ++ b) = dfG (dfG s a) b
  | [], _, _ => rfl
  | i :: a, b, s => dfG_append a b _
set_option maxRecDepth 100000 in
set_option maxHeartbeats 8000000 in
theorem rdefs_any (A : Option Addr) (n c : Nat) (l : List In) (N : Nat) (w : World) (h : IsK w A n c l) (hn : n ≤ 4000) (hN : N ≤ 100000) :
    Calls Try.prog 41 #[.slice A n c, .int .i64 (N : Int)] w (RetDl w (defsF l N)) := by
  have hl := h.len
  have Hl := Lib.hid hl
  have hmk := runDefs N hN
  clear hl
  go_enter Try.func41, Try.ntmps41
  go_upto_region 2 with fail
  refine on_world (fun X => Below w.heap.size w X ∧ IsG (RDf AnyQ) 4 X (some ⟨w.heap.size, 0, none⟩) N N (List.replicate N {})) ⟨(Below.refl _ _).alloc (Nat.le_refl _) _, made_df w N hN⟩ ?_
  rintro X ⟨hbX, hD0⟩
  clear hmk
  go_wp2
  go_loopw [5, 6, 7] (fun dv ov iv wr => ∃ (k : Nat) (B : Option Addr) (m d : Nat) (D : List Dd) (opn : Int), k ≤ n ∧ iv = .int .i64 k ∧ dv = .slice B m d ∧ ov = .int .i64 opn ∧ IsG (RDf AnyQ) 4 wr B m d D ∧ Hid (dfG (List.replicate N {}, -1) (l.take k) = (D, opn)) ∧ Below w.heap.size w wr ∧ i64 opn ∧ D.length = N) (fun _ _ iv _ => n - (intOf iv).toNat)
  case atStart => exact ⟨0, _, N, N, _, -1, Nat.zero_le _, rfl, rfl, rfl, hD0, Lib.hid rfl, hbX, ⟨by decide, by decide⟩, by simp⟩
  case round =>
    clear hD0 hbX
    obtain ⟨k, B, m, d, D, opn, hk, rfl, rfl, rfl, hD, hres, hb, hopn, hDl⟩ := hrel
    have hml := hD.len
    by_cases hlt : k < n
    · have hKr : IsK wr A n c l := IsG.below keepsIn h hb
      obtain ⟨i, hik⟩ := hKr.get hlt
      obtain ⟨b1, o1, rfl, hbb, hwf, h0, h1, h2, h3, h4, h5⟩ := hKr.at' hik
      have htk : dfG (List.replicate N {}, -1) (l.take (k + 1)) = dfStep (D, opn) i := by
        rw [List.take_succ_eq_append_getElem (by have := Hl.out; omega), dfG_append, hres.out]
        have : l[k]'(by have := Hl.out; omega) = i := (List.getElem?_eq_some_iff.1 hik).2
        rw [this]
        rfl
      have Htk := Lib.hid htk
      have hp : (k : Int) < (n : Int) := by omega
      have hcap := hKr.cap_le
      clear htk hik hKr
      go_upto_region 8 with fail
      refine on_world (fun Y => Below wr.heap.size wr Y ∧ Y.heap[wr.heap.size]? = some (.cells #[.int .i64 i.op, .int .i64 i.x, .int .i64 i.a, .string i.name, .int .i64 i.n, .bool i.neg] 48 (0, 0)) ∧ Y.heap[wr.heap.size + 1]? = some (.cells #[.int .i64 0, .string ⟨#[]⟩, .int .i64 0, .slice none 0 0] 86 (0, 0)))
        ⟨((Below.refl _ _).alloc (Nat.le_refl _) _).alloc (by simp) _, (alloc_past (by simp)).trans (alloc_at rfl), alloc_at (by simp)⟩ ?_
      rintro Y ⟨hbW, yi, yp⟩
      obtain ⟨gi, hgi⟩ : ∃ gi, gi = wr.heap.size := ⟨_, rfl⟩
      obtain ⟨gp, hgp⟩ : ∃ gp, gp = wr.heap.size + 1 := ⟨_, rfl⟩
      rw [← hgp] at yp ⊢
      rw [← hgi] at yi ⊢
      have hne : ¬ gi = gp := by omega
      have hne' : ¬ gp = gi := by omega
      have hlp : wr.heap.size ≤ gp := by omega
      have hli := block_lt yi
      have hlp' := block_lt yp
      obtain ⟨hD', hoD⟩ := df_off hD hlp
      have hDY := hD'.below (keepsDf _) hbW
      have hwY := hbW.size
      obtain ⟨D1, hD1⟩ : ∃ D1, (swF (D, opn) i).1 = D1 := ⟨_, rfl⟩
      obtain ⟨o1, ho1⟩ : ∃ o1, (swF (D, opn) i).2.1 = o1 := ⟨_, rfl⟩
      obtain ⟨p1, hp1⟩ : ∃ p1, (swF (D, opn) i).2.2 = p1 := ⟨_, rfl⟩
      have hsw := swF_wf (D, opn) i hopn hwf
      have hswl := swF_len (D, opn) i
      rw [ho1, hp1] at hsw
      rw [hD1] at hswl
      simp only at hswl
      have t0 := cells_of yi 0
      have t1 := cells_of yi 1
      have t2 := cells_of yi 2
      have t3 := cells_of yi 3
      have t4 := cells_of yi 4
      simp at t0 t1 t2 t3 t4
      have HD1 := Lib.hid hD1
      have Ho1 := Lib.hid ho1
      have Hp1 := Lib.hid hp1
      have Hswl := Lib.hid hswl
      clear h0 h1 h2 h3 h4 h5 hbb hgi hgp hD hD1 ho1 hp1 hswl
      go_upto_block 2 with fail
      go_cut [5, 6] from 26 to 94 (fun dv ov wx => ∃ (B1 : Option Addr) (m1 d1 : Nat), dv = .slice B1 m1 d1 ∧ ov = .int .i64 o1 ∧ IsG (RDf AnyQ) 4 wx B1 m1 d1 D1 ∧ wx.heap[gp]? = some (.cells #[.int .i64 p1.is, .string ⟨#[]⟩, .int .i64 p1.n, .slice none 0 0] 86 (0, 0)) ∧ Below wr.heap.size wr wx)
      case first =>
        by_cases e1 : i.op = 1
        · have hs : swF (D, opn) i = (withF (withF D i.x { is := 1 }) i.a { is := 4, n := i.x }, opn, ⟨0, 0⟩) := by unfold swF; rw [if_pos e1]
          have q1 : D1 = (swF (D, opn) i).1 := HD1.out.symm
          have q2 : o1 = (swF (D, opn) i).2.1 := Ho1.out.symm
          have q3 : p1 = (swF (D, opn) i).2.2 := Hp1.out.symm
          rw [hs] at q1 q2 q3
          simp only at q1 q2 q3
          subst q1 q2 q3
          clear HD1 Ho1 Hp1 hs
          have f1 : (i.op == 1) = true := by simp; omega
          clear e1
          go_wp2_with fail
          refine (rwith_any (OffQ gp) _ _ _ (D) (i.x) ({ is := 1 } : Dd) none 0 0 _ hDY (IsG.nil (by simp [maxLen])) ⟨i64_1, i64_0, empty_size⟩ (fun h => by omega) (by omega)).mono ?_
          rintro e w1 ⟨A1, n1, c1, rfl, hE, hnw, hbn⟩
          replace hoD := hoD.new (block_lt yp) hnw
          replace hbW := hbW.trans (hbn.mono hbW.size)
          replace yp := (hbn.block gp (block_lt yp)).trans yp
          replace yi := (hbn.block gi (block_lt yi)).trans yi
          have hEl := hE.len
          simp only [withF_len] at hEl
          clear hbn hnw t0 t1 t2 t3 t4
          have t0 := cells_of yi 0
          have t1 := cells_of yi 1
          have t2 := cells_of yi 2
          have t3 := cells_of yi 3
          have t4 := cells_of yi 4
          simp at t0 t1 t2 t3 t4
          go_wp2_with fail
          refine (rwith_any (OffQ gp) _ _ _ (withF D i.x { is := 1 }) (i.a) ({ is := 4, n := i.x } : Dd) none 0 0 _ hE (IsG.nil (by simp [maxLen])) ⟨i64_4, hwf.x, empty_size⟩ (fun h => by omega) (by omega)).mono ?_
          rintro e w1 ⟨A1, n1, c1, rfl, hE, hnw, hbn⟩
          replace hoD := hoD.new (block_lt yp) hnw
          replace hbW := hbW.trans (hbn.mono hbW.size)
          replace yp := (hbn.block gp (block_lt yp)).trans yp
          replace yi := (hbn.block gi (block_lt yi)).trans yi
          have hEl := hE.len
          simp only [withF_len] at hEl
          clear hbn hnw t0 t1 t2 t3 t4
          have t0 := cells_of yi 0
          have t1 := cells_of yi 1
          have t2 := cells_of yi 2
          have t3 := cells_of yi 3
          have t4 := cells_of yi 4
          simp at t0 t1 t2 t3 t4
          go_wp2_with fail
          go_meet
          exact ⟨_, _, _, rfl, rfl, df_any hE, yp, hbW⟩
        by_cases e2 : i.op = 2
        · have hs : swF (D, opn) i = (withF D i.a { is := 4, n := i.x }, opn, ⟨0, 0⟩) := by unfold swF; rw [if_neg e1, if_pos e2]
          have q1 : D1 = (swF (D, opn) i).1 := HD1.out.symm
          have q2 : o1 = (swF (D, opn) i).2.1 := Ho1.out.symm
          have q3 : p1 = (swF (D, opn) i).2.2 := Hp1.out.symm
          rw [hs] at q1 q2 q3
          simp only at q1 q2 q3
          subst q1 q2 q3
          clear HD1 Ho1 Hp1 hs
          have f1 : (i.op == 1) = false := by simp; omega
          have f2 : (i.op == 2) = true := by simp; omega
          clear e2
          go_wp2_with fail
          refine (rwith_any (OffQ gp) _ _ _ (D) (i.a) ({ is := 4, n := i.x } : Dd) none 0 0 _ hDY (IsG.nil (by simp [maxLen])) ⟨i64_4, hwf.x, empty_size⟩ (fun h => by omega) (by omega)).mono ?_
          rintro e w1 ⟨A1, n1, c1, rfl, hE, hnw, hbn⟩
          replace hoD := hoD.new (block_lt yp) hnw
          replace hbW := hbW.trans (hbn.mono hbW.size)
          replace yp := (hbn.block gp (block_lt yp)).trans yp
          replace yi := (hbn.block gi (block_lt yi)).trans yi
          have hEl := hE.len
          simp only [withF_len] at hEl
          clear hbn hnw t0 t1 t2 t3 t4
          have t0 := cells_of yi 0
          have t1 := cells_of yi 1
          have t2 := cells_of yi 2
          have t3 := cells_of yi 3
          have t4 := cells_of yi 4
          simp at t0 t1 t2 t3 t4
          go_wp2_with fail
          go_meet
          exact ⟨_, _, _, rfl, rfl, df_any hE, yp, hbW⟩
        by_cases e3 : i.op = 3
        · have hs : swF (D, opn) i = (withF D i.a { is := 2, n := i.n }, opn, ⟨0, 0⟩) := by unfold swF; rw [if_neg e1, if_neg e2, if_pos e3]
          have q1 : D1 = (swF (D, opn) i).1 := HD1.out.symm
          have q2 : o1 = (swF (D, opn) i).2.1 := Ho1.out.symm
          have q3 : p1 = (swF (D, opn) i).2.2 := Hp1.out.symm
          rw [hs] at q1 q2 q3
          simp only at q1 q2 q3
          subst q1 q2 q3
          clear HD1 Ho1 Hp1 hs
          have f1 : (i.op == 1) = false := by simp; omega
          have f2 : (i.op == 2) = false := by simp; omega
          have f3 : (i.op == 3) = true := by simp; omega
          clear e3
          go_wp2_with fail
          refine (rwith_any (OffQ gp) _ _ _ (D) (i.a) ({ is := 2, n := i.n } : Dd) none 0 0 _ hDY (IsG.nil (by simp [maxLen])) ⟨i64_2, hwf.n, empty_size⟩ (fun h => by omega) (by omega)).mono ?_
          rintro e w1 ⟨A1, n1, c1, rfl, hE, hnw, hbn⟩
          replace hoD := hoD.new (block_lt yp) hnw
          replace hbW := hbW.trans (hbn.mono hbW.size)
          replace yp := (hbn.block gp (block_lt yp)).trans yp
          replace yi := (hbn.block gi (block_lt yi)).trans yi
          have hEl := hE.len
          simp only [withF_len] at hEl
          clear hbn hnw t0 t1 t2 t3 t4
          have t0 := cells_of yi 0
          have t1 := cells_of yi 1
          have t2 := cells_of yi 2
          have t3 := cells_of yi 3
          have t4 := cells_of yi 4
          simp at t0 t1 t2 t3 t4
          go_wp2_with fail
          go_meet
          exact ⟨_, _, _, rfl, rfl, df_any hE, yp, hbW⟩
        by_cases e4 : i.op = 4 ∨ i.op = 8
        · have hs : swF (D, opn) i = (withF D i.a { is := 3, name := i.name, n := i.n }, i.a, ⟨0, 0⟩) := by unfold swF; rw [if_neg e1, if_neg e2, if_neg e3, if_pos e4]
          have q1 : D1 = (swF (D, opn) i).1 := HD1.out.symm
          have q2 : o1 = (swF (D, opn) i).2.1 := Ho1.out.symm
          have q3 : p1 = (swF (D, opn) i).2.2 := Hp1.out.symm
          rw [hs] at q1 q2 q3
          simp only at q1 q2 q3
          subst q1 q2 q3
          clear HD1 Ho1 Hp1 hs
          rcases e4 with e4 | e4
          all_goals
            have f1 : (i.op == 1) = decide (i.op = 1) := by simp [BEq.beq]
            have f2 : (i.op == 2) = decide (i.op = 2) := by simp [BEq.beq]
            have f3 : (i.op == 3) = decide (i.op = 3) := by simp [BEq.beq]
            have f4 : (i.op == 4) = decide (i.op = 4) := by simp [BEq.beq]
            have f8 : (i.op == 8) = decide (i.op = 8) := by simp [BEq.beq]
            rw [decide_eq_false (by omega)] at f1
            rw [decide_eq_false (by omega)] at f2
            rw [decide_eq_false (by omega)] at f3
            first | rw [decide_eq_true (show i.op = 4 by omega)] at f4 | rw [decide_eq_false (show ¬ i.op = 4 by omega)] at f4
            first | rw [decide_eq_true (show i.op = 8 by omega)] at f8 | rw [decide_eq_false (show ¬ i.op = 8 by omega)] at f8
            clear e4
            go_wp2_with fail
            refine (rwith_any (OffQ gp) _ _ _ (D) (i.a) ({ is := 3, name := i.name, n := i.n } : Dd) none 0 0 _ hDY (IsG.nil (by simp [maxLen])) ⟨i64_3, hwf.n, hwf.name⟩ (fun h => by omega) (by omega)).mono ?_
            rintro e w1 ⟨A1, n1, c1, rfl, hE, hnw, hbn⟩
            replace hoD := hoD.new (block_lt yp) hnw
            replace hbW := hbW.trans (hbn.mono hbW.size)
            replace yp := (hbn.block gp (block_lt yp)).trans yp
            replace yi := (hbn.block gi (block_lt yi)).trans yi
            have hEl := hE.len
            simp only [withF_len] at hEl
            clear hbn hnw t0 t1 t2 t3 t4
            have t0 := cells_of yi 0
            have t1 := cells_of yi 1
            have t2 := cells_of yi 2
            have t3 := cells_of yi 3
            have t4 := cells_of yi 4
            simp at t0 t1 t2 t3 t4
            go_wp2_with fail
            go_meet
            exact ⟨_, _, _, rfl, rfl, df_any hE, yp, hbW⟩
        by_cases e5 : i.op = 5 ∨ i.op = 9
        · have hs : swF (D, opn) i = (withF D i.x { is := 1 }, opn, ⟨4, i.x⟩) := by unfold swF; rw [if_neg e1, if_neg e2, if_neg e3, if_neg e4, if_pos e5]
          have q1 : D1 = (swF (D, opn) i).1 := HD1.out.symm
          have q2 : o1 = (swF (D, opn) i).2.1 := Ho1.out.symm
          have q3 : p1 = (swF (D, opn) i).2.2 := Hp1.out.symm
          rw [hs] at q1 q2 q3
          simp only at q1 q2 q3
          subst q1 q2 q3
          clear HD1 Ho1 Hp1 hs
          rcases e5 with e5 | e5
          all_goals
            have f1 : (i.op == 1) = decide (i.op = 1) := by simp [BEq.beq]
            have f2 : (i.op == 2) = decide (i.op = 2) := by simp [BEq.beq]
            have f3 : (i.op == 3) = decide (i.op = 3) := by simp [BEq.beq]
            have f4 : (i.op == 4) = decide (i.op = 4) := by simp [BEq.beq]
            have f8 : (i.op == 8) = decide (i.op = 8) := by simp [BEq.beq]
            have f5 : (i.op == 5) = decide (i.op = 5) := by simp [BEq.beq]
            have f9 : (i.op == 9) = decide (i.op = 9) := by simp [BEq.beq]
            rw [decide_eq_false (by omega)] at f1
            rw [decide_eq_false (by omega)] at f2
            rw [decide_eq_false (by omega)] at f3
            rw [decide_eq_false (by omega)] at f4
            rw [decide_eq_false (by omega)] at f8
            first | rw [decide_eq_true (show i.op = 5 by omega)] at f5 | rw [decide_eq_false (show ¬ i.op = 5 by omega)] at f5
            first | rw [decide_eq_true (show i.op = 9 by omega)] at f9 | rw [decide_eq_false (show ¬ i.op = 9 by omega)] at f9
            clear e5
            go_wp2_with fail
            refine (rwith_any (OffQ gp) _ _ _ (D) (i.x) ({ is := 1 } : Dd) none 0 0 _ hDY (IsG.nil (by simp [maxLen])) ⟨i64_1, i64_0, empty_size⟩ (fun h => by omega) (by omega)).mono ?_
            rintro e w1 ⟨A1, n1, c1, rfl, hE, hnw, hbn⟩
            replace hoD := hoD.new (block_lt yp) hnw
            replace hbW := hbW.trans (hbn.mono hbW.size)
            replace yp := (hbn.block gp (block_lt yp)).trans yp
            replace yi := (hbn.block gi (block_lt yi)).trans yi
            have hEl := hE.len
            simp only [withF_len] at hEl
            clear hbn hnw t0 t1 t2 t3 t4
            have t0 := cells_of yi 0
            have t1 := cells_of yi 1
            have t2 := cells_of yi 2
            have t3 := cells_of yi 3
            have t4 := cells_of yi 4
            simp at t0 t1 t2 t3 t4
            have u0 := cells_of yp 0
            have u1 := cells_of yp 1
            have u2 := cells_of yp 2
            have u3 := cells_of yp 3
            have v0 := frozen_of yp 0
            have v1 := frozen_of yp 1
            have v2 := frozen_of yp 2
            have v3 := frozen_of yp 3
            simp at u0 u1 u2 u3
            go_wp2_with fail
            go_meet
            exact ⟨_, _, _, rfl, rfl, df_any (df_but hE hoD ((((But.refl _ gp).setB _).setB _).setB _ |>.setB _)), setD4 yp _ _ _ _, Below.setCell (Below.setCell (Below.setCell (Below.setCell hbW hlp _) hlp _) hlp _) hlp _⟩
        by_cases e6 : i.op = 6 ∨ i.op = 10
        · have hs : swF (D, opn) i = (D, opn, ⟨4, i.x⟩) := by unfold swF; rw [if_neg e1, if_neg e2, if_neg e3, if_neg e4, if_neg e5, if_pos e6]
          have q1 : D1 = (swF (D, opn) i).1 := HD1.out.symm
          have q2 : o1 = (swF (D, opn) i).2.1 := Ho1.out.symm
          have q3 : p1 = (swF (D, opn) i).2.2 := Hp1.out.symm
          rw [hs] at q1 q2 q3
          simp only at q1 q2 q3
          subst q1 q2 q3
          clear HD1 Ho1 Hp1 hs
          have u0 := cells_of yp 0
          have u1 := cells_of yp 1
          have u2 := cells_of yp 2
          have u3 := cells_of yp 3
          have v0 := frozen_of yp 0
          have v1 := frozen_of yp 1
          have v2 := frozen_of yp 2
          have v3 := frozen_of yp 3
          simp at u0 u1 u2 u3
          rcases e6 with e6 | e6
          all_goals
            have f1 : (i.op == 1) = decide (i.op = 1) := by simp [BEq.beq]
            have f2 : (i.op == 2) = decide (i.op = 2) := by simp [BEq.beq]
            have f3 : (i.op == 3) = decide (i.op = 3) := by simp [BEq.beq]
            have f4 : (i.op == 4) = decide (i.op = 4) := by simp [BEq.beq]
            have f8 : (i.op == 8) = decide (i.op = 8) := by simp [BEq.beq]
            have f5 : (i.op == 5) = decide (i.op = 5) := by simp [BEq.beq]
            have f9 : (i.op == 9) = decide (i.op = 9) := by simp [BEq.beq]
            have f6 : (i.op == 6) = decide (i.op = 6) := by simp [BEq.beq]
            have f10 : (i.op == 10) = decide (i.op = 10) := by simp [BEq.beq]
            rw [decide_eq_false (by omega)] at f1
            rw [decide_eq_false (by omega)] at f2
            rw [decide_eq_false (by omega)] at f3
            rw [decide_eq_false (by omega)] at f4
            rw [decide_eq_false (by omega)] at f8
            rw [decide_eq_false (by omega)] at f5
            rw [decide_eq_false (by omega)] at f9
            first | rw [decide_eq_true (show i.op = 6 by omega)] at f6 | rw [decide_eq_false (show ¬ i.op = 6 by omega)] at f6
            first | rw [decide_eq_true (show i.op = 10 by omega)] at f10 | rw [decide_eq_false (show ¬ i.op = 10 by omega)] at f10
            clear e6
            go_wp2_with fail
            go_meet
            exact ⟨_, _, _, rfl, rfl, df_any (df_but hDY hoD ((((But.refl _ gp).setB _).setB _).setB _ |>.setB _)), setD4 yp _ _ _ _, Below.setCell (Below.setCell (Below.setCell (Below.setCell hbW hlp _) hlp _) hlp _) hlp _⟩
        by_cases e7 : i.op = 7 ∨ i.op = 11
        · have hs : swF (D, opn) i = (D, opn, ⟨2, i.n⟩) := by unfold swF; rw [if_neg e1, if_neg e2, if_neg e3, if_neg e4, if_neg e5, if_neg e6, if_pos e7]
          have q1 : D1 = (swF (D, opn) i).1 := HD1.out.symm
          have q2 : o1 = (swF (D, opn) i).2.1 := Ho1.out.symm
          have q3 : p1 = (swF (D, opn) i).2.2 := Hp1.out.symm
          rw [hs] at q1 q2 q3
          simp only at q1 q2 q3
          subst q1 q2 q3
          clear HD1 Ho1 Hp1 hs
          have u0 := cells_of yp 0
          have u1 := cells_of yp 1
          have u2 := cells_of yp 2
          have u3 := cells_of yp 3
          have v0 := frozen_of yp 0
          have v1 := frozen_of yp 1
          have v2 := frozen_of yp 2
          have v3 := frozen_of yp 3
          simp at u0 u1 u2 u3
          rcases e7 with e7 | e7
          all_goals
            have f1 : (i.op == 1) = decide (i.op = 1) := by simp [BEq.beq]
            have f2 : (i.op == 2) = decide (i.op = 2) := by simp [BEq.beq]
            have f3 : (i.op == 3) = decide (i.op = 3) := by simp [BEq.beq]
            have f4 : (i.op == 4) = decide (i.op = 4) := by simp [BEq.beq]
            have f8 : (i.op == 8) = decide (i.op = 8) := by simp [BEq.beq]
            have f5 : (i.op == 5) = decide (i.op = 5) := by simp [BEq.beq]
            have f9 : (i.op == 9) = decide (i.op = 9) := by simp [BEq.beq]
            have f6 : (i.op == 6) = decide (i.op = 6) := by simp [BEq.beq]
            have f10 : (i.op == 10) = decide (i.op = 10) := by simp [BEq.beq]
            have f7 : (i.op == 7) = decide (i.op = 7) := by simp [BEq.beq]
            have f11 : (i.op == 11) = decide (i.op = 11) := by simp [BEq.beq]
            rw [decide_eq_false (by omega)] at f1
            rw [decide_eq_false (by omega)] at f2
            rw [decide_eq_false (by omega)] at f3
            rw [decide_eq_false (by omega)] at f4
            rw [decide_eq_false (by omega)] at f8
            rw [decide_eq_false (by omega)] at f5
            rw [decide_eq_false (by omega)] at f9
            rw [decide_eq_false (by omega)] at f6
            rw [decide_eq_false (by omega)] at f10
            first | rw [decide_eq_true (show i.op = 7 by omega)] at f7 | rw [decide_eq_false (show ¬ i.op = 7 by omega)] at f7
            first | rw [decide_eq_true (show i.op = 11 by omega)] at f11 | rw [decide_eq_false (show ¬ i.op = 11 by omega)] at f11
            clear e7
            go_wp2_with fail
            go_meet
            exact ⟨_, _, _, rfl, rfl, df_any (df_but hDY hoD ((((But.refl _ gp).setB _).setB _).setB _ |>.setB _)), setD4 yp _ _ _ _, Below.setCell (Below.setCell (Below.setCell (Below.setCell hbW hlp _) hlp _) hlp _) hlp _⟩
        have hs : swF (D, opn) i = (D, opn, ⟨0, 0⟩) := by unfold swF; rw [if_neg e1, if_neg e2, if_neg e3, if_neg e4, if_neg e5, if_neg e6, if_neg e7]
        have q1 : D1 = (swF (D, opn) i).1 := HD1.out.symm
        have q2 : o1 = (swF (D, opn) i).2.1 := Ho1.out.symm
        have q3 : p1 = (swF (D, opn) i).2.2 := Hp1.out.symm
        rw [hs] at q1 q2 q3
        simp only at q1 q2 q3
        subst q1 q2 q3
        clear HD1 Ho1 Hp1 hs
        have f1 : (i.op == 1) = false := by simp; omega
        have f2 : (i.op == 2) = false := by simp; omega
        have f3 : (i.op == 3) = false := by simp; omega
        have f4 : (i.op == 4) = false := by simp; omega
        have f5 : (i.op == 5) = false := by simp; omega
        have f6 : (i.op == 6) = false := by simp; omega
        have f7 : (i.op == 7) = false := by simp; omega
        have f8 : (i.op == 8) = false := by simp; omega
        have f9 : (i.op == 9) = false := by simp; omega
        have f10 : (i.op == 10) = false := by simp; omega
        have f11 : (i.op == 11) = false := by simp; omega
        go_wp2_with fail
        go_meet
        exact ⟨_, _, _, rfl, rfl, df_any hDY, yp, hbW⟩
      case rest =>
        obtain ⟨B1, m1, d1, rfl, rfl, hE, yp, hbx⟩ := hcut
        have hEl := hE.len
        have hstep := sw_step (D, opn) i
        rw [HD1.out, Ho1.out, Hp1.out] at hstep
        have Hstep := Lib.hid hstep
        have hparts : ∀ x ∈ D1, x.parts.length ≤ k := fun x hx => by
          rw [← HD1.out] at hx
          rcases sw_mem hx with h1 | h1
          · have h2 : D = (dfG (List.replicate N {}, -1) (l.take k)).1 := by rw [hres.out]
            simp only at h1
            rw [h2] at h1
            have := parts_all_len (l.take k) (List.replicate N {}, -1) 0 (fun y hy => by rw [List.eq_of_mem_replicate hy]; simp) x h1
            rw [List.length_take] at this
            omega
          · rw [h1]; simp
        have Hparts := Lib.hid hparts
        clear hparts
        have hswl := Hswl.out
        have hlpx := block_lt yp
        have hbx2 : Below w.heap.size w wc := hb.trans (hbx.mono hb.size)
        have hwc : wr.heap.size ≤ wc.heap.size := hbx.size
        have hwc0 := hbx2.size
        have hk12 : k + 1 ≤ 4000 := by omega
        clear t0 t1 t2 t3 t4 yi hDY hD' hoD HD1 Ho1 Hp1 hstep hbx hbW hres hwY hli hlp' Hswl
        have u0 := cells_of yp 0
        have u1 := cells_of yp 1
        have u2 := cells_of yp 2
        have u3 := cells_of yp 3
        have v0 := frozen_of yp 0
        have v1 := frozen_of yp 1
        have v2 := frozen_of yp 2
        have v3 := frozen_of yp 3
        simp at u0 u1 u2 u3
        by_cases hpz : 0 < p1.is
        · by_cases ho : 0 ≤ o1 ∧ o1 < m1
          · obtain ⟨ho0, ho1⟩ := ho
            obtain ⟨q, rfl⟩ : ∃ q : Nat, o1 = q := ⟨o1.toNat, by omega⟩
            have hq : q < m1 := by omega
            obtain ⟨x, hx⟩ := hE.get hq
            obtain ⟨b2, o2, P, np, cp, rfl, hb2, hP, hxw, r0, r1, r2, r3⟩ := df_at hE hx
            have g1 : decide (0 < p1.is) = true := by simpa using hpz
            have g2 : decide (0 ≤ (q : Int)) = true := by simp
            have g3 : decide ((q : Int) < (m1 : Int)) = true := by simpa using hq
            have hfin : dfStep (D, opn) i = (withF D1 (q : Int) { x with parts := x.parts ++ [p1] }, (q : Int)) := by
              rw [Hstep.out, if_pos hpz]
              unfold partF
              have hgd : getD' D1 (q : Int) = x := by unfold getD'; rw [Int.toNat_natCast, hx]; rfl
              rw [if_pos (by omega), hgd]
            have Hfin := Lib.hid hfin
            have hnp : np ≤ 4000 := by
              have := Hparts.out x (List.mem_of_getElem? hx)
              have := hP.len
              omega
            clear Hstep hfin hpz hx Hparts
            go_upto_region 32 with fail
            refine on_world (fun V => Below wc.heap.size wc V ∧ V.heap[wc.heap.size]? = some (.cells #[.int .i64 x.is, .string x.name, .int .i64 x.n, .slice P np cp] 86 (0, 0))) ⟨(Below.refl _ _).alloc (Nat.le_refl _) _, alloc_at rfl⟩ ?_
            rintro Z ⟨hbZ, xg⟩
            obtain ⟨gx, hgx⟩ : ∃ gx, gx = wc.heap.size := ⟨_, rfl⟩
            rw [← hgx] at xg ⊢
            have hwx : wc.heap.size ≤ gx := by omega
            have hgpx : gp < gx := by omega
            have hnx : ¬ gx = gp := by omega
            have hnx' : ¬ gp = gx := by omega
            have hl0 := block_lt xg
            have hwZ := hbZ.size
            have hPZ := hP.below keepsPt hbZ
            have ypZ := (hbZ.block gp hlpx).trans yp
            have hl1 := block_lt ypZ
            have hlen := hPZ.len
            obtain ⟨vs, s1, s2, hsl, s4⟩ := hPZ.rows
            have hone := one_pt s1 s4
            have hbX1 : Below Z.heap.size Z Z := Below.refl _ _
            have k3 := cells_of xg 3
            have j0 := cells_of ypZ 0
            have j1 := cells_of ypZ 1
            have j2 := cells_of ypZ 2
            have j3 := cells_of ypZ 3
            simp at k3 j0 j1 j2 j3
            clear hgx u0 u1 u2 u3 v0 v1 v2 v3 r0 r1 r2 r3 g1 g2 g3 hPZ hcap hb2 hml hne hne' hlp
            go_region_law (first
                | (refine step_append_any (by rfl) (.tmp 112) (.tmp 114) 82 (by rfl) Z.heap.size 86 Try.underlying82 infoDf (by rfl) (by omega) (by rfl) (Tail.nil _ _ _ _ _) ?_ (by rfl) ?_ hone (by omega) (by omega) ?_ (by intro hq; cases hq) ?_; (focus (intro b hb; cases hb; first | omega | (simp; done) | (simp; omega))); (focus (refine hsl.below ?_; exact by repeat (first | exact Below.refl _ _ | exact hbX1 | refine Below.drew ?_ | refine Below.alloc ?_ ?_ _ | (first | omega | (simp; done) | (simp; omega))))); (focus (first | omega | (simp; done) | (simp; omega))); intro A1 cap1 w1 ht1 hbn1 hap1; (try simp only [Nat.zero_add, List.nil_append] at ht1 ⊢); have hbX2 : Below Z.heap.size Z w1 := Below.trans (by repeat (first | exact Below.refl _ _ | exact hbX1 | refine Below.drew ?_ | refine Below.alloc ?_ ?_ _ | (first | omega | (simp; done) | (simp; omega)))) hbn1; have hs1 := hbX2.size; have q0 := cells_of ((hbX2.block _ hl1).trans ypZ) 0; have q1 := cells_of ((hbX2.block _ hl1).trans ypZ) 1; have q2 := cells_of ((hbX2.block _ hl1).trans ypZ) 2; have q3 := cells_of ((hbX2.block _ hl1).trans ypZ) 3; simp at q0 q1 q2 q3)
                | (refine step_append_any (xs := vs.flatten) (by rfl) (.tmp 115) (.tmp 117) 82 (by rfl) Z.heap.size 86 Try.underlying82 infoDf (by rfl) (by omega) (by rfl) ?_ ?_ (by rfl) ?_ (one_pt1 p1) (by omega) (by omega) ?_ ?_ ?_; (focus (first | exact ht1 | exact ht1.below ((Below.refl _ _).alloc (Nat.le_refl _) _))); (focus (intro b hb; have hq := (hap1.blk b hb).1; first | omega | (simp; omega))); (focus (first | exact Sl.blk (cs := #[.int .i64 p1.is, .string noName, .int .i64 p1.n, .slice none 0 0]) (t := 86) (alloc_at (by first | rfl | (simp; done) | (simp; omega) | omega)) rfl (by simp [maxLen]) | exact Sl.blk (cs := #[.int .i64 p1.is, .string noName, .int .i64 p1.n, .slice none 0 0]) (t := 86) ((hap1.old _ (by first | omega | (simp; done) | (simp; omega)) (by intro a ha; cases ha; first | omega | (simp; done) | (simp; omega))).trans (alloc_at (by first | rfl | (simp; done) | (simp; omega) | omega))) rfl (by simp [maxLen]) | exact Sl.blk (cs := #[.int .i64 p1.is, .string noName, .int .i64 p1.n, .slice none 0 0]) (t := 86) ((hap1.old _ (by first | omega | (simp; done) | (simp; omega)) (by intro a ha; cases ha; first | omega | (simp; done) | (simp; omega))).trans ((alloc_past (by first | omega | (simp; done) | (simp; omega))).trans (alloc_at (by first | rfl | (simp; done) | (simp; omega) | omega)))) rfl (by simp [maxLen]))); (focus (first | omega | (simp; omega))); (focus (exact ht1.none_cap)); intro A2 cap2 w2 ht2 hbn2 hap2; have hbX3 : Below Z.heap.size Z w2 := Below.trans (by first | exact hbX2 | exact hbX2.alloc (by omega) _) hbn2; have r0 := cells_of ((hbX3.block _ hl1).trans ypZ) 0; have r1 := cells_of ((hbX3.block _ hl1).trans ypZ) 1; have r2 := cells_of ((hbX3.block _ hl1).trans ypZ) 2; have r3 := cells_of ((hbX3.block _ hl1).trans ypZ) 3; have hs3 := hbX3.size; have rc := cells_of ((hbX3.block _ hl0).trans xg) 3; have rf := frozen_of ((hbX3.block _ hl0).trans xg) 3; simp at r0 r1 r2 r3 rc)
                | fail)
            all_goals
              have hA2 : ∀ a, A2 = some a → Z.heap.size ≤ a.block := fun a ha => by
                rcases (hap2.blk a ha).2 with ⟨a0, h0, he⟩ | h2
                · rw [he]
                  rcases (hap1.blk a0 h0).2 with ⟨a1, h1, he1⟩ | h1
                  · cases h1; rw [he1]; first | exact Nat.le_refl _ | (simp; done) | (simp; omega)
                  · have h1' : Z.heap.size ≤ a0.block := Nat.le_trans (by first | exact Nat.le_refl _ | (simp; done) | (simp; omega)) h1
                    exact h1'
                · exact Nat.le_trans (by first | exact hs1 | (simp; omega)) h2
              have hz := set_block (k := 3) ((hbX3.block _ hl0).trans xg) (.slice A2 (np + 1) cap2)
              simp at hz
              have hbY : Below wc.heap.size wc (w2.setCell ⟨gx, 3, none⟩ (.slice A2 (np + 1) cap2)) := Below.setCell (hbZ.trans (hbX3.mono hwZ)) hwx _
              have htY : Tail (w2.setCell ⟨gx, 3, none⟩ (.slice A2 (np + 1) cap2)) Z.heap.size 86 4 A2 (np + 1) cap2 (vs.flatten ++ [.int .i64 p1.is, .string noName, .int .i64 p1.n, .slice none 0 0]) := ht2.at_ fun a ha => set_other (by have := hA2 a ha; omega) _
              have hPart : IsG RPt 4 (w2.setCell ⟨gx, 3, none⟩ (.slice A2 (np + 1) cap2)) A2 (np + 1) cap2 (x.parts ++ [p1]) := (TailG.snoc (R := RPt) htY hlen s1 s2 rfl (fun i x v hx hv => s4 i x v hx hv) ⟨rfl, hsw.2.1, hsw.2.2⟩).is (by omega)
              generalize (w2.setCell ⟨gx, 3, none⟩ (.slice A2 (np + 1) cap2)) = V at *
              clear hap1 hap2 ht1 ht2 hbn1 hbn2 q0 q1 q2 q3 r0 r1 r2 r3 rc rf hbX2 hbX3 xg k3 j0 j1 j2 j3 htY hA2 hs1 hs3 hsl s4 hone ypZ
              have y0 := cells_of hz 0
              have y1 := cells_of hz 1
              have y2 := cells_of hz 2
              have y3 := cells_of hz 3
              simp at y0 y1 y2 y3
              have hEV := hE.below (keepsDf AnyQ) hbY
              go_wp2_with fail
              refine (rwith_any AnyQ _ _ _ D1 (q : Int) { x with parts := x.parts ++ [p1] } A2 (np + 1) cap2 _ hEV hPart ⟨hxw.is, hxw.n, hxw.name⟩ trivial (by omega)).mono ?_
              rintro e w5 ⟨A5, n5, c5, rfl, hE5, _, hb5⟩
              have hb6 : Below w.heap.size w w5 := (hbx2.trans (hbY.mono hwc0)).trans (hb5.mono (Nat.le_trans hwc0 hbY.size))
              go_wp2_with fail
              go_roundw
              case rel => exact ⟨k + 1, A5, n5, c5, _, (q : Int), by omega, by go_num, rfl, rfl, hE5, Lib.hid (Htk.out.trans Hfin.out), hb6, hsw.1, by rw [withF_len]; omega⟩
              case measure => simp [intOf]; omega
          · have hno : dfStep (D, opn) i = (D1, o1) := by
              rw [Hstep.out, if_pos hpz]
              unfold partF
              rw [if_neg (by omega)]
            have Hno := Lib.hid hno
            have g1 : decide (0 < p1.is) = true := by simpa using hpz
            clear hno Hstep hpz
            by_cases ho0 : 0 ≤ o1
            · have g2 : decide (0 ≤ o1) = true := by simpa using ho0
              have g3 : decide (o1 < (m1 : Int)) = false := by simp; omega
              clear ho
              go_wp2_with fail
              go_roundw
              case rel => exact ⟨k + 1, _, m1, d1, D1, o1, by omega, by go_num, rfl, rfl, hE, Lib.hid (Htk.out.trans Hno.out), hbx2, hsw.1, by omega⟩
              case measure => simp [intOf]; omega
            · have g2 : decide (0 ≤ o1) = false := by simpa using ho0
              clear ho
              go_wp2_with fail
              go_roundw
              case rel => exact ⟨k + 1, _, m1, d1, D1, o1, by omega, by go_num, rfl, rfl, hE, Lib.hid (Htk.out.trans Hno.out), hbx2, hsw.1, by omega⟩
              case measure => simp [intOf]; omega
        · have hno : dfStep (D, opn) i = (D1, o1) := by rw [Hstep.out, if_neg hpz]
          have Hno := Lib.hid hno
          have g1 : decide (0 < p1.is) = false := by simpa using hpz
          clear hno Hstep hpz
          go_wp2_with fail
          go_roundw
          case rel => exact ⟨k + 1, _, m1, d1, D1, o1, by omega, by go_num, rfl, rfl, hE, Lib.hid (Htk.out.trans Hno.out), hbx2, hsw.1, by omega⟩
          case measure => simp [intOf]; omega
    · have hkn : k = n := by omega
      subst hkn
      go_wp2
      go_ret
      have hfin : defsF l N = D := by
        have := hres.out
        rw [List.take_of_length_le (by have := Hl.out; omega)] at this
        unfold defsF
        rw [this]
      rw [hfin]
      exact ⟨B, m, d, rfl, hD, hb⟩
end Go.Proofs.Ytdeaeiolehglaaa
