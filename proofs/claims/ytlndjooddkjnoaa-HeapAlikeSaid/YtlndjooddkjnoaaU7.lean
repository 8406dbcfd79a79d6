/- The walk of layer 3's within (the document's). -/
import Derived.Test.YtlndjooddkjnoaaC2
import Derived.Test.YtlndjooddkjnoaaC3
set_option linter.unusedVariables false
set_option linter.unusedSimpArgs false
namespace Go.Proofs.Ytlndjooddkjnoaa
open Go.RowKit

theorem partsU_mem {j x : Nat} {u : Tm} (h : x ∈ partsU j u) : ∃ s us k, u = .f s us ∧ k < us.length ∧ x = argP j us k := by
  cases u with
  | v n => simp [partsU] at h
  | i n => simp [partsU] at h
  | f s us =>
    obtain ⟨k, hk, rfl⟩ := List.mem_map.1 h
    exact ⟨s, us, k, rfl, List.mem_range.1 hk, rfl⟩
theorem partsU_lt {ts : List Tm} {j x : Nat} {u : Tm} (hu : subT ts j = some u) (h : x ∈ partsU j u) : x < sizes ts := by
  obtain ⟨s, us, k, rfl, hk, rfl⟩ := partsU_mem h
  exact (argP_lt hu hk).2
/-- the classes that are done, the last one first -/
def OrdOk (ts : List Tm) (cls : Nat → Nat) : List Nat → Prop
  | [] => True
  | v :: bs => OrdOk ts cls bs ∧ v ∉ bs ∧ ∀ i j u, cls i = v → doesF ts cls i = some j → subT ts j = some u → ∀ x ∈ partsU j u, cls x ∈ bs
def rkO : List Nat → Nat → Nat
  | [], _ => 0
  | v :: bs, x => if x = v then bs.length else rkO bs x
theorem rkO_lt : ∀ {l : List Nat} {x : Nat}, x ∈ l → rkO l x < l.length
  | v :: bs, x, h => by
    unfold rkO
    by_cases e : x = v
    · rw [if_pos e]; simp
    · rw [if_neg e]
      have := rkO_lt ((List.mem_cons.1 h).resolve_left e)
      simp only [List.length_cons]; omega
theorem OrdOk.rank {ts : List Tm} {cls : Nat → Nat} : ∀ {ord : List Nat}, OrdOk ts cls ord → ∀ {i j x : Nat} {u : Tm}, cls i ∈ ord → doesF ts cls i = some j → subT ts j = some u → x ∈ partsU j u → cls x ∈ ord ∧ rkO ord (cls x) < rkO ord (cls i)
  | v :: bs, h, i, j, x, u, hi, hd, hs, hx => by
    obtain ⟨h1, h2, h3⟩ := h
    by_cases e : cls i = v
    · have hm := h3 i j u e hd hs x hx
      have hne : cls x ≠ v := fun e2 => h2 (e2 ▸ hm)
      refine ⟨List.mem_cons_of_mem _ hm, ?_⟩
      unfold rkO
      rw [if_pos e, if_neg hne]
      exact rkO_lt hm
    · obtain ⟨hm, hr⟩ := h1.rank ((List.mem_cons.1 hi).resolve_left e) hd hs hx
      have hne : cls x ≠ v := fun e2 => h2 (e2 ▸ hm)
      refine ⟨List.mem_cons_of_mem _ hm, ?_⟩
      unfold rkO
      rw [if_neg e, if_neg hne]
      exact hr
def Ranked (ts : List Tm) (cls : Nat → Nat) : Prop := ∃ rk : Nat → Nat, ∀ i j s us k, i < sizes ts → doesF ts cls i = some j → subT ts j = some (.f s us) → k < us.length → rk (cls (argP j us k)) < rk (cls i)
theorem OrdOk.ranked {ts : List Tm} {cls : Nat → Nat} {ord : List Nat} (h : OrdOk ts cls ord) (hall : ∀ i, i < sizes ts → cls i ∈ ord) : Ranked ts cls :=
  ⟨rkO ord, fun i _ _ us k hi hd hs hk => (h.rank (hall i hi) hd hs (List.mem_map.2 ⟨k, List.mem_range.2 hk, rfl⟩)).2⟩
theorem OrdOk.more {ts : List Tm} {cls : Nat → Nat} {ord : List Nat} (h : OrdOk ts cls ord) {a : Nat} (ha : cls a ∉ ord) (hx : ∀ j u, doesF ts cls a = some j → subT ts j = some u → ∀ x ∈ partsU j u, cls x ∈ ord) : OrdOk ts cls (cls a :: ord) :=
  ⟨h, ha, fun i j u hi hd hs => hx j u (by rw [← does_ok.same i a hi]; exact hd) hs⟩
def Stuck (ts : List Tm) (cls : Nat → Nat) (ord : List Nat) (i : Nat) : Prop := cls i ∈ ord ∨ ∃ j u, doesF ts cls i = some j ∧ subT ts j = some u ∧ ∃ x ∈ partsU j u, cls x ∉ ord
theorem stuck_round {ts : List Tm} {cls : Nat → Nat} {ord : List Nat} (h : ∀ i, i < sizes ts → Stuck ts cls ord i) {i : Nat} (hi : i < sizes ts) (hn : cls i ∉ ord) : Round8 ts cls (doesF ts cls) := by
  refine ⟨fun i => cls i ∉ ord, ⟨i, hi, hn⟩, fun i hi hU => ?_⟩
  rcases h i hi with h1 | ⟨j, u, h1, h2, x, h3, h4⟩
  · exact absurd h1 hU
  · obtain ⟨s, us, k, rfl, hk, rfl⟩ := partsU_mem h3
    exact ⟨j, s, us, k, h1, h2, hk, h4⟩
def frees (n : Nat) (ord : List Nat) : Nat := ((List.range n).filter fun v => !decide (v ∈ ord)).length
theorem frees_le (n : Nat) (ord : List Nat) : frees n ord ≤ n := by
  unfold frees
  exact Nat.le_trans (List.length_filter_le _ _) (by simp)
theorem frees_lt {n v : Nat} {ord : List Nat} (hv : v < n) (h : v ∉ ord) : frees n (v :: ord) < frees n ord := by
  unfold frees
  refine filter_lt _ _ (List.range n) (fun x _ hx => ?_) v (List.mem_range.2 hv) (by simpa using h) (by simp)
  simp only [List.mem_cons, Bool.not_eq_true', decide_eq_false_iff_not, not_or] at hx ⊢
  exact hx.2
def RetWithin (ts : List Tm) (cl : List Nat) (w : World) (e : Ending) (w' : World) : Prop := ∃ b : Bool, e = .returned (.bool b) ∧ Below w.heap.size w w' ∧ (b = true → Round8 ts (clsF cl) (doesF ts (clsF cl))) ∧ (b = false → Ranked ts (clsF cl))
set_option maxRecDepth 100000 in
set_option maxHeartbeats 8000000 in
theorem uwithin_any (A B : Option Addr) (n c d : Nat) (ts : List Tm) (cl : List Nat) (w : World) (h : IsC w A n c (flats ts)) (hB : IsI w B n d (ints cl)) (hn : n ≤ 100000) (hcl : ∀ x ∈ cl, x < n) :
    Calls Try.prog 71 #[.slice A n c, .slice B n d] w (RetWithin ts cl w) := by
  have hl := h.len
  rw [flats_size9] at hl
  have hbl := hB.len
  rw [ints_len] at hbl
  have HC := Lib.hid h
  have HB := Lib.hid hB
  have Hl := Lib.hid hl
  have Hbl := Lib.hid hbl
  have hcd := h.sl.hcap
  have hcm := h.sl.hmax
  unfold maxLen at hcm
  have hdd := hB.sl.hcap
  have hdm := hB.sl.hmax
  unfold maxLen at hdm
  clear h hB hl hbl
  have Hcl := Lib.hid hcl
  clear hcl
  have hmk : ∀ w, (Instr.makeSlice 95 (.int .i64 (n : Int)) (.int .i64 (n : Int))).run Try.prog w = .ok (.slice (some ⟨w.heap.size, 0, none⟩) n n) (w.alloc (.cells (madeCells #[.bool false] n) 4)) := fun w =>
    run_make_row' 95 4 (.bool false) 1 Try.underlying95 infoB8 rfl .i64 .i64 n (by omega) (by omega) w
  go_enter Try.func71, Try.ntmps71
  go_wp2
  clear hmk
  go_loopg [6] (frees n []) (fun k mv wr => ∃ (ord : List Nat) (m : Nat), mv = .int .i64 m ∧ wr.rowIs w.heap.size 4 n (fun j => .bool (decide (j ∈ ord))) ∧ Hid (OrdOk ts (clsF cl) ord) ∧ Hid (m + frees n ord ≤ n ∧ frees n ord = k) ∧ m ≤ n ∧ Below w.heap.size w wr)
  case atStart => exact ⟨[], 0, rfl, (World.rowIs_made w (.bool false) n 4).congr fun i hi => by simp, Lib.hid trivial, Lib.hid ⟨by have := frees_le n []; omega, rfl⟩, Nat.zero_le _, (Below.refl _ _).alloc (Nat.le_refl _) _⟩
  case round =>
    obtain ⟨ord, m, rfl, hrow, hord, hfr, hmn, hb⟩ := hrel
    have Hrow := Lib.hid hrow
    clear hrow
    go_wp2
    go_loopw [6, 8] (fun mv iv wr2 => ∃ (i m2 : Nat) (ord2 : List Nat), i ≤ n ∧ m2 ≤ n ∧ iv = .int .i64 i ∧ mv = .int .i64 m2 ∧ wr2.rowIs w.heap.size 4 n (fun j => .bool (decide (j ∈ ord2))) ∧ Hid (OrdOk ts (clsF cl) ord2) ∧ Hid (m2 + frees n ord2 ≤ n ∧ frees n ord2 ≤ gk ∧ ((m2 = m ∧ ∀ i', i' < i → Stuck ts (clsF cl) ord2 i') ∨ (m < m2 ∧ frees n ord2 < gk))) ∧ Below w.heap.size w wr2) (fun _ iv _ => n - (intOf iv).toNat)
    case atStart => exact ⟨0, m, ord, Nat.zero_le _, hmn, rfl, rfl, Hrow.out, hord, Lib.hid ⟨hfr.out.1, by have := hfr.out.2; omega, .inl ⟨rfl, fun i' hi' => by omega⟩⟩, hb⟩
    case round =>
      clear hb Hrow hord
      obtain ⟨i, m2, ord2, hi, hm2, rfl, rfl, hrow, hord, hinv, hb2⟩ := hrel
      have hgs := hrow.lt
      by_cases hin : i < n
      · have hga := clsF_get (cl := cl) (i := i) (by have := Hbl.out; omega)
        obtain ⟨bc, oc, rfl, hbc, hwfa, f0⟩ := HB.out.at_ (ints_get hga)
        have hcn := Hcl.out _ (List.mem_of_getElem? hga)
        have Hdo := Lib.hid (udoes_any A (some ⟨bc, oc, none⟩) n c d i ts cl wr (HC.out.below hb2) (HB.out.below hb2) hn hin)
        obtain ⟨ci, hci⟩ : ∃ ci, ci = clsF cl i := ⟨_, rfl⟩
        rw [← hci] at f0 hcn
        have Hci := Lib.hid hci
        have Hrow := Lib.hid hrow
        generalize hD : doesF ts (clsF cl) i = D at Hdo
        have HD := Lib.hid hD
        clear hga hwfa hci hrow hD
        go_upto_region 7 with (first
          | (go_at_call 73; go_must (refine Hdo.out.mono ?_); rintro e w1 ⟨rfl, hb1⟩; have Hb1 := Lib.hid (hb2.trans (hb1.mono hb2.size)); have Hrow1 := Lib.hid (Hrow.out.of_block (hb1.block w.heap.size hgs)); clear hb1))
        clear Hdo Hrow hb2 hgs
        have g0 := (Hb1.out.cell (p := ⟨bc, oc + i, none⟩) hbc).trans f0
        have hs0 := Hrow1.out.cell (i := ci) hcn
        have hs1 := Hrow1.out.frozen ci
        have hgs := Hrow1.out.lt
        by_cases him : ci ∈ ord2
        · have hdi : decide (ci ∈ ord2) = true := by simp [him]
          rw [hdi] at hs0
          have hinv2 : Hid (m2 + frees n ord2 ≤ n ∧ frees n ord2 ≤ gk ∧ ((m2 = m ∧ ∀ i', i' < i + 1 → Stuck ts (clsF cl) ord2 i') ∨ (m < m2 ∧ frees n ord2 < gk))) := Lib.hid (by
            obtain ⟨q1, q2, q3⟩ := hinv.out
            refine ⟨q1, q2, ?_⟩
            rcases q3 with ⟨q3, q4⟩ | q3
            · refine .inl ⟨q3, fun i' hi' => ?_⟩
              by_cases e : i' = i
              · subst e; exact .inl (by rw [← Hci.out]; exact him)
              · exact q4 i' (by omega)
            · exact .inr q3)
          clear hdi him hinv
          go_wp2
          go_roundw
          case rel => exact ⟨i + 1, m2, ord2, by omega, hm2, by go_num, rfl, Hrow1.out, hord, hinv2, Hb1.out⟩
          case measure => simp [intOf]; omega
        · have hdi : decide (ci ∈ ord2) = false := by simp [him]
          rw [hdi] at hs0
          have hfl := frees_lt hcn him
          have Hfl := Lib.hid hfl
          have Him := Lib.hid him
          clear hdi him hfl
          cases D with
          | none =>
            have Hnew := Lib.hid (show OrdOk ts (clsF cl) (ci :: ord2) ∧ frees n (ci :: ord2) < frees n ord2 ∧ m2 + 1 ≤ n by
              refine ⟨?_, Hfl.out, ?_⟩
              · rw [Hci.out]
                exact hord.out.more (by rw [← Hci.out]; exact Him.out) (fun j u hj => by rw [HD.out] at hj; cases hj)
              · have := Hfl.out; have := hinv.out; omega)
            have Hrow5 := Hrow1
            have Hb5 := Hb1
            simp only [doeI]
            go_wp2
            go_roundw
            case rel => exact ⟨i + 1, m2 + 1, ci :: ord2, by omega, by have := Hnew.out.2; omega, by go_num, by go_num, row_see Hrow5.out, Lib.hid Hnew.out.1, Lib.hid ⟨by have := Hnew.out.2; have := hinv.out; omega, by have := Hnew.out.2; have := hinv.out; omega, .inr ⟨by have := hinv.out; omega, by have := Hnew.out.2; have := hinv.out; omega⟩⟩, Hb5.out.setCell (Nat.le_refl _) _⟩
            case measure => simp [intOf]; omega
          | some j =>
            obtain ⟨hjc, u, hu, hnv⟩ := does_ok.some_ i j HD.out
            have Hu := Lib.hid hu
            have hjn := subT_lt' hu
            have hpu := uparts_any A n c ts j u w1 (HC.out.below Hb1.out) hu hn
            have Hpu := Lib.hid hpu
            have hplt : ∀ x ∈ partsU j u, x < n := fun x hx => by have := partsU_lt hu hx; have := Hl.out; omega
            have hst : ∀ x ∈ partsU j u, clsF cl x ∉ ord2 → Stuck ts (clsF cl) ord2 i := fun x hx hn => .inr ⟨j, u, HD.out, hu, x, hx, hn⟩
            have hnw : (∀ x ∈ partsU j u, clsF cl x ∈ ord2) → OrdOk ts (clsF cl) (ci :: ord2) ∧ frees n (ci :: ord2) < frees n ord2 ∧ m2 + 1 ≤ n := fun hx => by
              refine ⟨?_, Hfl.out, ?_⟩
              · rw [Hci.out]
                refine hord.out.more (by rw [← Hci.out]; exact Him.out) (fun j' u' hj hu' => ?_)
                rw [HD.out] at hj
                injection hj with hj
                subst hj
                rw [Hu.out] at hu'
                injection hu' with hu'
                subst hu'
                exact hx
              · have := Hfl.out; have := hinv.out; omega
            have Hplt := Lib.hid hplt
            have Hst := Lib.hid hst
            have Hnw := Lib.hid hnw
            have hjn2 : j < n := by have := Hl.out; omega
            generalize partsU j u = ps at *
            have hj0 : (0 : Int) ≤ (j : Int) := by omega
            simp only [doeI]
            clear hjc hu hnv hpu hplt hst hnw hjn HD Hu Hfl Him
            go_upto_region 11 with (first
              | (go_at_call 89; go_must (refine Hpu.out.mono ?_); rintro e w2 ⟨P1, np, cp, rfl, hP, hb3⟩; have HP := Lib.hid hP; have Hb2 := Lib.hid (Hb1.out.trans (hb3.mono Hb1.out.size)); have Hrow2 := Lib.hid (Hrow1.out.of_block (hb3.block w.heap.size hgs)); clear hP hb3))
            have hpl := HP.out.len
            rw [ints_len] at hpl
            have Hpl := Lib.hid hpl
            have hp1 := HP.out.sl.hcap
            have hp2 := HP.out.sl.hmax
            unfold maxLen at hp2
            clear Hpu Hb1 Hrow1 g0 hs0 hs1 hgs hpl
            go_wp2
            go_loopw [10, 12] (fun fv kv wr3 => ∃ (k : Nat) (b : Bool), k ≤ np ∧ kv = .int .i64 k ∧ fv = .bool b ∧ Hid ((b = true → ∀ q x, q < k → ps[q]? = some x → clsF cl x ∈ ord2) ∧ (b = false → Stuck ts (clsF cl) ord2 i)) ∧ Below w2.heap.size w2 wr3) (fun _ kv _ => np - (intOf kv).toNat)
            case atStart => exact ⟨0, true, Nat.zero_le _, rfl, rfl, Lib.hid ⟨fun _ q x hq => by omega, fun h => by cases h⟩, Below.refl _ _⟩
            case round =>
              obtain ⟨k, b, hk, rfl, rfl, hfi, hb3⟩ := hrel
              have Hb5 := Lib.hid (Hb2.out.trans (hb3.mono Hb2.out.size))
              have Hrow5 := Lib.hid (Hrow2.out.of_block (hb3.block w.heap.size Hrow2.out.lt))
              by_cases hkn : k < np
              · cases b
                · have Hfi2 : Hid ((false = true → ∀ q x, q < k + 1 → ps[q]? = some x → clsF cl x ∈ ord2) ∧ (false = false → Stuck ts (clsF cl) ord2 i)) := Lib.hid ⟨fun h => (by cases h), hfi.out.2⟩
                  go_wp2
                  go_roundw
                  case rel => exact ⟨k + 1, false, by omega, by go_num, rfl, Hfi2, hb3⟩
                  case measure => simp [intOf]; omega
                · obtain ⟨x, hx⟩ : ∃ x, ps[k]? = some x := ⟨_, List.getElem?_eq_getElem (by have := Hpl.out; omega)⟩
                  have hxn := Hplt.out x (List.mem_of_getElem? hx)
                  obtain ⟨bp, op_, rfl, hbp, _, p0⟩ := HP.out.at_ (ints_get hx)
                  have hgx := clsF_get (cl := cl) (i := x) (by have := Hbl.out; omega)
                  obtain ⟨bc', oc', he'', hbx, _, p1⟩ := HB.out.at_ (ints_get hgx)
                  injection he'' with he''
                  injection he'' with i1 i2 i3
                  subst i1; subst i2
                  have hcxn := Hcl.out _ (List.mem_of_getElem? hgx)
                  have p0' := (hb3.cell (p := ⟨bp, op_ + k, none⟩) hbp).trans p0
                  have p1' := (Hb5.out.cell (p := ⟨bc, oc + x, none⟩) hbx).trans p1
                  have hbpr := Nat.lt_of_lt_of_le hbp hb3.size
                  have hbcr := Nat.lt_of_lt_of_le hbx Hb5.out.size
                  have hsx := Hrow5.out.cell (i := clsF cl x) hcxn
                  have hsf := Hrow5.out.frozen (clsF cl x)
                  have hgs5 := Hrow5.out.lt
                  have Hfi2 : Hid ((decide (clsF cl x ∈ ord2) = true → ∀ q y, q < k + 1 → ps[q]? = some y → clsF cl y ∈ ord2) ∧ (decide (clsF cl x ∈ ord2) = false → Stuck ts (clsF cl) ord2 i)) := Lib.hid ⟨fun hd q y hq hy => by
                    by_cases e : q = k
                    · subst e
                      rw [hx] at hy
                      injection hy with hy
                      subst hy
                      exact of_decide_eq_true hd
                    · exact hfi.out.1 rfl q y (by omega) hy, fun hd => Hst.out x (List.mem_of_getElem? hx) (of_decide_eq_false hd)⟩
                  have Hx := Lib.hid hx
                  generalize decide (clsF cl x ∈ ord2) = dx at *
                  generalize clsF cl x = cx at *
                  clear hx hgx p0 p1
                  go_wp2
                  go_roundw
                  case rel => exact ⟨k + 1, dx, by omega, by go_num, rfl, Hfi2, hb3⟩
                  case measure => simp [intOf]; omega
              · have hke : k = np := by omega
                have g5 := (Hb5.out.cell (p := ⟨bc, oc + i, none⟩) hbc).trans f0
                have hs5 := Hrow5.out.cell (i := ci) hcn
                have hf5 := Hrow5.out.frozen ci
                have hgs5 := Hrow5.out.lt
                have hbcr := Nat.lt_of_lt_of_le hbc Hb5.out.size
                have Hke := Lib.hid hke
                clear hke
                cases b
                · have hst2 := hfi.out.2 rfl
                  have hinv2 : Hid (m2 + frees n ord2 ≤ n ∧ frees n ord2 ≤ gk ∧ ((m2 = m ∧ ∀ i', i' < i + 1 → Stuck ts (clsF cl) ord2 i') ∨ (m < m2 ∧ frees n ord2 < gk))) := Lib.hid (by
                    obtain ⟨q1, q2, q3⟩ := hinv.out
                    refine ⟨q1, q2, ?_⟩
                    rcases q3 with ⟨q3, q4⟩ | q3
                    · refine .inl ⟨q3, fun i' hi' => ?_⟩
                      by_cases e : i' = i
                      · subst e; exact hst2
                      · exact q4 i' (by omega)
                    · exact .inr q3)
                  clear hst2 hinv
                  go_wp2
                  go_roundw
                  case rel => exact ⟨i + 1, m2, ord2, by omega, hm2, by go_num, rfl, Hrow5.out, hord, hinv2, Hb5.out⟩
                  case measure => simp [intOf]; omega
                · have Hnew := Lib.hid (Hnw.out fun x hx => by
                    obtain ⟨q, hq⟩ := List.getElem?_of_mem hx
                    exact hfi.out.1 rfl q x (by have := (List.getElem?_eq_some_iff.1 hq).1; have := Hpl.out; have := Hke.out; omega) hq)
                  go_wp2
                  go_roundw
                  case rel => exact ⟨i + 1, m2 + 1, ci :: ord2, by omega, by have := Hnew.out.2; omega, by go_num, by go_num, row_see Hrow5.out, Lib.hid Hnew.out.1, Lib.hid ⟨by have := Hnew.out.2; have := hinv.out; omega, by have := Hnew.out.2; have := hinv.out; omega, .inr ⟨by have := hinv.out; omega, by have := Hnew.out.2; have := hinv.out; omega⟩⟩, Hb5.out.setCell (Nat.le_refl _) _⟩
                  case measure => simp [intOf]; omega
      · have hie : i = n := by omega
        have Hrow2 := Lib.hid hrow
        have Hb2 := Lib.hid hb2
        clear hrow hb2
        by_cases hmm : m2 = m
        · have hstk : ∀ i', i' < sizes ts → Stuck ts (clsF cl) ord2 i' := by
            obtain ⟨_, _, q3⟩ := hinv.out
            rcases q3 with ⟨_, q4⟩ | ⟨q3, _⟩
            · exact fun i' hi' => q4 i' (by have := Hl.out; omega)
            · omega
          have Hstk := Lib.hid hstk
          have hmb : ((m2 : Int) == (m : Int)) = true := by simp; omega
          clear hstk hmm hie hinv hgs
          go_wp2
          go_loopw [13] (fun iv wr3 => ∃ i : Nat, i ≤ n ∧ iv = .int .i64 i ∧ Hid (∀ i', i' < i → clsF cl i' ∈ ord2) ∧ Below wr.heap.size wr wr3) (fun iv _ => n - (intOf iv).toNat)
          case atStart => exact ⟨0, Nat.zero_le _, rfl, Lib.hid (fun i' hi' => by omega), Below.refl _ _⟩
          case round =>
            obtain ⟨i3, hi3, rfl, hdn, hb3⟩ := hrel
            have Hb5 := Lib.hid (Hb2.out.trans (hb3.mono Hb2.out.size))
            have Hrow5 := Lib.hid (Hrow2.out.of_block (hb3.block w.heap.size Hrow2.out.lt))
            by_cases hin3 : i3 < n
            · have hga := clsF_get (cl := cl) (i := i3) (by have := Hbl.out; omega)
              obtain ⟨bc, oc, rfl, hbc, hwfa, f0⟩ := HB.out.at_ (ints_get hga)
              have hcn := Hcl.out _ (List.mem_of_getElem? hga)
              have g5 := (Hb5.out.cell (p := ⟨bc, oc + i3, none⟩) hbc).trans f0
              have hs5 := Hrow5.out.cell (i := clsF cl i3) hcn
              have hf5 := Hrow5.out.frozen (clsF cl i3)
              have hgs5 := Hrow5.out.lt
              have hbcr := Nat.lt_of_lt_of_le hbc Hb5.out.size
              by_cases him : clsF cl i3 ∈ ord2
              · have hdi : decide (clsF cl i3 ∈ ord2) = true := by simp [him]
                rw [hdi] at hs5
                have hdn2 : Hid (∀ i', i' < i3 + 1 → clsF cl i' ∈ ord2) := Lib.hid (fun i' hi' => by
                  by_cases e : i' = i3
                  · subst e; exact him
                  · exact hdn.out i' (by omega))
                generalize clsF cl i3 = cx at *
                clear hdi him hga f0 hwfa
                go_wp2
                go_roundw
                case rel => exact ⟨i3 + 1, by omega, by go_num, hdn2, hb3⟩
                case measure => simp [intOf]; omega
              · have hdi : decide (clsF cl i3 ∈ ord2) = false := by simp [him]
                rw [hdi] at hs5
                have hrd := stuck_round Hstk.out (i := i3) (by have := Hl.out; omega) him
                have Hrd := Lib.hid hrd
                generalize clsF cl i3 = cx at *
                clear hdi him hga f0 hwfa hrd
                go_wp2
                go_ret
                exact ⟨true, rfl, Hb5.out, fun _ => Hrd.out, by simp⟩
            · have hrk := hord.out.ranked (fun i' hi' => hdn.out i' (by have := Hl.out; omega))
              have Hrk := Lib.hid hrk
              clear hrk
              go_wp2
              go_ret
              exact ⟨false, rfl, Hb5.out, by simp, fun _ => Hrk.out⟩
        · have hmb : ((m2 : Int) == (m : Int)) = false := by simp; omega
          have hless : frees n ord2 < gk := by
            obtain ⟨_, _, q3⟩ := hinv.out
            rcases q3 with ⟨q3, _⟩ | ⟨_, q3⟩
            · exact absurd q3 hmm
            · exact q3
          have Hless := Lib.hid hless
          clear hmm hie hgs hless
          go_wp2
          go_roundg (frees n ord2)
          case measure => exact Hless.out
          case rel => exact ⟨ord2, m2, rfl, Hrow2.out, hord, Lib.hid ⟨hinv.out.1, rfl⟩, hm2, Hb2.out⟩
end Go.Proofs.Ytlndjooddkjnoaa
