/- The walk of layer 10's live questions, whose answers are fixed. -/
import Derived.Test.YtdeaeiolehglaaaM13
import Derived.Test.YtdeaeiolehglaaaSrc2
set_option linter.unusedVariables false
set_option linter.unusedSimpArgs false
namespace Go.Proofs.Ytdeaeiolehglaaa
open Go.RowKit Go.Maps

theorem mayA0 : mayB (cellsA0, []) = true := by kernel_rfl
theorem source_want (A : Option Addr) (cap : Nat) (w : World) (h : IsK w A 4 cap want) : Calls Try.prog 20 #[.slice A 4 cap] w (RetSrc w (cellsA0, [])) :=
  source_head A 4 cap want lastW w h (by omega) rfl ⟨rfl, by decide, by decide⟩ _ candA _ (fun hm => absurd hm (by rw [mayA0]; simp)) (fun c hc hn => absurd (by rw [hc.inj isA0]; exact codeA0) hn) (fun c hc he A n c' B m d w' h1 h2 h3 => ⟨A, n, c', B, m, d, rfl, h1, h2, h3⟩)
theorem same10_V (A B : Option Addr) (n m cap cap' : Nat) (xs ys : List In) (w : World) (hx : IsK w A n cap xs) (hy : IsK w B m cap' ys) (hn : n ≤ 100000) (hm : m ≤ 100000) :
    Calls Try.prog 17 #[.slice A n cap, .slice B m cap'] w (RetV w (.bool (sameIn xs ys))) :=
  (rSame10_any A B n m cap cap' xs ys w hx hy hn hm).mono fun e w' ⟨h1, d, h2⟩ => ⟨h1, by rw [h2]; exact below_drewN (Below.refl _ _) d⟩
theorem source_want1 (A : Option Addr) (cap : Nat) (w : World) (h : IsK w A 3 cap want1) : Calls Try.prog 20 #[.slice A 3 cap] w (RetNo w) :=
  source_head A 3 cap want1 lastW w h (by omega) rfl ⟨rfl, by decide, by decide⟩ _ candA1 _ (fun hm w' hb => ⟨rfl, hb⟩) (fun c hc hn w' hb => ⟨rfl, hb⟩) (fun c hc he => absurd (by rw [← hc.inj isA1]; exact he) codeA1)
theorem cells_wf {l : List C} (h : l.all (fun c => decide (-3000000000 ≤ c.kind) && (decide (c.kind ≤ 3000000000) && (decide (-3000000000 ≤ c.n) && (decide (c.n ≤ 3000000000) && decide (c.name.size ≤ 100))))) = true) : ∀ c ∈ l, c.wf := fun c hc => by
  have := List.all_eq_true.1 h c hc
  simp only [Bool.and_eq_true, decide_eq_true_eq] at this
  obtain ⟨h1, h2, h3, h4, h5⟩ := this
  exact ⟨i64_small h1 h2, i64_small h3 h4, by simp [maxLen]; omega⟩
theorem ins_wf {l : List In} (h : l.all (fun i => decide (0 ≤ i.op) && (decide (i.op ≤ 100) && (decide (0 ≤ i.x) && (decide (i.x ≤ 100) && (decide (0 ≤ i.a) && (decide (i.a ≤ 100) && (decide (0 ≤ i.n) && (decide (i.n ≤ 100) && decide (i.name.size ≤ 100))))))))) = true) : ∀ i ∈ l, i.wf := fun i hi => by
  have := List.all_eq_true.1 h i hi
  simp only [Bool.and_eq_true, decide_eq_true_eq] at this
  obtain ⟨h1, h2, h3, h4, h5, h6, h7, h8, h9⟩ := this
  exact ⟨i64_small (by omega) (by omega), i64_small (by omega) (by omega), i64_small (by omega) (by omega), i64_small (by omega) (by omega), by simp [maxLen]; omega⟩
def flatK (l : List In) : List Value := (l.map In.flat).flatten
/-- a row of instructions out of a block -/
theorem isK_lit {w : World} {g n : Nat} {l : List In} {cs : Array Value} (h : w.heap[g]? = some (.cells cs 48 (0, 0))) (hc : cs.toList = flatK l) (hl : l.length = n) (hn : n ≤ 1000) (hw : ∀ i ∈ l, i.wf) : IsK w (some ⟨g, 0, none⟩) n n l := by
  have hlen : (flatK l).length = n * 6 := by
    rw [flatK, flatten_len (k := 6) (by intro v hv; obtain ⟨i, _, rfl⟩ := List.mem_map.1 hv; rfl), List.length_map, hl]
  refine ⟨hl, l.map In.flat, by simp, (by intro v hv; obtain ⟨i, _, rfl⟩ := List.mem_map.1 hv; rfl), ?_, fun q x v hx hv => ?_⟩
  · have := Sl.blk (size := 6) (n := n) h (by rw [← Array.length_toList, hc, hlen]) (by simp [maxLen]; omega)
    rw [hc] at this
    exact this
  · rw [List.getElem?_map, hx] at hv
    simp at hv
    exact ⟨hv.symm, hw x (List.mem_of_getElem? hx)⟩
theorem isC_lit {w : World} {g n : Nat} {l : List C} {cs : Array Value} (h : w.heap[g]? = some (.cells cs 45 (0, 0))) (hc : cs.toList = flatC l) (hl : l.length = n) (hn : n ≤ 1000) (hw : ∀ c ∈ l, c.wf) : IsC w (some ⟨g, 0, none⟩) n n l := by
  have := Sl.blk (size := 3) (n := n) h (by rw [← Array.length_toList, hc, flatC_len, hl]) (by simp [maxLen]; omega)
  rw [hc] at this
  exact ⟨this, hw⟩
theorem isC_nil (w : World) : IsC w none 0 0 [] := ⟨⟨rfl, Nat.le_refl _, by simp [maxLen], fun h => absurd h (by omega)⟩, by simp⟩
theorem isLs_nil (w : World) : IsLs w none 0 0 [] := IsG.nil (by simp [maxLen])
theorem isK_nil (w : World) : IsK w none 0 0 [] := IsG.nil (by simp [maxLen])
set_option maxRecDepth 100000 in
set_option maxHeartbeats 8000000 in
theorem head10_any (w : World) : Calls Try.prog 12 #[] w (RetV w (.bool true)) := by
  go_enter Try.func12, Try.ntmps12
  go_upto_region 4 with fail
  refine wp_world' (Φ := fun X => Below w.heap.size w X ∧ w.heap.size + 3 ≤ X.heap.size ∧ IsC X (some ⟨w.heap.size, 0, none⟩) 4 4 cellsF ∧ IsC X (some ⟨w.heap.size + 1, 0, none⟩) 3 3 cellsQ ∧ IsC X (some ⟨w.heap.size + 1 + 1, 0, none⟩) 1 1 cellsP)
    ⟨(((Below.refl _ _).alloc (Nat.le_refl _) _).alloc (by simp) _).alloc (by simp; omega) _, by simp, isC_lit ((alloc_past (by simp; omega)).trans ((alloc_past (by simp)).trans (alloc_at rfl))) rfl rfl (by omega) (cells_wf (by decide)), isC_lit ((alloc_past (by simp)).trans (alloc_at (by simp))) rfl rfl (by omega) (cells_wf (by decide)), isC_lit (alloc_at (by simp)) rfl rfl (by omega) (cells_wf (by decide))⟩ ?_
  rintro X ⟨hb, hsX, hF, hQ, hP⟩
  obtain ⟨gF, hgF⟩ : ∃ gF, gF = w.heap.size := ⟨_, rfl⟩
  obtain ⟨gQ, hgQ⟩ : ∃ gQ, gQ = w.heap.size + 1 := ⟨_, rfl⟩
  obtain ⟨gP, hgP⟩ : ∃ gP, gP = w.heap.size + 1 + 1 := ⟨_, rfl⟩
  rw [← hgP] at hP ⊢
  rw [← hgQ] at hQ ⊢
  rw [← hgF] at hF ⊢
  clear hgF hgQ hgP hsX
  go_wp2_with fail
  refine (compile_yes clsA _ 4 4 cellsF none 0 0 [] _ hF (isLs_nil _) isA mayA).mono ?_
  rintro e w1 ⟨Aa, na, ca, rfl, hKa, hbn⟩
  rw [codeA] at hKa
  obtain rfl : na = 4 := by rw [← hKa.len]; rfl
  replace hQ := hQ.below hbn
  replace hP := hP.below hbn
  replace hb := hb.trans (hbn.mono hb.size)
  clear hbn hF
  go_wp2_with fail
  refine (compile_yes clsB _ 1 1 cellsP _ 1 1 [(true, cellsQ)] _ (hP.below ((Below.refl _ _).alloc (Nat.le_refl _) _)) ⟨rfl, [[.bool true, .slice (some ⟨gQ, 0, none⟩) 3 3]], rfl, by simp, Sl.blk (cs := #[.bool true, .slice (some ⟨gQ, 0, none⟩) 3 3]) (t := 55) (alloc_at rfl) rfl (by simp [maxLen]), fun q x v hx hv => by
    rcases q with _ | q
    · simp at hx hv; subst hx; subst hv; exact ⟨_, _, _, rfl, hQ.below ((Below.refl _ _).alloc (Nat.le_refl _) _)⟩
    · simp at hx⟩ isB mayB').mono ?_
  rintro e w2 ⟨Ab, nb, cb, rfl, hKb, hbn⟩
  rw [codeB] at hKb
  obtain rfl : nb = 6 := by rw [← hKb.len]; rfl
  have hb12 : Below w1.heap.size w1 w2 := ((Below.refl _ _).alloc (Nat.le_refl _) _).trans (hbn.mono (by simp))
  replace hKa := IsG.below keepsIn hKa hb12
  replace hb := hb.trans (hb12.mono hb.size)
  clear hbn hb12 hP hQ
  go_wp2_with fail
  refine (compile_no none 0 0 [] none 0 0 [] _ (isC_nil _) (isLs_nil _) (by omega) (by omega) (by simp) mayN).mono ?_
  rintro e w3 ⟨rfl, hbn⟩
  replace hKa := IsG.below keepsIn hKa hbn
  replace hKb := IsG.below keepsIn hKb hbn
  replace hb := hb.trans (hbn.mono hb.size)
  clear hbn
  go_upto_region 9 with fail
  refine wp_world' (Φ := fun X => Below w3.heap.size w3 X ∧ IsK X (some ⟨w3.heap.size, 0, none⟩) 4 4 want ∧ IsK X (some ⟨w3.heap.size + 1, 0, none⟩) 6 6 wmore)
    ⟨((Below.refl _ _).alloc (Nat.le_refl _) _).alloc (by simp) _, isK_lit ((alloc_past (by simp)).trans (alloc_at rfl)) rfl rfl (by omega) (ins_wf (by decide)), isK_lit (alloc_at (by simp)) rfl rfl (by omega) (ins_wf (by decide))⟩ ?_
  rintro X ⟨hbn, hKw, hKm⟩
  obtain ⟨gW, hgW⟩ : ∃ gW, gW = w3.heap.size := ⟨_, rfl⟩
  obtain ⟨gM, hgM⟩ : ∃ gM, gM = w3.heap.size + 1 := ⟨_, rfl⟩
  rw [← hgM] at hKm ⊢
  rw [← hgW] at hKw ⊢
  replace hKa := IsG.below keepsIn hKa hbn
  replace hKb := IsG.below keepsIn hKb hbn
  replace hb := hb.trans (hbn.mono hb.size)
  clear hbn hgW hgM
  go_wp2_with fail
  refine (source_want _ 4 _ hKw).mono ?_
  rintro e w4 ⟨As, ns, cs, Bs, ms, ds, rfl, hCs, hLs, hbn⟩
  obtain rfl : ns = 4 := by rw [← hCs.len]; rfl
  replace hKa := IsG.below keepsIn hKa hbn
  replace hKb := IsG.below keepsIn hKb hbn
  replace hKw := IsG.below keepsIn hKw hbn
  replace hKm := IsG.below keepsIn hKm hbn
  replace hb := hb.trans (hbn.mono hb.size)
  clear hbn hLs
  go_upto_region 10 with fail
  refine wp_world' (Φ := fun X => Below w4.heap.size w4 X ∧ X.heap[w4.heap.size]? = some (.cells #[.slice As 4 cs, .slice Bs ms ds] 25 (0, 0))) ⟨(Below.refl _ _).alloc (Nat.le_refl _) _, alloc_at rfl⟩ ?_
  rintro X2 ⟨hbn, xs⟩
  obtain ⟨gS, hgS⟩ : ∃ gS, gS = w4.heap.size := ⟨_, rfl⟩
  rw [← hgS] at xs ⊢
  replace hKa := IsG.below keepsIn hKa hbn
  replace hKb := IsG.below keepsIn hKb hbn
  replace hKw := IsG.below keepsIn hKw hbn
  replace hKm := IsG.below keepsIn hKm hbn
  replace hCs := hCs.below hbn
  replace hb := hb.trans (hbn.mono hb.size)
  clear hbn hgS
  have hK1 : IsK X2 (some ⟨gW, 6, none⟩) 3 3 want1 := by
    have := hKw.drop (m := 1) (by omega)
    simpa [Addr.add, want, want1] using this
  go_wp2_with fail
  refine (source_want1 _ 3 _ hK1).mono ?_
  rintro e w5 ⟨rfl, hbn⟩
  replace hKa := IsG.below keepsIn hKa hbn
  replace hKb := IsG.below keepsIn hKb hbn
  replace hKw := IsG.below keepsIn hKw hbn
  replace hKm := IsG.below keepsIn hKm hbn
  replace hCs := hCs.below hbn
  replace xs := (hbn.block gS (block_lt xs)).trans xs
  replace hb := hb.trans (hbn.mono hb.size)
  clear hbn hK1
  go_upto_region 11 with fail
  refine wp_world' (Φ := fun X => Below w5.heap.size w5 X) ((Below.refl _ _).alloc (Nat.le_refl _) _) ?_
  rintro X3 hbn
  replace hKa := IsG.below keepsIn hKa hbn
  replace hKb := IsG.below keepsIn hKb hbn
  replace hKw := IsG.below keepsIn hKw hbn
  replace hKm := IsG.below keepsIn hKm hbn
  replace hCs := hCs.below hbn
  replace xs := (hbn.block gS (block_lt xs)).trans xs
  replace hb := hb.trans (hbn.mono hb.size)
  clear hbn
  go_wp2_with fail
  refine (same10_V Aa _ 4 4 ca 4 want want _ hKa hKw (by omega) (by omega)).mono ?_
  rw [(sameIn_iff want want).2 rfl]
  rintro e w6 ⟨rfl, hbn⟩
  replace hKa := IsG.below keepsIn hKa hbn
  replace hKb := IsG.below keepsIn hKb hbn
  replace hKw := IsG.below keepsIn hKw hbn
  replace hKm := IsG.below keepsIn hKm hbn
  replace hCs := hCs.below hbn
  replace xs := (hbn.block gS (block_lt xs)).trans xs
  replace hb := hb.trans (hbn.mono hb.size)
  clear hbn
  go_wp2_with fail
  refine (same10_V Ab _ 6 6 cb 6 wmore wmore _ hKb hKm (by omega) (by omega)).mono ?_
  rw [(sameIn_iff wmore wmore).2 rfl]
  rintro e w7 ⟨rfl, hbn⟩
  replace hKa := IsG.below keepsIn hKa hbn
  replace hKb := IsG.below keepsIn hKb hbn
  replace hKw := IsG.below keepsIn hKw hbn
  replace hKm := IsG.below keepsIn hKm hbn
  replace hCs := hCs.below hbn
  replace xs := (hbn.block gS (block_lt xs)).trans xs
  replace hb := hb.trans (hbn.mono hb.size)
  clear hbn
  obtain ⟨bs, os, rfl, hbs, hws, s0, s1, s2⟩ := hCs.at_ (k := 3) (c := ⟨1, ⟨#[]⟩, 0⟩) rfl
  have hcs := hCs.sl.hcap
  have y0 := cells_of xs 0
  have yl := block_lt xs
  simp at y0
  simp only at s0 s1 s2
  go_wp2_with fail
  refine (cRegs_any _ 4 4 want _ hKw (by omega) okA).mono ?_
  rw [regsA]
  rintro e w8 ⟨rfl, hbn⟩
  replace hKa := IsG.below keepsIn hKa hbn
  replace hKb := IsG.below keepsIn hKb hbn
  replace hKw := IsG.below keepsIn hKw hbn
  replace hKm := IsG.below keepsIn hKm hbn
  replace hb := hb.trans (hbn.mono hb.size)
  clear hbn
  go_wp2_with fail
  refine (cRegs_any _ 6 6 wmore _ hKm (by omega) okB).mono ?_
  rw [regsB]
  rintro e w9 ⟨rfl, hbn⟩
  replace hb := hb.trans (hbn.mono hb.size)
  clear hbn
  go_wp2_with fail
  refine (cRegs_any none 0 0 [] _ (isK_nil _) (by omega) (fun i hi => by simp at hi)).mono ?_
  rintro e w10 ⟨rfl, hbn⟩
  replace hb := hb.trans (hbn.mono hb.size)
  clear hbn
  have hr0 : regsF 0 [] = 0 := rfl
  have hr1 : regsF 0 [{ op := 13, x := 9 }] = 0 := by kernel_rfl
  have hok1 : okRegs [{ op := 13, x := 9 }] := by
    intro i hi
    simp at hi
    subst hi
    simp
  go_wp2_with fail
  refine (cRegs_any _ 1 1 [{ op := 13, x := 9 }] _ (isK_lit (alloc_at rfl) rfl rfl (by omega) (ins_wf (by decide))) (by omega) hok1).mono ?_
  rw [hr1]
  rintro e w11 ⟨rfl, hbn⟩
  replace hb := (hb.alloc hb.size _).trans (hbn.mono (by have := hb.size; simp; omega))
  clear hbn
  go_wp2_with fail
  go_ret
  exact ⟨rfl, hb⟩
end Go.Proofs.Ytdeaeiolehglaaa
