/- PrintUnlike's walk. -/
import Derived.Deep.CutBlock
import Derived.Deep.RegionHeld3
import Derived.Test.YtekdcmplcjgonaaDoorLP2
set_option linter.unusedVariables false
set_option linter.unusedSimpArgs false
namespace Go.Proofs.YtekdcmplcjgonaaDoor
open Go.RowKit

theorem isL_blk {w : World} {g : Nat} {A : Option Addr} {n c : Nat} {P : Tm} {p : Bool} (hg : w.heap[g]? = some (.cells #[.bool p, .slice A n c] 54 (0, 0))) (h : IsC w A n c P.flat) : IsG RL 2 w (some ⟨g, 0, none⟩) 1 1 [(p, P)] := by
  refine ⟨rfl, [[.bool p, .slice A n c]], rfl, by simp, ⟨rfl, Nat.le_refl _, by simp [maxLen], fun _ => ⟨g, 0, rfl, block_lt hg, fun j u hu => ?_⟩⟩, fun i x v hx hv => ?_⟩
  · rw [Nat.zero_add, cells_of hg]
    simpa using hu
  · match i, hx, hv with
    | 0, hx, hv => simp at hx hv; subst hx; subst hv; exact ⟨_, _, _, rfl, h⟩
    | _ + 1, hx, _ => simp at hx
theorem bs_ne {a b : List UInt8} : ((⟨a.toArray⟩ : ByteArray).toList == (⟨b.toArray⟩ : ByteArray).toList) = decide (a = b) := by
  rw [Bool.eq_iff_iff, beq_iff_eq, decide_eq_true_eq, ByteArray.toList_eq, ByteArray.toList_eq]
/-- what a term's text may begin with -/
def firstB (c : UInt8) : Bool := upB c || (digB c || (lowB c || (c == 45 || (c == 40 || (c == 91 || c == 39)))))
theorem quote_first {s : ByteArray} (ho : okName s = true) : ∀ r, ∃ c t, quoteN (bytesOf s) ++ r = c :: t ∧ firstB c = true := by
  intro r
  unfold quoteN
  split
  · rename_i hp
    obtain ⟨c, t, e, hc⟩ := plainN_head hp (name_ne ho)
    exact ⟨c, t ++ r, by rw [e]; rfl, by simp [firstB, hc]⟩
  · exact ⟨39, _, rfl, by decide⟩
theorem prT_first {T : Tm} (h : T.ok = true) : ∃ c t, prT T = c :: t ∧ firstB c = true := by
  match T with
  | .v n =>
    rw [prT]
    refine ⟨_, _, rfl, ?_⟩
    have hc : (UInt8.ofNat (65 + n.toNat % 26)).toNat = 65 + n.toNat % 26 := by simp; omega
    have hup : upB (UInt8.ofNat (65 + n.toNat % 26)) = true := by
      unfold upB
      simp only [Bool.and_eq_true, decide_eq_true_eq, UInt8.le_iff_toNat_le, hc]
      have e1 : (65 : UInt8).toNat = 65 := rfl
      have e2 : (90 : UInt8).toNat = 90 := rfl
      omega
    unfold firstB
    rw [hup]
    rfl
  | .i n =>
    rw [prT]
    unfold Lib.itoa
    split
    · exact ⟨45, _, rfl, by decide⟩
    · have h2 := (valD_dec _ n.toNat (Nat.le_refl _)).2
      cases hd : Lib.decDigits n.toNat with
      | nil =>
        have h1 := Lib.decDigits_length n.toNat
        have h3 := Lib.nDigits_pos n.toNat
        rw [hd] at h1
        simp at h1
        omega
      | cons c t =>
        rw [hd] at h2
        exact ⟨c, t, rfl, by simp [firstB, h2 c (by simp)]⟩
  | .f s [] =>
    rw [prT]
    have ho : okName s = true := by simp [Tm.ok] at h; exact h.1
    split
    · exact ⟨91, _, rfl, by decide⟩
    · have := quote_first ho []; rwa [List.append_nil] at this
  | .f s (a :: ts) =>
    have ho : okName s = true := by simp [Tm.ok] at h; exact h.1
    have hq := quote_first ho
    match ts with
    | [] => rw [prT]; split; exact ⟨45, _, rfl, by decide⟩; exact hq _
    | [b] => rw [prT]; split; exact ⟨40, _, rfl, by decide⟩; split; exact ⟨91, _, rfl, by decide⟩; exact hq _
    | b :: c :: ts => rw [prT]; exact hq _
theorem okL_one {p : Bool} {T : Tm} (h1 : T.ok = true) (h2 : T.size ≤ 200) : okL [(p, T)] := by
  intro q hq
  rw [List.mem_singleton.1 hq]
  exact ⟨h1, h2⟩
theorem cl_neg {T U : Tm} {p : Bool} (hU : U.ok = true) : decide (prCl (T, [(false, U)]) = prCl (T, [(p, U)])) = !p := by
  cases p with
  | false => simp
  | true =>
    rw [Bool.not_true, decide_eq_false_iff_not]
    intro h
    simp only [prCl, litsTx, litTx, if_true, Bool.false_eq_true, if_false, List.append_assoc, List.append_cancel_left_eq, List.nil_append, List.cons_append, List.cons.injEq, true_and] at h
    obtain ⟨c, t, e, hf⟩ := prT_first hU
    have h92 : c ≠ 92 := by rintro rfl; exact absurd hf (by decide)
    rw [e] at h
    simp at h
    exact h92 h.1
theorem cl_long {T U : Tm} {p : Bool} : decide (prCl (T, [(p, U)]) = prCl (T, [])) = false := by
  rw [decide_eq_false_iff_not]
  intro h
  have := congrArg List.length h
  simp [prCl, litsTx, litTx] at this
set_option maxRecDepth 100000 in
set_option maxHeartbeats 8000000 in
theorem printUnlike_walk (A : Option Addr) (n cap : Nat) (cs : List C) (B : Option Addr) (m d : Nat) (ds : List C) (neg : Bool) (w : World) (hA : IsC w A n cap cs) (hB : IsC w B m d ds) (htab : Tab w) :
    Calls Tryd.prog 6 #[.slice A n cap, .slice B m d, .bool neg] w (RetV w (.bool true)) := by
  have hhead := head06_any w htab
  have hm1 := fun w' (hb : Below w.heap.size w w') => rMade_any A n cap cs w' (hA.below hb) 40 (by omega) (by omega)
  have hm2 := fun w' (hb : Below w.heap.size w w') => rMade_any B m d ds w' (hB.below hb) 40 (by omega) (by omega)
  have Hhead := Lib.hid hhead
  have Hm1 := Lib.hid hm1
  have Hm2 := Lib.hid hm2
  have Htab := Lib.hid htab
  clear hhead hm1 hm2 hA hB htab
  go_enter Tryd.func6, Tryd.ntmps6
  go_wp2_with fail
  refine Hhead.out.mono ?_
  rintro e w1 ⟨rfl, hb1⟩
  have h1z := hb1.size
  have H1 := Lib.hid hb1
  clear hb1
  go_wp2_with fail
  refine (Hm1.out _ H1.out).mono ?_
  rintro e w2 ⟨T, A2, n2, c2, rfl, okT, szT, hiT, hb2, _⟩
  have hb2' := H1.out.trans (hb2.mono h1z)
  have h2z := hb2'.size
  have H2 := Lib.hid hb2'
  have HiT := Lib.hid hiT
  clear hb2 hb2' hiT
  go_wp2_with fail
  refine (Hm2.out _ H2.out).mono ?_
  rintro e w3 ⟨U, A3, n3, c3, rfl, okU, szU, hiU, hb3, _⟩
  have hb3' := H2.out.trans (hb3.mono h2z)
  have h3z := hb3'.size
  have hat1 := rAtom6_any A2 n2 c2 T.flat w3 (HiT.out.below hb3) 40 (by omega) (by omega)
  have H23 := Lib.hid hb3
  have H3 := Lib.hid hb3'
  have HiU := Lib.hid hiU
  have Hat1 := Lib.hid hat1
  clear hb3 hb3' hiU hat1
  go_wp2_with fail
  refine Hat1.out.mono ?_
  rintro e w4 ⟨X, A4, n4, c4, rfl, okX, szX, kX, hiX, hb4, _⟩
  have hb4' := H3.out.trans (hb4.mono h3z)
  have h4z := hb4'.size
  have hat2 := rAtom6_any A3 n3 c3 U.flat w4 (HiU.out.below hb4) 40 (by omega) (by omega)
  have H34 := Lib.hid hb4
  have H4 := Lib.hid hb4'
  have HiX := Lib.hid hiX
  have Hat2 := Lib.hid hat2
  have h34z := hb4.size
  have h23z := H23.out.size
  clear hb4 hb4' hiX hat2 kX
  go_wp2_with fail
  refine Hat2.out.mono ?_
  rintro e w5 ⟨Y, A5, n5, c5, rfl, okY, szY, kY, hiY, hb5, _⟩
  have hb5' := H4.out.trans (hb5.mono h4z)
  have h5z := hb5'.size
  have hiT5 := HiT.out.below (H23.out.trans ((H34.out.trans (hb5.mono h34z)).mono h23z))
  have hiU5 := HiU.out.below (H34.out.trans (hb5.mono h34z))
  have hiX5 := HiX.out.below hb5
  have H5 := Lib.hid hb5'
  have HiT5 := Lib.hid hiT5
  have HiU5 := Lib.hid hiU5
  have HiX5 := Lib.hid hiX5
  have HiY5 := Lib.hid hiY
  clear hb5 hb5' hiT5 hiU5 hiX5 hiY HiT HiU HiX H34 H23 H1 H2 H3 H4 Hat1 Hat2 Hm1 Hm2 kY h1z h2z h3z h4z h34z h23z
  go_upto_region 6 with fail
  refine onW (fun Z => Below w5.heap.size w5 Z ∧ Z.heap[w5.heap.size]? = some (.cells #[.bool false, .slice A5 n5 c5] 54 (0, 0)) ∧ Z.heap[w5.heap.size + 1]? = some (.cells #[.bool neg, .slice A5 n5 c5] 54 (0, 0)) ∧
      Z.heap[w5.heap.size + 1 + 1]? = some (.cells #[.slice A4 n4 c4, .slice (some ⟨w5.heap.size, 0, none⟩) 1 1] 33 (0, 0)) ∧ Z.heap[w5.heap.size + 1 + 1 + 1]? = some (.cells #[.slice A4 n4 c4, .slice (some ⟨w5.heap.size + 1, 0, none⟩) 1 1] 33 (0, 0)))
    ⟨by repeat (first | exact Below.refl _ _ | refine Below.alloc ?_ (by simp; try omega) _), ?_, ?_, ?_, ?_⟩ ?_
  any_goals (repeat (first | exact alloc_at (by simp) | refine (alloc_past (by simp; try omega)).trans ?_))
  rintro Z ⟨hbZ, z0, z1, z2, z3⟩
  have hbwZ := H5.out.trans (hbZ.mono h5z)
  have l2 := block_lt z2
  have l3 := block_lt z3
  have y20 := cells_of z2 0
  have y21 := cells_of z2 1
  have y30 := cells_of z3 0
  have y31 := cells_of z3 1
  simp at y20 y21 y30 y31
  have hiX := HiX5.out.below hbZ
  have hiY := HiY5.out.below hbZ
  have hL0 := isL_blk z0 hiY
  have hL1 := isL_blk z1 hiY
  have htab := Htab.out.below hbwZ
  have htA := fun w' (hb' : Below Z.heap.size Z w') => pTerm_any A2 n2 c2 T w' ((HiT5.out.below hbZ).below hb') okT (by omega) (htab.below hb')
  have htB := fun w' (hb' : Below Z.heap.size Z w') => pTerm_any A3 n3 c3 U w' ((HiU5.out.below hbZ).below hb') okU (by omega) (htab.below hb')
  have hsm := fun w' (hb' : Below Z.heap.size Z w') => (rSame_any A2 A3 n2 n3 c2 c3 T.flat U.flat w' ((HiT5.out.below hbZ).below hb') ((HiU5.out.below hbZ).below hb') (by have := HiT5.out.len; rw [flat_size] at this; omega) (by have := HiU5.out.len; rw [flat_size] at this; omega)).mono fun e w2 h => RetD.v h
  have htC := fun w' (hb' : Below Z.heap.size Z w') => pClause_any A4 n4 c4 X _ 1 1 [(false, Y)] w' (hiX.below hb') okX (by omega) (hL0.below keepsRL hb') (okL_one okY (by omega)) (by omega) (htab.below hb')
  have htD := fun w' (hb' : Below Z.heap.size Z w') => pClause_any A4 n4 c4 X _ 1 1 [(neg, Y)] w' (hiX.below hb') okX (by omega) (hL1.below keepsRL hb') (okL_one okY (by omega)) (by omega) (htab.below hb')
  have htE := fun w' (hb' : Below Z.heap.size Z w') => pClause_any A4 n4 c4 X none 0 0 [] w' (hiX.below hb') okX (by omega) (IsG.nil (by simp [maxLen])) (by intro q hq; cases hq) (by omega) (htab.below hb')
  have hqAB : ((⟨(prT T).toArray⟩ : ByteArray).toList == (⟨(prT U).toArray⟩ : ByteArray).toList) = sameC T.flat U.flat := by
    rw [bs_ne, Bool.eq_iff_iff, decide_eq_true_eq, same_tm]
    exact ⟨prT_inj okT okU, fun h => by rw [h]⟩
  have hqCD : ((⟨(prCl (X, [(false, Y)])).toArray⟩ : ByteArray).toList == (⟨(prCl (X, [(neg, Y)])).toArray⟩ : ByteArray).toList) = !neg := by rw [bs_ne]; exact cl_neg okY
  have hqCE : ((⟨(prCl (X, [(false, Y)])).toArray⟩ : ByteArray).toList == (⟨(prCl (X, [])).toArray⟩ : ByteArray).toList) = false := by rw [bs_ne]; exact cl_long
  unfold RetS at htA htB htC htD htE
  obtain ⟨q, hq⟩ : ∃ q, sameC T.flat U.flat = q := ⟨_, rfl⟩
  obtain ⟨SA, hSA⟩ : ∃ S : ByteArray, ⟨(prT T).toArray⟩ = S := ⟨_, rfl⟩
  obtain ⟨SB, hSB⟩ : ∃ S : ByteArray, ⟨(prT U).toArray⟩ = S := ⟨_, rfl⟩
  obtain ⟨SC, hSC⟩ : ∃ S : ByteArray, ⟨(prCl (X, [(false, Y)])).toArray⟩ = S := ⟨_, rfl⟩
  obtain ⟨SD, hSD⟩ : ∃ S : ByteArray, ⟨(prCl (X, [(neg, Y)])).toArray⟩ = S := ⟨_, rfl⟩
  obtain ⟨SE, hSE⟩ : ∃ S : ByteArray, ⟨(prCl (X, [])).toArray⟩ = S := ⟨_, rfl⟩
  rw [hq] at hqAB hsm
  rw [hSA] at htA hqAB
  rw [hSB] at htB hqAB
  rw [hSC] at htC hqCD hqCE
  rw [hSD] at htD hqCD
  rw [hSE] at htE hqCE
  have hqCE2 : (SC.toList != SE.toList) = true := by rw [bne, hqCE]; rfl
  have HtA := Lib.hid htA
  have HtB := Lib.hid htB
  have HtC := Lib.hid htC
  have HtD := Lib.hid htD
  have HtE := Lib.hid htE
  have Hsm := Lib.hid hsm
  have HbwZ := Lib.hid hbwZ
  have hwzZ := hbwZ.size
  clear htA htB htC htD htE hsm hq hSA hSB hSC hSD hSE hL0 hL1 hiX hiY htab hbZ hbwZ z0 z1 H5 HiT5 HiU5 HiX5 HiY5 okT okU okX okY szT szU szX szY Htab Hhead h5z z2 z3
  go_region_held3 (fun w' => w'.cell? ⟨w5.heap.size + 1 + 1, 0, none⟩ = some (.slice A4 n4 c4) ∧ w'.cell? ⟨w5.heap.size + 1 + 1, 1, none⟩ = some (.slice (some ⟨w5.heap.size, 0, none⟩) 1 1) ∧ w'.cell? ⟨w5.heap.size + 1 + 1 + 1, 0, none⟩ = some (.slice A4 n4 c4) ∧ w'.cell? ⟨w5.heap.size + 1 + 1 + 1, 1, none⟩ = some (.slice (some ⟨w5.heap.size + 1, 0, none⟩) 1 1))
    (go_keep)
    (first
      | (go_at_call 14; refine (HtE.out _ k6).mono ?_; rintro e v7 ⟨rfl, j7⟩; have k7 := k6.trans (j7.mono k6.size); have a7 := (k7.cell (p := ⟨w5.heap.size + 1 + 1, 0, none⟩) l2).trans y20; have b7 := (k7.cell (p := ⟨w5.heap.size + 1 + 1, 1, none⟩) l2).trans y21; have c7 := (k7.cell (p := ⟨w5.heap.size + 1 + 1 + 1, 0, none⟩) l3).trans y30; have d7 := (k7.cell (p := ⟨w5.heap.size + 1 + 1 + 1, 1, none⟩) l3).trans y31)
      | (go_at_call 14; refine (HtC.out _ k5).mono ?_; rintro e v6 ⟨rfl, j6⟩; have k6 := k5.trans (j6.mono k5.size); have a6 := (k6.cell (p := ⟨w5.heap.size + 1 + 1, 0, none⟩) l2).trans y20; have b6 := (k6.cell (p := ⟨w5.heap.size + 1 + 1, 1, none⟩) l2).trans y21; have c6 := (k6.cell (p := ⟨w5.heap.size + 1 + 1 + 1, 0, none⟩) l3).trans y30; have d6 := (k6.cell (p := ⟨w5.heap.size + 1 + 1 + 1, 1, none⟩) l3).trans y31)
      | (go_at_call 14; refine (HtD.out _ k4).mono ?_; rintro e v5 ⟨rfl, j5⟩; have k5 := k4.trans (j5.mono k4.size); have a5 := (k5.cell (p := ⟨w5.heap.size + 1 + 1, 0, none⟩) l2).trans y20; have b5 := (k5.cell (p := ⟨w5.heap.size + 1 + 1, 1, none⟩) l2).trans y21; have c5' := (k5.cell (p := ⟨w5.heap.size + 1 + 1 + 1, 0, none⟩) l3).trans y30; have d5 := (k5.cell (p := ⟨w5.heap.size + 1 + 1 + 1, 1, none⟩) l3).trans y31)
      | (go_at_call 14; refine (HtC.out _ k3).mono ?_; rintro e v4 ⟨rfl, j4⟩; have k4 := k3.trans (j4.mono k3.size); have a4 := (k4.cell (p := ⟨w5.heap.size + 1 + 1, 0, none⟩) l2).trans y20; have b4 := (k4.cell (p := ⟨w5.heap.size + 1 + 1, 1, none⟩) l2).trans y21; have c4' := (k4.cell (p := ⟨w5.heap.size + 1 + 1 + 1, 0, none⟩) l3).trans y30; have d4 := (k4.cell (p := ⟨w5.heap.size + 1 + 1 + 1, 1, none⟩) l3).trans y31)
      | (go_at_call 27; refine (Hsm.out _ k2).mono ?_; rintro e v3 ⟨rfl, j3⟩; have k3 := k2.trans (j3.mono k2.size); have a3 := (k3.cell (p := ⟨w5.heap.size + 1 + 1, 0, none⟩) l2).trans y20; have b3 := (k3.cell (p := ⟨w5.heap.size + 1 + 1, 1, none⟩) l2).trans y21; have c3' := (k3.cell (p := ⟨w5.heap.size + 1 + 1 + 1, 0, none⟩) l3).trans y30; have d3 := (k3.cell (p := ⟨w5.heap.size + 1 + 1 + 1, 1, none⟩) l3).trans y31)
      | (go_at_call 17; refine (HtB.out _ k1).mono ?_; rintro e v2 ⟨rfl, j2⟩; have k2 := k1.trans (j2.mono k1.size); have a2 := (k2.cell (p := ⟨w5.heap.size + 1 + 1, 0, none⟩) l2).trans y20; have b2 := (k2.cell (p := ⟨w5.heap.size + 1 + 1, 1, none⟩) l2).trans y21; have c2' := (k2.cell (p := ⟨w5.heap.size + 1 + 1 + 1, 0, none⟩) l3).trans y30; have d2 := (k2.cell (p := ⟨w5.heap.size + 1 + 1 + 1, 1, none⟩) l3).trans y31)
      | (go_at_call 17; refine (HtA.out _ ((Below.refl _ _).drew)).mono ?_; rintro e v1 ⟨rfl, j1⟩; have k1 := ((Below.refl Z.heap.size Z).drew).trans j1; have a1 := (k1.cell (p := ⟨w5.heap.size + 1 + 1, 0, none⟩) l2).trans y20; have b1 := (k1.cell (p := ⟨w5.heap.size + 1 + 1, 1, none⟩) l2).trans y21; have c1' := (k1.cell (p := ⟨w5.heap.size + 1 + 1 + 1, 0, none⟩) l3).trans y30; have d1 := (k1.cell (p := ⟨w5.heap.size + 1 + 1 + 1, 1, none⟩) l3).trans y31)
      | fail)
  all_goals
    have hfin := HbwZ.out.trans (k7.mono hwzZ)
    clear k1 k2 k3 k4 k5 k6 k7 j1 j2 j3 j4 j5 j6 j7
    try go_wp2
    go_ret
    exact ⟨rfl, hfin⟩
end Go.Proofs.YtekdcmplcjgonaaDoor
