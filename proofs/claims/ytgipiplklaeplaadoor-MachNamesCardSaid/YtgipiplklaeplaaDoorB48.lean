/- Texts of this proof that belong together: words of memory, plain laws, walks. -/
import Derived.Test.YtgipiplklaeplaaDoorB09
import Derived.Test.YtgipiplklaeplaaDoorB47
set_option linter.unusedVariables false
set_option linter.unusedSimpArgs false
namespace Go.Proofs.YtgipiplklaeplaaDoor
open Go.RowKit
set_option maxRecDepth 100000 in
set_option maxHeartbeats 8000000 in
theorem head11_any (w : World) (hdt : DT w) : Calls Tryd.prog 10 #[] w (RetV w (.bool true)) := by
 go_enter Tryd.func10, Tryd.ntmps10
 go_upto_region 3 with (first
  | (go_at_call 35; go_must (refine (f11_any _ _ _).mono ?_); rintro e1 w1 ⟨rfl, rfl⟩)
  | (go_at_call 36; go_must (refine (v11_any _ _).mono ?_); rintro e1 w1 ⟨rfl, rfl⟩)
  | (go_at_call 37; go_must (refine (n11_any _ _).mono ?_); rintro e1 w1 ⟨rfl, rfl⟩))
 refine wp_allocs (w := w) (os := [_, _, _, _, _, _, _, _, _, _, _, _, _, _, _, _, _, _, _]) rfl ?_
 intro X hb hsz hk
 have x3 := hk 3 _ rfl
 have x6 := hk 6 _ rfl
 have x10 := hk 10 _ rfl
 have x11 := hk 11 _ rfl
 have x12 := hk 12 _ rfl
 have x17 := hk 17 _ rfl
 have x18 := hk 18 _ rfl
 obtain ⟨g, hg⟩ : ∃ g, g = w.heap.size := ⟨_, rfl⟩
 rw [← hg] at x3 x6 x10 x11 x12 x17 x18 hsz
 simp only [← hg, Nat.add_assoc, Nat.reduceAdd] at x3 x6 x10 x11 x12 x17 x18 ⊢
 clear hk
 have hq : Hq X g := by
  refine ⟨x12, x18, isC_litK x3 rfl rfl (by omega) (cells_wfK (by decide)), ?_, isC_litK x17 rfl rfl (by omega) (cells_wfK (by decide)), hdt.below hb⟩
  refine ⟨rfl, [[.bool false, .slice (some ⟨g + 6, 0, none⟩) 2 2], [.bool true, .slice (some ⟨g + 10, 0, none⟩) 3 3]], rfl, by simp, Sl.blk (cs := #[.bool false, .slice (some ⟨g + 6, 0, none⟩) 2 2, .bool true, .slice (some ⟨g + 10, 0, none⟩) 3 3]) (t := 36) x11 rfl (by simp [maxLen]), fun q x v hx hv => ?_⟩
  rcases q with _ | _ | q
  ·simp [hcC] at hx hv; subst hx; subst hv; exact ⟨_, _, _, rfl, isC_litK x6 rfl rfl (by omega) (cells_wfK (by decide))⟩
  ·simp [hcC] at hx hv; subst hx; subst hv; exact ⟨_, _, _, rfl, isC_litK x10 rfl rfl (by omega) (cells_wfK (by decide))⟩
  ·simp [hcC] at hx
 have HX0 := Lib.hid hb
 have Hq0 := Lib.hid hq
 clear hq hb hsz x3 x6 x10 x11 x12 x17 x18 hdt hg
 refine wp_region_held_drew (S := fun w' => w'.cell? ⟨g + 12, 0, none⟩ = some (.slice (some ⟨g + 3, 0, none⟩) 3 3) ∧ w'.cell? ⟨g + 12, 1, none⟩ = some (.slice (some ⟨g + 11, 0, none⟩) 2 2)) (by kernel_rfl) ?gs3 ?gr3
 case gs3 => exact (Hq0.out.below (Below.refl _ _).drew).sc
 case gr3 =>
  intro hHeld
  have HqV3 := Lib.hid (Hq0.out.below (Below.refl _ _).drew)
  have HbV3 := Lib.hid HX0.out.drew
  clear Hq0 HX0
  generalize X.drew = V3 at *
  refine stepA 4 hHeld ?_
  refine oneH 0 (fun K hK => ?_)
  go_simp
  go_at_call 35
  refine (f11_v _ _ _).mono ?_
  rintro e1 V3_0 ⟨rfl, hb1⟩
  have HqV3_0 := Lib.hid (HqV3.out.below hb1)
  have HbV3_0 := Lib.hid (HbV3.out.trans (hb1.mono HbV3.out.size))
  clear HqV3 HbV3
  clear hb1
  try go_simp
  refine hK _ _ (HqV3_0.out.sc) ?_
  clear hK K hHeld
  have hHeld := HqV3_0.out.sc
  try simp only [Act.put, sA, sZ, sS]
  refine oneH 1 (fun K hK => ?_)
  go_simp
  go_at_call 36
  refine (v11_v _ _).mono ?_
  rintro e1 V3_1 ⟨rfl, hb1⟩
  have HqV3_1 := Lib.hid (HqV3_0.out.below hb1)
  have HbV3_1 := Lib.hid (HbV3_0.out.trans (hb1.mono HbV3_0.out.size))
  clear HqV3_0 HbV3_0
  clear hb1
  try go_simp
  refine hK _ _ (HqV3_1.out.sc) ?_
  clear hK K hHeld
  have hHeld := HqV3_1.out.sc
  try simp only [Act.put, sA, sZ, sS]
  refine oneH 2 (fun K hK => ?_)
  go_simp
  go_at_call 37
  refine (n11_v _ _).mono ?_
  rintro e1 V3_2 ⟨rfl, hb1⟩
  have HqV3_2 := Lib.hid (HqV3_1.out.below hb1)
  have HbV3_2 := Lib.hid (HbV3_1.out.trans (hb1.mono HbV3_1.out.size))
  clear HqV3_1 HbV3_1
  clear hb1
  try go_simp
  refine hK _ _ (HqV3_2.out.sc) ?_
  clear hK K hHeld
  have hHeld := HqV3_2.out.sc
  try simp only [Act.put, sA, sZ, sS]
  refine oneH 3 (fun K hK => ?_)
  go_simp
  have hbA : Below V3_2.heap.size V3_2 (V3_2.alloc (.cells #[.int .i64 3, .string nmP, .int .i64 2, .int .i64 1, .string ⟨#[]⟩, .int .i64 0, .int .i64 2, .string ⟨#[]⟩, .int .i64 7] 66)) := (Below.refl _ _).alloc (Nat.le_refl _) _
  have HA3 := Lib.hid (show IsC (V3_2.alloc (.cells #[.int .i64 3, .string nmP, .int .i64 2, .int .i64 1, .string ⟨#[]⟩, .int .i64 0, .int .i64 2, .string ⟨#[]⟩, .int .i64 7] 66)) (some ⟨V3_2.heap.size, 0, none⟩) 3 3 (Tm.f nmP [.v 0, .i 7]).flat from isC_litK (alloc_at rfl) rfl rfl (by omega) (cells_wfK (by decide)))
  have HqV3_a := Lib.hid (HqV3_2.out.below hbA)
  have HbV3_a := Lib.hid (HbV3_2.out.trans (hbA.mono HbV3_2.out.size))
  clear HqV3_2 HbV3_2
  clear hbA
  refine hK _ _ (HqV3_a.out.sc) ?_
  clear hK K hHeld
  have hHeld := HqV3_a.out.sc
  try simp only [Act.put, sA, sZ, sS]
  refine oneH 5 (fun K hK => ?_)
  go_simp
  go_at_call 13
  refine (liveC (s := nmP) (us := [.v 0, .i 7]) (by rfl) (by decide) HA3.out HqV3_a.out (i64_near (by omega) (by omega)) hc1).mono ?_
  rintro e1 V3_b ⟨T3, nT3, cT3, L3, nL3, cL3, rfl, hT3, hL3, hb1⟩
  obtain rfl : nT3 = 3 := by rw [← hT3.len]; rfl
  obtain rfl : nL3 = 2 := by rw [← hL3.len]; rfl
  have HTV3_b := Lib.hid hT3
  have HLV3_b := Lib.hid hL3
  clear hT3 hL3
  have HqV3_b := Lib.hid (HqV3_a.out.below hb1)
  have HbV3_b := Lib.hid (HbV3_a.out.trans (hb1.mono HbV3_a.out.size))
  clear HqV3_a HbV3_a
  clear hb1 HA3
  try go_simp
  refine hK _ _ (HqV3_b.out.sc) ?_
  clear hK K hHeld
  have hHeld := HqV3_b.out.sc
  try simp only [Act.put, sA, sZ, sS]
  refine stepA 6 hHeld ?_
  refine stepA 7 hHeld ?_
  refine stepA 8 hHeld ?_
  refine stepA 9 hHeld ?_
  refine stepA 10 hHeld ?_
  refine stepA 11 hHeld ?_
  refine stepA 12 hHeld ?_
  refine wpAnyH_done (by as_aux_lemma => kernel_rfl) ?_ _
  go_upto_region 4 with fail
  have Hq1 := HqV3_b
  have HX1 := HbV3_b
  have HT1 := HTV3_b
  have HL1 := HLV3_b
  clear HqV3_b HbV3_b HTV3_b HLV3_b
  refine wp_region_held_drew (S := fun w' => w'.cell? ⟨g + 18, 0, none⟩ = some (.slice (some ⟨g + 17, 0, none⟩) 4 4) ∧ w'.cell? ⟨g + 18, 1, none⟩ = some (.slice none 0 0)) (by kernel_rfl) ?gs4 ?gr4
  case gs4 => exact (Hq1.out.below (Below.refl _ _).drew).sd
  case gr4 =>
   intro hHeld
   have HqV4 := Lib.hid (Hq1.out.below (Below.refl _ _).drew)
   have HbV4 := Lib.hid HX1.out.drew
   have HTV4 := Lib.hid (HT1.out.below (Below.refl _ _).drew)
   have HLV4 := Lib.hid (IsG.below keepsLit HL1.out (Below.refl _ _).drew)
   clear HT1 HL1
   clear Hq1 HX1
   generalize V3_b.drew = V4 at *
   refine stepA 4 hHeld ?_
   refine oneH 0 (fun K hK => ?_)
   go_simp
   go_at_call 35
   refine (f11_v _ _ _).mono ?_
   rintro e1 V4_0 ⟨rfl, hb1⟩
   have HqV4_0 := Lib.hid (HqV4.out.below hb1)
   have HbV4_0 := Lib.hid (HbV4.out.trans (hb1.mono HbV4.out.size))
   have HTV4_0 := Lib.hid (HTV4.out.below hb1)
   have HLV4_0 := Lib.hid (IsG.below keepsLit HLV4.out hb1)
   clear HTV4 HLV4
   clear HqV4 HbV4
   clear hb1
   try go_simp
   refine hK _ _ (HqV4_0.out.sd) ?_
   clear hK K hHeld
   have hHeld := HqV4_0.out.sd
   try simp only [Act.put, sA, sZ, sS]
   refine oneH 1 (fun K hK => ?_)
   go_simp
   go_at_call 36
   refine (v11_v _ _).mono ?_
   rintro e1 V4_1 ⟨rfl, hb1⟩
   have HqV4_1 := Lib.hid (HqV4_0.out.below hb1)
   have HbV4_1 := Lib.hid (HbV4_0.out.trans (hb1.mono HbV4_0.out.size))
   have HTV4_1 := Lib.hid (HTV4_0.out.below hb1)
   have HLV4_1 := Lib.hid (IsG.below keepsLit HLV4_0.out hb1)
   clear HTV4_0 HLV4_0
   clear HqV4_0 HbV4_0
   clear hb1
   try go_simp
   refine hK _ _ (HqV4_1.out.sd) ?_
   clear hK K hHeld
   have hHeld := HqV4_1.out.sd
   try simp only [Act.put, sA, sZ, sS]
   refine oneH 2 (fun K hK => ?_)
   go_simp
   go_at_call 36
   refine (v11_v _ _).mono ?_
   rintro e1 V4_2 ⟨rfl, hb1⟩
   have HqV4_2 := Lib.hid (HqV4_1.out.below hb1)
   have HbV4_2 := Lib.hid (HbV4_1.out.trans (hb1.mono HbV4_1.out.size))
   have HTV4_2 := Lib.hid (HTV4_1.out.below hb1)
   have HLV4_2 := Lib.hid (IsG.below keepsLit HLV4_1.out hb1)
   clear HTV4_1 HLV4_1
   clear HqV4_1 HbV4_1
   clear hb1
   try go_simp
   refine hK _ _ (HqV4_2.out.sd) ?_
   clear hK K hHeld
   have hHeld := HqV4_2.out.sd
   try simp only [Act.put, sA, sZ, sS]
   refine oneH 3 (fun K hK => ?_)
   go_simp
   have hbA : Below V4_2.heap.size V4_2 (V4_2.alloc (.cells #[.int .i64 3, .string nmP, .int .i64 2, .int .i64 1, .string ⟨#[]⟩, .int .i64 0, .int .i64 1, .string ⟨#[]⟩, .int .i64 0] 66)) := (Below.refl _ _).alloc (Nat.le_refl _) _
   have HA4 := Lib.hid (show IsC (V4_2.alloc (.cells #[.int .i64 3, .string nmP, .int .i64 2, .int .i64 1, .string ⟨#[]⟩, .int .i64 0, .int .i64 1, .string ⟨#[]⟩, .int .i64 0] 66)) (some ⟨V4_2.heap.size, 0, none⟩) 3 3 (Tm.f nmP [.v 0, .v 0]).flat from isC_litK (alloc_at rfl) rfl rfl (by omega) (cells_wfK (by decide)))
   have HqV4_a := Lib.hid (HqV4_2.out.below hbA)
   have HbV4_a := Lib.hid (HbV4_2.out.trans (hbA.mono HbV4_2.out.size))
   have HTV4_a := Lib.hid (HTV4_2.out.below hbA)
   have HLV4_a := Lib.hid (IsG.below keepsLit HLV4_2.out hbA)
   clear HTV4_2 HLV4_2
   clear HqV4_2 HbV4_2
   clear hbA
   refine hK _ _ (HqV4_a.out.sd) ?_
   clear hK K hHeld
   have hHeld := HqV4_a.out.sd
   try simp only [Act.put, sA, sZ, sS]
   refine oneH 5 (fun K hK => ?_)
   go_simp
   go_at_call 13
   refine (liveD (s := nmP) (us := [.v 0, .v 0]) (by rfl) (by decide) HA4.out HqV4_a.out (i64_near (by omega) (by omega)) hc2).mono ?_
   rintro e1 V4_b ⟨rfl, hb1⟩
   have HqV4_b := Lib.hid (HqV4_a.out.below hb1)
   have HbV4_b := Lib.hid (HbV4_a.out.trans (hb1.mono HbV4_a.out.size))
   have HTV4_b := Lib.hid (HTV4_a.out.below hb1)
   have HLV4_b := Lib.hid (IsG.below keepsLit HLV4_a.out hb1)
   clear HTV4_a HLV4_a
   clear HqV4_a HbV4_a
   clear hb1 HA4
   try go_simp
   refine hK _ _ (HqV4_b.out.sd) ?_
   clear hK K hHeld
   have hHeld := HqV4_b.out.sd
   try simp only [Act.put, sA, sZ, sS]
   refine stepA 6 hHeld ?_
   refine stepA 7 hHeld ?_
   refine stepA 8 hHeld ?_
   refine stepA 9 hHeld ?_
   refine stepA 10 hHeld ?_
   refine stepA 11 hHeld ?_
   refine stepA 12 hHeld ?_
   refine wpAnyH_done (by as_aux_lemma => kernel_rfl) ?_ _
   go_upto_region 5 with fail
   have Hq2 := HqV4_b
   have HX2 := HbV4_b
   have HT2 := HTV4_b
   have HL2 := HLV4_b
   clear HqV4_b HbV4_b HTV4_b HLV4_b
   refine wp_region_held_drew (S := fun w' => w'.cell? ⟨g + 12, 0, none⟩ = some (.slice (some ⟨g + 3, 0, none⟩) 3 3) ∧ w'.cell? ⟨g + 12, 1, none⟩ = some (.slice (some ⟨g + 11, 0, none⟩) 2 2)) (by kernel_rfl) ?gs5 ?gr5
   case gs5 => exact (Hq2.out.below (Below.refl _ _).drew).sc
   case gr5 =>
    intro hHeld
    have HqV5 := Lib.hid (Hq2.out.below (Below.refl _ _).drew)
    have HbV5 := Lib.hid HX2.out.drew
    have HTV5 := Lib.hid (HT2.out.below (Below.refl _ _).drew)
    have HLV5 := Lib.hid (IsG.below keepsLit HL2.out (Below.refl _ _).drew)
    clear HT2 HL2
    clear Hq2 HX2
    generalize V4_b.drew = V5 at *
    refine stepA 3 hHeld ?_
    refine oneH 0 (fun K hK => ?_)
    go_simp
    go_at_call 35
    refine (f11_v _ _ _).mono ?_
    rintro e1 V5_0 ⟨rfl, hb1⟩
    have HqV5_0 := Lib.hid (HqV5.out.below hb1)
    have HbV5_0 := Lib.hid (HbV5.out.trans (hb1.mono HbV5.out.size))
    have HTV5_0 := Lib.hid (HTV5.out.below hb1)
    have HLV5_0 := Lib.hid (IsG.below keepsLit HLV5.out hb1)
    clear HTV5 HLV5
    clear HqV5 HbV5
    clear hb1
    try go_simp
    refine hK _ _ (HqV5_0.out.sc) ?_
    clear hK K hHeld
    have hHeld := HqV5_0.out.sc
    try simp only [Act.put, sA, sZ, sS]
    refine oneH 1 (fun K hK => ?_)
    go_simp
    go_at_call 35
    refine (f11_v _ _ _).mono ?_
    rintro e1 V5_1 ⟨rfl, hb1⟩
    have HqV5_1 := Lib.hid (HqV5_0.out.below hb1)
    have HbV5_1 := Lib.hid (HbV5_0.out.trans (hb1.mono HbV5_0.out.size))
    have HTV5_1 := Lib.hid (HTV5_0.out.below hb1)
    have HLV5_1 := Lib.hid (IsG.below keepsLit HLV5_0.out hb1)
    clear HTV5_0 HLV5_0
    clear HqV5_0 HbV5_0
    clear hb1
    try go_simp
    refine hK _ _ (HqV5_1.out.sc) ?_
    clear hK K hHeld
    have hHeld := HqV5_1.out.sc
    try simp only [Act.put, sA, sZ, sS]
    refine oneH 2 (fun K hK => ?_)
    go_simp
    have hbA : Below V5_1.heap.size V5_1 (V5_1.alloc (.cells #[.int .i64 3, .string nmP, .int .i64 1, .int .i64 3, .string ⟨#[97]⟩, .int .i64 0] 66)) := (Below.refl _ _).alloc (Nat.le_refl _) _
    have HA5 := Lib.hid (show IsC (V5_1.alloc (.cells #[.int .i64 3, .string nmP, .int .i64 1, .int .i64 3, .string ⟨#[97]⟩, .int .i64 0] 66)) (some ⟨V5_1.heap.size, 0, none⟩) 2 2 (Tm.f nmP [.f ⟨#[97]⟩ []]).flat from isC_litK (alloc_at rfl) rfl rfl (by omega) (cells_wfK (by decide)))
    have HqV5_a := Lib.hid (HqV5_1.out.below hbA)
    have HbV5_a := Lib.hid (HbV5_1.out.trans (hbA.mono HbV5_1.out.size))
    have HTV5_a := Lib.hid (HTV5_1.out.below hbA)
    have HLV5_a := Lib.hid (IsG.below keepsLit HLV5_1.out hbA)
    clear HTV5_1 HLV5_1
    clear HqV5_1 HbV5_1
    clear hbA
    refine hK _ _ (HqV5_a.out.sc) ?_
    clear hK K hHeld
    have hHeld := HqV5_a.out.sc
    try simp only [Act.put, sA, sZ, sS]
    refine oneH 4 (fun K hK => ?_)
    go_simp
    go_at_call 13
    refine (liveC (s := nmP) (us := [.f ⟨#[97]⟩ []]) (by rfl) (by decide) HA5.out HqV5_a.out (i64_near (by omega) (by omega)) hc3).mono ?_
    rintro e1 V5_b ⟨rfl, hb1⟩
    have HqV5_b := Lib.hid (HqV5_a.out.below hb1)
    have HbV5_b := Lib.hid (HbV5_a.out.trans (hb1.mono HbV5_a.out.size))
    have HTV5_b := Lib.hid (HTV5_a.out.below hb1)
    have HLV5_b := Lib.hid (IsG.below keepsLit HLV5_a.out hb1)
    clear HTV5_a HLV5_a
    clear HqV5_a HbV5_a
    clear hb1 HA5
    try go_simp
    refine hK _ _ (HqV5_b.out.sc) ?_
    clear hK K hHeld
    have hHeld := HqV5_b.out.sc
    try simp only [Act.put, sA, sZ, sS]
    refine stepA 5 hHeld ?_
    refine stepA 6 hHeld ?_
    refine stepA 7 hHeld ?_
    refine stepA 8 hHeld ?_
    refine stepA 9 hHeld ?_
    refine stepA 10 hHeld ?_
    refine stepA 11 hHeld ?_
    refine wpAnyH_done (by as_aux_lemma => kernel_rfl) ?_ _
    go_upto_region 6 with fail
    have Hq3 := HqV5_b
    have HX3 := HbV5_b
    have HT3 := HTV5_b
    have HL3 := HLV5_b
    clear HqV5_b HbV5_b HTV5_b HLV5_b
    refine wp_region_held_drew (S := fun w' => w'.cell? ⟨g + 12, 0, none⟩ = some (.slice (some ⟨g + 3, 0, none⟩) 3 3) ∧ w'.cell? ⟨g + 12, 1, none⟩ = some (.slice (some ⟨g + 11, 0, none⟩) 2 2)) (by kernel_rfl) ?gs6 ?gr6
    case gs6 => exact (Hq3.out.below (Below.refl _ _).drew).sc
    case gr6 =>
     intro hHeld
     have HqV6 := Lib.hid (Hq3.out.below (Below.refl _ _).drew)
     have HbV6 := Lib.hid HX3.out.drew
     have HTV6 := Lib.hid (HT3.out.below (Below.refl _ _).drew)
     have HLV6 := Lib.hid (IsG.below keepsLit HL3.out (Below.refl _ _).drew)
     clear HT3 HL3
     clear Hq3 HX3
     generalize V5_b.drew = V6 at *
     refine stepA 4 hHeld ?_
     refine oneH 0 (fun K hK => ?_)
     go_simp
     go_at_call 35
     refine (f11_v _ _ _).mono ?_
     rintro e1 V6_0 ⟨rfl, hb1⟩
     have HqV6_0 := Lib.hid (HqV6.out.below hb1)
     have HbV6_0 := Lib.hid (HbV6.out.trans (hb1.mono HbV6.out.size))
     have HTV6_0 := Lib.hid (HTV6.out.below hb1)
     have HLV6_0 := Lib.hid (IsG.below keepsLit HLV6.out hb1)
     clear HTV6 HLV6
     clear HqV6 HbV6
     clear hb1
     try go_simp
     refine hK _ _ (HqV6_0.out.sc) ?_
     clear hK K hHeld
     have hHeld := HqV6_0.out.sc
     try simp only [Act.put, sA, sZ, sS]
     refine oneH 1 (fun K hK => ?_)
     go_simp
     go_at_call 36
     refine (v11_v _ _).mono ?_
     rintro e1 V6_1 ⟨rfl, hb1⟩
     have HqV6_1 := Lib.hid (HqV6_0.out.below hb1)
     have HbV6_1 := Lib.hid (HbV6_0.out.trans (hb1.mono HbV6_0.out.size))
     have HTV6_1 := Lib.hid (HTV6_0.out.below hb1)
     have HLV6_1 := Lib.hid (IsG.below keepsLit HLV6_0.out hb1)
     clear HTV6_0 HLV6_0
     clear HqV6_0 HbV6_0
     clear hb1
     try go_simp
     refine hK _ _ (HqV6_1.out.sc) ?_
     clear hK K hHeld
     have hHeld := HqV6_1.out.sc
     try simp only [Act.put, sA, sZ, sS]
     refine oneH 2 (fun K hK => ?_)
     go_simp
     go_at_call 37
     refine (n11_v _ _).mono ?_
     rintro e1 V6_2 ⟨rfl, hb1⟩
     have HqV6_2 := Lib.hid (HqV6_1.out.below hb1)
     have HbV6_2 := Lib.hid (HbV6_1.out.trans (hb1.mono HbV6_1.out.size))
     have HTV6_2 := Lib.hid (HTV6_1.out.below hb1)
     have HLV6_2 := Lib.hid (IsG.below keepsLit HLV6_1.out hb1)
     clear HTV6_1 HLV6_1
     clear HqV6_1 HbV6_1
     clear hb1
     try go_simp
     refine hK _ _ (HqV6_2.out.sc) ?_
     clear hK K hHeld
     have hHeld := HqV6_2.out.sc
     try simp only [Act.put, sA, sZ, sS]
     refine oneH 3 (fun K hK => ?_)
     go_simp
     have hbA : Below V6_2.heap.size V6_2 (V6_2.alloc (.cells #[.int .i64 3, .string nmP, .int .i64 2, .int .i64 1, .string ⟨#[]⟩, .int .i64 0, .int .i64 2, .string ⟨#[]⟩, .int .i64 7] 66)) := (Below.refl _ _).alloc (Nat.le_refl _) _
     have HA6 := Lib.hid (show IsC (V6_2.alloc (.cells #[.int .i64 3, .string nmP, .int .i64 2, .int .i64 1, .string ⟨#[]⟩, .int .i64 0, .int .i64 2, .string ⟨#[]⟩, .int .i64 7] 66)) (some ⟨V6_2.heap.size, 0, none⟩) 3 3 (Tm.f nmP [.v 0, .i 7]).flat from isC_litK (alloc_at rfl) rfl rfl (by omega) (cells_wfK (by decide)))
     have HqV6_a := Lib.hid (HqV6_2.out.below hbA)
     have HbV6_a := Lib.hid (HbV6_2.out.trans (hbA.mono HbV6_2.out.size))
     have HTV6_a := Lib.hid (HTV6_2.out.below hbA)
     have HLV6_a := Lib.hid (IsG.below keepsLit HLV6_2.out hbA)
     clear HTV6_2 HLV6_2
     clear HqV6_2 HbV6_2
     clear hbA
     refine hK _ _ (HqV6_a.out.sc) ?_
     clear hK K hHeld
     have hHeld := HqV6_a.out.sc
     try simp only [Act.put, sA, sZ, sS]
     refine oneH 5 (fun K hK => ?_)
     go_simp
     go_at_call 13
     refine (liveC (s := nmP) (us := [.v 0, .i 7]) (by rfl) (by decide) HA6.out HqV6_a.out (i64_near (by omega) (by omega)) hc4).mono ?_
     rintro e1 V6_b ⟨rfl, hb1⟩
     have HqV6_b := Lib.hid (HqV6_a.out.below hb1)
     have HbV6_b := Lib.hid (HbV6_a.out.trans (hb1.mono HbV6_a.out.size))
     have HTV6_b := Lib.hid (HTV6_a.out.below hb1)
     have HLV6_b := Lib.hid (IsG.below keepsLit HLV6_a.out hb1)
     clear HTV6_a HLV6_a
     clear HqV6_a HbV6_a
     clear hb1 HA6
     try go_simp
     refine hK _ _ (HqV6_b.out.sc) ?_
     clear hK K hHeld
     have hHeld := HqV6_b.out.sc
     try simp only [Act.put, sA, sZ, sS]
     refine stepA 6 hHeld ?_
     refine stepA 7 hHeld ?_
     refine stepA 8 hHeld ?_
     refine stepA 9 hHeld ?_
     refine stepA 10 hHeld ?_
     refine stepA 11 hHeld ?_
     refine stepA 12 hHeld ?_
     refine wpAnyH_done (by as_aux_lemma => kernel_rfl) ?_ _
     go_upto_region 7 with fail
     have Hq4 := HqV6_b
     have HX4 := HbV6_b
     have HT4 := HTV6_b
     have HL4 := HLV6_b
     clear HqV6_b HbV6_b HTV6_b HLV6_b
     refine wp_region_held_drew (S := fun w' => w'.cell? ⟨g + 12, 0, none⟩ = some (.slice (some ⟨g + 3, 0, none⟩) 3 3) ∧ w'.cell? ⟨g + 12, 1, none⟩ = some (.slice (some ⟨g + 11, 0, none⟩) 2 2)) (by kernel_rfl) ?gs7 ?gr7
     case gs7 => exact (Hq4.out.below (Below.refl _ _).drew).sc
     case gr7 =>
      intro hHeld
      have HqV7 := Lib.hid (Hq4.out.below (Below.refl _ _).drew)
      have HbV7 := Lib.hid HX4.out.drew
      have HTV7 := Lib.hid (HT4.out.below (Below.refl _ _).drew)
      have HLV7 := Lib.hid (IsG.below keepsLit HL4.out (Below.refl _ _).drew)
      clear HT4 HL4
      clear Hq4 HX4
      generalize V6_b.drew = V7 at *
      refine stepA 4 hHeld ?_
      refine oneH 0 (fun K hK => ?_)
      go_simp
      go_at_call 35
      refine (f11_v _ _ _).mono ?_
      rintro e1 V7_0 ⟨rfl, hb1⟩
      have HqV7_0 := Lib.hid (HqV7.out.below hb1)
      have HbV7_0 := Lib.hid (HbV7.out.trans (hb1.mono HbV7.out.size))
      have HTV7_0 := Lib.hid (HTV7.out.below hb1)
      have HLV7_0 := Lib.hid (IsG.below keepsLit HLV7.out hb1)
      clear HTV7 HLV7
      clear HqV7 HbV7
      clear hb1
      try go_simp
      refine hK _ _ (HqV7_0.out.sc) ?_
      clear hK K hHeld
      have hHeld := HqV7_0.out.sc
      try simp only [Act.put, sA, sZ, sS]
      refine oneH 1 (fun K hK => ?_)
      go_simp
      go_at_call 36
      refine (v11_v _ _).mono ?_
      rintro e1 V7_1 ⟨rfl, hb1⟩
      have HqV7_1 := Lib.hid (HqV7_0.out.below hb1)
      have HbV7_1 := Lib.hid (HbV7_0.out.trans (hb1.mono HbV7_0.out.size))
      have HTV7_1 := Lib.hid (HTV7_0.out.below hb1)
      have HLV7_1 := Lib.hid (IsG.below keepsLit HLV7_0.out hb1)
      clear HTV7_0 HLV7_0
      clear HqV7_0 HbV7_0
      clear hb1
      try go_simp
      refine hK _ _ (HqV7_1.out.sc) ?_
      clear hK K hHeld
      have hHeld := HqV7_1.out.sc
      try simp only [Act.put, sA, sZ, sS]
      refine oneH 2 (fun K hK => ?_)
      go_simp
      go_at_call 37
      refine (n11_v _ _).mono ?_
      rintro e1 V7_2 ⟨rfl, hb1⟩
      have HqV7_2 := Lib.hid (HqV7_1.out.below hb1)
      have HbV7_2 := Lib.hid (HbV7_1.out.trans (hb1.mono HbV7_1.out.size))
      have HTV7_2 := Lib.hid (HTV7_1.out.below hb1)
      have HLV7_2 := Lib.hid (IsG.below keepsLit HLV7_1.out hb1)
      clear HTV7_1 HLV7_1
      clear HqV7_1 HbV7_1
      clear hb1
      try go_simp
      refine hK _ _ (HqV7_2.out.sc) ?_
      clear hK K hHeld
      have hHeld := HqV7_2.out.sc
      try simp only [Act.put, sA, sZ, sS]
      refine oneH 3 (fun K hK => ?_)
      go_simp
      have hbA : Below V7_2.heap.size V7_2 (V7_2.alloc (.cells #[.int .i64 3, .string nmP, .int .i64 2, .int .i64 1, .string ⟨#[]⟩, .int .i64 0, .int .i64 2, .string ⟨#[]⟩, .int .i64 7] 66)) := (Below.refl _ _).alloc (Nat.le_refl _) _
      have HA7 := Lib.hid (show IsC (V7_2.alloc (.cells #[.int .i64 3, .string nmP, .int .i64 2, .int .i64 1, .string ⟨#[]⟩, .int .i64 0, .int .i64 2, .string ⟨#[]⟩, .int .i64 7] 66)) (some ⟨V7_2.heap.size, 0, none⟩) 3 3 (Tm.f nmP [.v 0, .i 7]).flat from isC_litK (alloc_at rfl) rfl rfl (by omega) (cells_wfK (by decide)))
      have HqV7_a := Lib.hid (HqV7_2.out.below hbA)
      have HbV7_a := Lib.hid (HbV7_2.out.trans (hbA.mono HbV7_2.out.size))
      have HTV7_a := Lib.hid (HTV7_2.out.below hbA)
      have HLV7_a := Lib.hid (IsG.below keepsLit HLV7_2.out hbA)
      clear HTV7_2 HLV7_2
      clear HqV7_2 HbV7_2
      clear hbA
      refine hK _ _ (HqV7_a.out.sc) ?_
      clear hK K hHeld
      have hHeld := HqV7_a.out.sc
      try simp only [Act.put, sA, sZ, sS]
      refine oneH 5 (fun K hK => ?_)
      go_simp
      go_at_call 13
      refine (liveC (s := nmP) (us := [.v 0, .i 7]) (by rfl) (by decide) HA7.out HqV7_a.out (i64_near (by omega) (by omega)) hc5).mono ?_
      rintro e1 V7_b ⟨rfl, hb1⟩
      have HqV7_b := Lib.hid (HqV7_a.out.below hb1)
      have HbV7_b := Lib.hid (HbV7_a.out.trans (hb1.mono HbV7_a.out.size))
      have HTV7_b := Lib.hid (HTV7_a.out.below hb1)
      have HLV7_b := Lib.hid (IsG.below keepsLit HLV7_a.out hb1)
      clear HTV7_a HLV7_a
      clear HqV7_a HbV7_a
      clear hb1 HA7
      try go_simp
      refine hK _ _ (HqV7_b.out.sc) ?_
      clear hK K hHeld
      have hHeld := HqV7_b.out.sc
      try simp only [Act.put, sA, sZ, sS]
      refine stepA 6 hHeld ?_
      refine stepA 7 hHeld ?_
      refine stepA 8 hHeld ?_
      refine stepA 9 hHeld ?_
      refine stepA 10 hHeld ?_
      refine stepA 11 hHeld ?_
      refine stepA 12 hHeld ?_
      refine wpAnyH_done (by as_aux_lemma => kernel_rfl) ?_ _
      go_upto_region 8 with fail
      have Hq5 := HqV7_b
      have HX5 := HbV7_b
      have HT5 := HTV7_b
      have HL5 := HLV7_b
      clear HqV7_b HbV7_b HTV7_b HLV7_b
      go_upto_region 9 with fail
      refine wp_world' (Φ := fun Y => Below V7_b.heap.size V7_b Y ∧ IsK Y (some ⟨V7_b.heap.size, 0, none⟩) 3 3 hcK) ⟨(Below.refl _ _).alloc (Nat.le_refl _) _, isK_litK (alloc_at rfl) rfl rfl (by omega) (ins_wfK (by decide))⟩ ?_
      rintro Y ⟨hbY, hKY⟩
      obtain ⟨gk, hgk⟩ : ∃ gk, gk = V7_b.heap.size := ⟨_, rfl⟩
      rw [← hgk] at hKY ⊢
      have HqY := Lib.hid (Hq5.out.below hbY)
      have HbY := Lib.hid (HX5.out.trans (hbY.mono HX5.out.size))
      have HTY := Lib.hid (HT5.out.below hbY)
      have HLY := Lib.hid (IsG.below keepsLit HL5.out hbY)
      have HKY := Lib.hid hKY
      clear hbY hKY hgk Hq5 HX5 HT5 HL5
      go_upto_region 10 with (first
       | (go_at_call 19; go_must (refine (liveR 3 ((alloc_past (by simp)).trans (alloc_at rfl)) (alloc_at (by simp)) (IsG.below keepsIn (IsG.below keepsIn HKY.out ((Below.refl _ _).alloc (Nat.le_refl _) _)) ((Below.refl _ _).alloc (Nat.le_refl _) _)) ((HqY.out.dt.below ((Below.refl _ _).alloc (Nat.le_refl _) _)).below ((Below.refl _ _).alloc (Nat.le_refl _) _)) (i64_near (by decide) (by decide))).mono ?_); intro e9 w9 hrun; go_must (rw [hc8] at hrun; obtain ⟨A9, c9, B9, d9, G9, g9, rfl, hrow9, hwf9, hI9, hgo9, hb9⟩ := hrun); have hbY9 := ((Below.refl Y.heap.size Y).alloc (Nat.le_refl _) (.cells #[.int .i64 1, .string emp, .int .i64 0] 90)).alloc (by simp) (.cells #[.int .i64 0] 3) |>.trans (hb9.mono (by simp; omega)); have HbY9 := Lib.hid hbY9; have Hrow9 := Lib.hid hrow9; have Hwf9 := Lib.hid hwf9; have HI9 := Lib.hid hI9; have Hgo9 := Lib.hid hgo9; clear hb9 hbY9 hrow9 hwf9 hI9 hgo9))
      refine wp_world' (Φ := fun Z => Below w9.heap.size w9 Z ∧ Z.heap[w9.heap.size]? = some (.cells #[.slice A9 hcR.l.length c9, .slice B9 hcR.tr.length d9, .int .i64 hcR.r] 44 (0, 0))) ⟨(Below.refl _ _).alloc (Nat.le_refl _) _, alloc_at rfl⟩ ?_
      rintro Z ⟨hbZ, hxZ⟩
      obtain ⟨gz, hgz⟩ : ∃ gz, gz = w9.heap.size := ⟨_, rfl⟩
      rw [← hgz] at hxZ ⊢
      have hYZ := HbY9.out.trans (hbZ.mono HbY9.out.size)
      have HqZ := Lib.hid (HqY.out.below hYZ)
      have HbZ := Lib.hid (HbY.out.trans (hYZ.mono HbY.out.size))
      have HTZ := Lib.hid (HTY.out.below hYZ)
      have HLZ := Lib.hid (IsG.below keepsLit HLY.out hYZ)
      have HKZ := Lib.hid (IsG.below keepsIn HKY.out hYZ)
      have HrowZ := Lib.hid (own_below Hrow9.out hbZ)
      have HIZ := Lib.hid (HI9.out.below hbZ)
      have HgoZ := Lib.hid (own_below Hgo9.out hbZ)
      have HxZ := Lib.hid hxZ
      clear hbZ hxZ hgz hYZ HqY HbY HTY HLY HKY HbY9 Hrow9 HI9 Hgo9
      go_upto_region 11 with (first
       | (go_at_call 19; go_must (refine (liveR 2 ((alloc_past (by simp)).trans (alloc_at rfl)) (alloc_at (by simp)) (IsG.below keepsIn (IsG.below keepsIn HKZ.out ((Below.refl _ _).alloc (Nat.le_refl _) _)) ((Below.refl _ _).alloc (Nat.le_refl _) _)) ((HqZ.out.dt.below ((Below.refl _ _).alloc (Nat.le_refl _) _)).below ((Below.refl _ _).alloc (Nat.le_refl _) _)) (i64_near (by decide) (by decide))).mono ?_); intro e10 w10 hrun; go_must (rw [hc9] at hrun; obtain ⟨rfl, hb10⟩ := hrun); have HbZ10 := Lib.hid (((Below.refl Z.heap.size Z).alloc (Nat.le_refl _) (.cells #[.int .i64 1, .string emp, .int .i64 0] 90)).alloc (by simp) (.cells #[.int .i64 0] 3) |>.trans (hb10.mono (by simp; omega))); clear hb10))
      go_upto_region 13 with fail
      refine wp_world' (Φ := fun W => Below Z.heap.size Z W) (HbZ10.out.alloc HbZ10.out.size _) ?_
      rintro W hW
      have HbW := Lib.hid (HbZ.out.trans (hW.mono HbZ.out.size))
      have HTW := Lib.hid (HTZ.out.below hW)
      have HrowW := Lib.hid (own_below HrowZ.out hW)
      have HIW := Lib.hid (HIZ.out.below hW)
      have hx := (hW.block _ (block_lt HxZ.out)).trans HxZ.out
      obtain ⟨bl, ol, A1, n1, c1, rfl, hbl, i1, u0, u1⟩ := lits_at (IsG.below keepsLit HLZ.out hW) (k := 0) (p := (false, [⟨3, nmQ, 1⟩, ⟨2, emp, 7⟩])) rfl
      obtain ⟨bl', ol', A2, n2, c2, hel, _, i2, v0, v1⟩ := lits_at (IsG.below keepsLit HLZ.out hW) (k := 1) (p := (true, [⟨3, nmR, 2⟩, ⟨1, emp, 0⟩, ⟨2, emp, 7⟩])) rfl
      simp only [Option.some.injEq, Addr.mk.injEq, and_true] at hel
      obtain ⟨rfl, rfl⟩ := hel
      obtain rfl : n1 = 2 := by rw [← i1.len]; rfl
      obtain rfl : n2 = 3 := by rw [← i2.len]; rfl
      obtain ⟨y0, y1, y2, yl⟩ := open3 hx
      simp only [Nat.zero_mul, Nat.one_mul, Nat.add_zero] at u0 u1 v0 v1
      have HS := Lib.hid (show ∀ w', Below W.heap.size W w' → w'.cell? ⟨bl, ol, none⟩ = some (.bool false) ∧ w'.cell? ⟨bl, ol + 1, none⟩ = some (.slice A1 2 c1) ∧ w'.cell? ⟨bl, ol + 2, none⟩ = some (.bool true) ∧ w'.cell? ⟨bl, ol + 2 + 1, none⟩ = some (.slice A2 3 c2) ∧ w'.cell? ⟨gz, 0, none⟩ = some (.slice A9 hcR.l.length c9) ∧ w'.cell? ⟨gz, 1, none⟩ = some (.slice B9 hcR.tr.length d9) ∧ w'.cell? ⟨gz, 2, none⟩ = some (.int .i64 hcR.r) from fun w' hb => ⟨(hb.cell (p := ⟨bl, ol, none⟩) hbl).trans u0, (hb.cell (p := ⟨bl, ol + 1, none⟩) hbl).trans u1, (hb.cell (p := ⟨bl, ol + 2, none⟩) hbl).trans v0, (hb.cell (p := ⟨bl, ol + 2 + 1, none⟩) hbl).trans v1, (hb.cell (p := ⟨gz, 0, none⟩) yl).trans y0, (hb.cell (p := ⟨gz, 1, none⟩) yl).trans y1, (hb.cell (p := ⟨gz, 2, none⟩) yl).trans y2⟩)
      have Hi1 := Lib.hid i1
      have Hi2 := Lib.hid i2
      clear hbl u0 u1 v0 v1 y0 y1 y2 yl hx hW i1 i2 HqZ HbZ HTZ HLZ HKZ HrowZ HIZ HgoZ HxZ HbZ10
      rw [show hcR.goals.length = 0 from rfl]
      refine wp_region_held_drew (S := fun w' => w'.cell? ⟨bl, ol, none⟩ = some (.bool false) ∧ w'.cell? ⟨bl, ol + 1, none⟩ = some (.slice A1 2 c1) ∧ w'.cell? ⟨bl, ol + 2, none⟩ = some (.bool true) ∧ w'.cell? ⟨bl, ol + 2 + 1, none⟩ = some (.slice A2 3 c2) ∧ w'.cell? ⟨gz, 0, none⟩ = some (.slice A9 hcR.l.length c9) ∧ w'.cell? ⟨gz, 1, none⟩ = some (.slice B9 hcR.tr.length d9) ∧ w'.cell? ⟨gz, 2, none⟩ = some (.int .i64 hcR.r)) (by kernel_rfl) ?gs13 ?gr13
      case gs13 => exact HS.out _ (Below.refl _ _).drew
      case gr13 =>
       intro hHeld
       have HU0 := Lib.hid ((Below.refl W.heap.size W).drew)
       generalize W.drew = U0 at *
       refine stepA 0 hHeld ?_
       refine stepA 1 hHeld ?_
       refine stepA 2 hHeld ?_
       refine stepA 3 hHeld ?_
       refine oneH 4 (fun K hK => ?_)
       go_simp
       go_at_call 35
       refine (f11_v _ _ _).mono ?_
       rintro e1 U1 ⟨rfl, hb1⟩
       have HU1 := Lib.hid (HU0.out.trans (hb1.mono HU0.out.size))
       clear hb1 HU0
       try go_simp
       refine hK _ _ (HS.out _ HU1.out) ?_
       clear hK K hHeld
       have hHeld := HS.out _ HU1.out
       try simp only [Act.put, sA, sZ, sS]
       refine oneH 5 (fun K hK => ?_)
       go_simp
       go_at_call 37
       refine (n11_v _ _).mono ?_
       rintro e1 U2 ⟨rfl, hb1⟩
       have HU2 := Lib.hid (HU1.out.trans (hb1.mono HU1.out.size))
       clear hb1 HU1
       try go_simp
       refine hK _ _ (HS.out _ HU2.out) ?_
       clear hK K hHeld
       have hHeld := HS.out _ HU2.out
       try simp only [Act.put, sA, sZ, sS]
       refine oneH 6 (fun K hK => ?_)
       go_simp
       go_at_call 37
       refine (n11_v _ _).mono ?_
       rintro e1 U3 ⟨rfl, hb1⟩
       have HU3 := Lib.hid (HU2.out.trans (hb1.mono HU2.out.size))
       clear hb1 HU2
       try go_simp
       refine hK _ _ (HS.out _ HU3.out) ?_
       clear hK K hHeld
       have hHeld := HS.out _ HU3.out
       try simp only [Act.put, sA, sZ, sS]
       refine oneH 7 (fun K hK => ?_)
       go_simp
       have HA := Lib.hid (show IsC (U3.alloc (.cells #[.int .i64 3, .string nmP, .int .i64 2, .int .i64 2, .string ⟨#[]⟩, .int .i64 7, .int .i64 2, .string ⟨#[]⟩, .int .i64 7] 66)) (some ⟨U3.heap.size, 0, none⟩) 3 3 hcT from isC_litK (alloc_at rfl) rfl rfl (by omega) (cells_wfK (by decide)))
       have HU4 := Lib.hid (HU3.out.alloc HU3.out.size (.cells #[.int .i64 3, .string nmP, .int .i64 2, .int .i64 2, .string ⟨#[]⟩, .int .i64 7, .int .i64 2, .string ⟨#[]⟩, .int .i64 7] 66))
       clear HU3
       refine hK _ _ (HS.out _ HU4.out) ?_
       clear hK K hHeld
       have hHeld := HS.out _ HU4.out
       try simp only [Act.put, sA, sZ, sS]
       refine oneH 8 (fun K hK => ?_)
       go_simp
       go_at_call 31
       refine (rSame_v (HTW.out.below HU4.out) HA.out (by omega)).mono ?_
       rintro e1 U5 ⟨rfl, hb1⟩
       have HU5 := Lib.hid (HU4.out.trans (hb1.mono HU4.out.size))
       clear hb1 HA HU4
       try go_simp
       refine hK _ _ (HS.out _ HU5.out) ?_
       clear hK K hHeld
       have hHeld := HS.out _ HU5.out
       try simp only [Act.put, sA, sZ, sS]
       refine stepA 9 hHeld ?_
       refine stepA 10 hHeld ?_
       refine stepA 11 hHeld ?_
       refine stepA 12 hHeld ?_
       refine stepA 13 hHeld ?_
       refine stepA 14 hHeld ?_
       refine stepA 15 hHeld ?_
       refine stepA 16 hHeld ?_
       refine stepA 17 hHeld ?_
       refine stepA 18 hHeld ?_
       refine stepA 19 hHeld ?_
       refine stepA 20 hHeld ?_
       refine stepA 21 hHeld ?_
       refine oneH 22 (fun K hK => ?_)
       go_simp
       go_at_call 35
       refine (f11_v _ _ _).mono ?_
       rintro e1 U6 ⟨rfl, hb1⟩
       have HU6 := Lib.hid (HU5.out.trans (hb1.mono HU5.out.size))
       clear hb1 HU5
       try go_simp
       refine hK _ _ (HS.out _ HU6.out) ?_
       clear hK K hHeld
       have hHeld := HS.out _ HU6.out
       try simp only [Act.put, sA, sZ, sS]
       refine oneH 23 (fun K hK => ?_)
       go_simp
       go_at_call 37
       refine (n11_v _ _).mono ?_
       rintro e1 U7 ⟨rfl, hb1⟩
       have HU7 := Lib.hid (HU6.out.trans (hb1.mono HU6.out.size))
       clear hb1 HU6
       try go_simp
       refine hK _ _ (HS.out _ HU7.out) ?_
       clear hK K hHeld
       have hHeld := HS.out _ HU7.out
       try simp only [Act.put, sA, sZ, sS]
       refine oneH 24 (fun K hK => ?_)
       go_simp
       have HA := Lib.hid (show IsC (U7.alloc (.cells #[.int .i64 3, .string nmQ, .int .i64 1, .int .i64 2, .string ⟨#[]⟩, .int .i64 7] 66)) (some ⟨U7.heap.size, 0, none⟩) 2 2 [⟨3, nmQ, 1⟩, ⟨2, emp, 7⟩] from isC_litK (alloc_at rfl) rfl rfl (by omega) (cells_wfK (by decide)))
       have HU8 := Lib.hid (HU7.out.alloc HU7.out.size (.cells #[.int .i64 3, .string nmQ, .int .i64 1, .int .i64 2, .string ⟨#[]⟩, .int .i64 7] 66))
       clear HU7
       refine hK _ _ (HS.out _ HU8.out) ?_
       clear hK K hHeld
       have hHeld := HS.out _ HU8.out
       try simp only [Act.put, sA, sZ, sS]
       refine oneH 25 (fun K hK => ?_)
       go_simp
       go_at_call 31
       refine (rSame_v (Hi1.out.below HU8.out) HA.out (by omega)).mono ?_
       rintro e1 U9 ⟨rfl, hb1⟩
       have HU9 := Lib.hid (HU8.out.trans (hb1.mono HU8.out.size))
       clear hb1 HA HU8
       try go_simp
       refine hK _ _ (HS.out _ HU9.out) ?_
       clear hK K hHeld
       have hHeld := HS.out _ HU9.out
       try simp only [Act.put, sA, sZ, sS]
       refine stepA 26 hHeld ?_
       refine stepA 27 hHeld ?_
       refine stepA 28 hHeld ?_
       refine stepA 29 hHeld ?_
       refine stepA 30 hHeld ?_
       refine stepA 31 hHeld ?_
       refine stepA 32 hHeld ?_
       refine stepA 33 hHeld ?_
       refine stepA 34 hHeld ?_
       refine stepA 35 hHeld ?_
       refine stepA 36 hHeld ?_
       refine stepA 37 hHeld ?_
       refine oneH 38 (fun K hK => ?_)
       go_simp
       go_at_call 35
       refine (f11_v _ _ _).mono ?_
       rintro e1 U10 ⟨rfl, hb1⟩
       have HU10 := Lib.hid (HU9.out.trans (hb1.mono HU9.out.size))
       clear hb1 HU9
       try go_simp
       refine hK _ _ (HS.out _ HU10.out) ?_
       clear hK K hHeld
       have hHeld := HS.out _ HU10.out
       try simp only [Act.put, sA, sZ, sS]
       refine oneH 39 (fun K hK => ?_)
       go_simp
       go_at_call 36
       refine (v11_v _ _).mono ?_
       rintro e1 U11 ⟨rfl, hb1⟩
       have HU11 := Lib.hid (HU10.out.trans (hb1.mono HU10.out.size))
       clear hb1 HU10
       try go_simp
       refine hK _ _ (HS.out _ HU11.out) ?_
       clear hK K hHeld
       have hHeld := HS.out _ HU11.out
       try simp only [Act.put, sA, sZ, sS]
       refine oneH 40 (fun K hK => ?_)
       go_simp
       go_at_call 37
       refine (n11_v _ _).mono ?_
       rintro e1 U12 ⟨rfl, hb1⟩
       have HU12 := Lib.hid (HU11.out.trans (hb1.mono HU11.out.size))
       clear hb1 HU11
       try go_simp
       refine hK _ _ (HS.out _ HU12.out) ?_
       clear hK K hHeld
       have hHeld := HS.out _ HU12.out
       try simp only [Act.put, sA, sZ, sS]
       refine oneH 41 (fun K hK => ?_)
       go_simp
       have HA := Lib.hid (show IsC (U12.alloc (.cells #[.int .i64 3, .string nmR, .int .i64 2, .int .i64 1, .string ⟨#[]⟩, .int .i64 0, .int .i64 2, .string ⟨#[]⟩, .int .i64 7] 66)) (some ⟨U12.heap.size, 0, none⟩) 3 3 [⟨3, nmR, 2⟩, ⟨1, emp, 0⟩, ⟨2, emp, 7⟩] from isC_litK (alloc_at rfl) rfl rfl (by omega) (cells_wfK (by decide)))
       have HU13 := Lib.hid (HU12.out.alloc HU12.out.size (.cells #[.int .i64 3, .string nmR, .int .i64 2, .int .i64 1, .string ⟨#[]⟩, .int .i64 0, .int .i64 2, .string ⟨#[]⟩, .int .i64 7] 66))
       clear HU12
       refine hK _ _ (HS.out _ HU13.out) ?_
       clear hK K hHeld
       have hHeld := HS.out _ HU13.out
       try simp only [Act.put, sA, sZ, sS]
       refine oneH 42 (fun K hK => ?_)
       go_simp
       go_at_call 31
       refine (rSame_v (Hi2.out.below HU13.out) HA.out (by omega)).mono ?_
       rintro e1 U14 ⟨rfl, hb1⟩
       have HU14 := Lib.hid (HU13.out.trans (hb1.mono HU13.out.size))
       clear hb1 HA HU13
       try go_simp
       refine hK _ _ (HS.out _ HU14.out) ?_
       clear hK K hHeld
       have hHeld := HS.out _ HU14.out
       try simp only [Act.put, sA, sZ, sS]
       refine stepA 43 hHeld ?_
       refine stepA 44 hHeld ?_
       refine stepA 45 hHeld ?_
       refine stepA 46 hHeld ?_
       refine stepA 47 hHeld ?_
       refine stepA 48 hHeld ?_
       refine stepA 49 hHeld ?_
       refine stepA 50 hHeld ?_
       refine stepA 51 hHeld ?_
       refine stepA 52 hHeld ?_
       refine stepA 53 hHeld ?_
       refine stepA 54 hHeld ?_
       refine stepA 55 hHeld ?_
       refine stepA 56 hHeld ?_
       refine stepA 57 hHeld ?_
       refine stepA 58 hHeld ?_
       refine stepA 59 hHeld ?_
       refine stepA 60 hHeld ?_
       refine stepA 61 hHeld ?_
       refine stepA 62 hHeld ?_
       refine stepA 63 hHeld ?_
       refine stepA 64 hHeld ?_
       refine stepA 65 hHeld ?_
       refine stepA 66 hHeld ?_
       refine stepA 67 hHeld ?_
       refine stepA 68 hHeld ?_
       refine stepA 69 hHeld ?_
       refine stepA 70 hHeld ?_
       refine stepA 71 hHeld ?_
       refine stepA 72 hHeld ?_
       refine stepA 73 hHeld ?_
       refine stepA 74 hHeld ?_
       refine stepA 75 hHeld ?_
       refine stepA 76 hHeld ?_
       refine stepA 77 hHeld ?_
       refine stepA 78 hHeld ?_
       refine held_two (i := 79) (j := 80) (oi := ?oi79u6) (oj := ?oi80u6) (by as_aux_lemma => kernel_rfl) ?hi79u6 ?hi80u6 (fun K hK => ?rest79u6) (fun K hK => ?rest80u6)
       case hi79u6 => (simp only [List.getElem?_toArray, List.getElem?_cons_succ, List.getElem?_cons_zero]; exact rfl)
       case hi80u6 => (simp only [List.getElem?_toArray, List.getElem?_cons_succ, List.getElem?_cons_zero]; exact rfl)
       ·skip
        go_simp
        have HO0 := Lib.hid (HU14.out.alloc HU14.out.size (.cells #[.int .i64 1, .string ⟨#[]⟩, .int .i64 1, .int .i64 4, .string ⟨#[103]⟩, .int .i64 1, .int .i64 1, .string ⟨#[]⟩, .int .i64 3, .int .i64 2, .string ⟨#[]⟩, .int .i64 5] 90))
        refine hK _ _ (HS.out _ HO0.out) ?_
        clear hK K hHeld
        have hHeld := HS.out _ HO0.out
        try simp only [Act.put, sA, sZ, sS]
        refine oneH 80 (fun K hK => ?_)
        go_simp
        have HO1 := Lib.hid (HO0.out.alloc HO0.out.size (.cells #[.int .i64 0, .int .i64 2] 3))
        refine hK _ _ (HS.out _ HO1.out) ?_
        clear hK K hHeld
        have hHeld := HS.out _ HO1.out
        try simp only [Act.put, sA, sZ, sS]
        refine stepA 81 hHeld ?_
        refine oneH 82 (fun K hK => ?_)
        go_simp
        go_at_call 20
        refine (qSame_v HrowW.out HIW.out HO1.out ((alloc_past (by simp)).trans (alloc_at rfl)) (alloc_at (by simp))).mono ?_
        rintro e1 UZ ⟨rfl, hb1⟩
        have HUZ := Lib.hid (HO1.out.trans (hb1.mono HO1.out.size))
        clear hb1
        try go_simp
        refine hK _ _ (HS.out _ HUZ.out) ?_
        clear hK K hHeld
        have hHeld := HS.out _ HUZ.out
        try simp only [Act.put, sA, sZ, sS]
        refine stepA 83 hHeld ?_
        refine stepA 84 hHeld ?_
        refine stepA 85 hHeld ?_
        refine stepA 86 hHeld ?_
        refine stepA 87 hHeld ?_
        refine stepA 88 hHeld ?_
        refine stepA 89 hHeld ?_
        refine stepA 90 hHeld ?_
        refine stepA 91 hHeld ?_
        refine stepA 92 hHeld ?_
        refine wpAnyH_done (by as_aux_lemma => kernel_rfl) ?_ _
        go_wp2
        go_ret
        exact ⟨rfl, HbW.out.trans (HUZ.out.mono HbW.out.size)⟩
       ·skip
        go_simp
        have HO0 := Lib.hid (HU14.out.alloc HU14.out.size (.cells #[.int .i64 0, .int .i64 2] 3))
        refine hK _ _ (HS.out _ HO0.out) ?_
        clear hK K hHeld
        have hHeld := HS.out _ HO0.out
        try simp only [Act.put, sA, sZ, sS]
        refine oneH 79 (fun K hK => ?_)
        go_simp
        have HO1 := Lib.hid (HO0.out.alloc HO0.out.size (.cells #[.int .i64 1, .string ⟨#[]⟩, .int .i64 1, .int .i64 4, .string ⟨#[103]⟩, .int .i64 1, .int .i64 1, .string ⟨#[]⟩, .int .i64 3, .int .i64 2, .string ⟨#[]⟩, .int .i64 5] 90))
        refine hK _ _ (HS.out _ HO1.out) ?_
        clear hK K hHeld
        have hHeld := HS.out _ HO1.out
        try simp only [Act.put, sA, sZ, sS]
        refine stepA 81 hHeld ?_
        refine oneH 82 (fun K hK => ?_)
        go_simp
        go_at_call 20
        refine (qSame_v HrowW.out HIW.out HO1.out (alloc_at (by simp)) ((alloc_past (by simp)).trans (alloc_at rfl))).mono ?_
        rintro e1 UZ ⟨rfl, hb1⟩
        have HUZ := Lib.hid (HO1.out.trans (hb1.mono HO1.out.size))
        clear hb1
        try go_simp
        refine hK _ _ (HS.out _ HUZ.out) ?_
        clear hK K hHeld
        have hHeld := HS.out _ HUZ.out
        try simp only [Act.put, sA, sZ, sS]
        refine stepA 83 hHeld ?_
        refine stepA 84 hHeld ?_
        refine stepA 85 hHeld ?_
        refine stepA 86 hHeld ?_
        refine stepA 87 hHeld ?_
        refine stepA 88 hHeld ?_
        refine stepA 89 hHeld ?_
        refine stepA 90 hHeld ?_
        refine stepA 91 hHeld ?_
        refine stepA 92 hHeld ?_
        refine wpAnyH_done (by as_aux_lemma => kernel_rfl) ?_ _
        go_wp2
        go_ret
        exact ⟨rfl, HbW.out.trans (HUZ.out.mono HbW.out.size)⟩
end Go.Proofs.YtgipiplklaeplaaDoor
