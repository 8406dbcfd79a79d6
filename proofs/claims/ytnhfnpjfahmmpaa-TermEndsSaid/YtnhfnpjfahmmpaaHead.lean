/- The walk of the live questions, whose answers are fixed. -/
import Derived.Test.YtnhfnpjfahmmpaaMake
import Derived.Test.YtnhfnpjfahmmpaaDepth
import Derived.Test.YtnhfnpjfahmmpaaCmp
namespace Go.Proofs.Ytnhfnpjfahmmpaa
open Go.RowKit

def oneT : List C := [⟨3, ⟨#[102]⟩, 3⟩, ⟨1, ⟨#[]⟩, 3⟩, ⟨3, ⟨#[103]⟩, 1⟩, ⟨1, ⟨#[]⟩, 1⟩, ⟨1, ⟨#[]⟩, 3⟩]
theorem one_right : rightB oneT = true := by kernel_rfl
theorem one_cut : rightB (oneT.take 4) = false := by kernel_rfl
theorem nil_right : rightB [] = false := by kernel_rfl
theorem one_parts : partsF oneT = [[⟨1, ⟨#[]⟩, 3⟩], [⟨3, ⟨#[103]⟩, 1⟩, ⟨1, ⟨#[]⟩, 1⟩], [⟨1, ⟨#[]⟩, 3⟩]] := by kernel_rfl
theorem one_number : numberF oneT = [⟨3, ⟨#[102]⟩, 3⟩, ⟨1, ⟨#[]⟩, 0⟩, ⟨3, ⟨#[103]⟩, 1⟩, ⟨1, ⟨#[]⟩, 1⟩, ⟨1, ⟨#[]⟩, 0⟩] := by kernel_rfl
theorem one_vars : varsF oneT = [3, 1] := by kernel_rfl
theorem one_shift : shiftF oneT 2 = [⟨3, ⟨#[102]⟩, 3⟩, ⟨1, ⟨#[]⟩, 5⟩, ⟨3, ⟨#[103]⟩, 1⟩, ⟨1, ⟨#[]⟩, 3⟩, ⟨1, ⟨#[]⟩, 5⟩] := by kernel_rfl
theorem one_shift2 : shiftF oneT 997 = [] := by kernel_rfl
theorem one_depth : depthF oneT = 3 := by kernel_rfl
theorem one_ground : groundF oneT = false := by kernel_rfl
theorem one_same : sameC oneT oneT = true := by kernel_rfl
def atomA : List C := [⟨3, ⟨#[97]⟩, 0⟩]
def sevenT : List C := [⟨2, ⟨#[]⟩, 7⟩]
theorem a_make : makeF ⟨#[97]⟩ [] = atomA := by kernel_rfl
theorem e_make : makeF ⟨#[]⟩ [] = [] := by kernel_rfl
theorem a_seven : compareT atomA sevenT = 1 := by kernel_rfl
theorem seven_seven : compareT sevenT sevenT = 0 := by kernel_rfl
theorem a_ground : groundF atomA = true := by kernel_rfl
theorem IsCC.nil0 (w : World) : IsCC w none 0 0 [] := ⟨rfl, [], ⟨rfl, Nat.le_refl _, by simp [maxLen], fun h => absurd h (by omega)⟩, by simp⟩

theorem one_wf : ∀ c ∈ oneT, c.wf := by
  intro c hc
  simp only [oneT, List.mem_cons, List.not_mem_nil, or_false] at hc
  rcases hc with rfl | rfl | rfl | rfl | rfl <;> exact ⟨by simp [i64], by simp [i64], by simp [maxLen, ByteArray.size]⟩
theorem seven_wf : ∀ c ∈ sevenT, c.wf := by
  intro c hc
  simp only [sevenT, List.mem_cons, List.not_mem_nil, or_false] at hc
  rcases hc with rfl
  exact ⟨by simp [i64], by simp [i64], by simp [maxLen, ByteArray.size]⟩
theorem one_any (w : World) : Calls Try.prog 37 #[] w (RetC w oneT) := by
  go_enter Try.func37, Try.ntmps37
  go_wp2
  go_ret
  exact ⟨_, _, _, rfl, ⟨Sl.lit w _ (flatC oneT) _ 3 5 rfl rfl (by simp [maxLen]), one_wf⟩, (by repeat (first | assumption | exact Below.refl _ _ | refine Below.drew ?_ | refine below_drewN ?_ _ | refine Below.alloc ?_ ?_ _ | refine Below.setCell ?_ ?_ _ | (apply Below.size; assumption) | (simp; done) | (simp; omega) | (have hz := hb.size; simp; omega) | (have hz := hb.size; omega) | omega))⟩

set_option maxRecDepth 100000 in
set_option maxHeartbeats 4000000 in
theorem head_any (w : World) : Calls Try.prog 12 #[] w (RetV w (.bool true)) := by
  go_enter Try.func12, Try.ntmps12
  go_wp2_with fail
  refine (one_any _).mono ?_
  rintro e w' ⟨At, nt, ct, rfl, ht, hbn⟩
  have hb := hbn
  clear hbn
  obtain rfl : nt = 5 := by rw [← ht.len]; rfl
  go_wp2_with fail
  refine (tParts_any At 5 ct oneT _ ht one_right).mono ?_
  rintro e w' ⟨Ap, np, cp, rfl, hp, hbn⟩
  replace ht := ht.below hbn
  replace hb := hb.trans (hbn.mono hb.size)
  clear hbn
  rw [one_parts] at hp
  obtain rfl : np = 3 := by rw [← hp.len]; rfl
  go_wp2_with fail
  refine (tNumber_any At 5 ct oneT _ ht (by omega)).mono ?_
  rintro e w' ⟨An, nn, cn, rfl, hn, hbn⟩
  replace ht := ht.below hbn
  replace hp := hp.below hbn
  replace hb := hb.trans (hbn.mono hb.size)
  clear hbn
  rw [one_number] at hn
  obtain rfl : nn = 5 := by rw [← hn.len]; rfl
  go_wp2_with fail
  refine (tVars_any At 5 ct oneT _ ht (by omega)).mono ?_
  rintro e w' ⟨Av, nv, cv, rfl, hv, hbn⟩
  replace ht := ht.below hbn
  replace hp := hp.below hbn
  replace hn := hn.below hbn
  replace hb := hb.trans (hbn.mono hb.size)
  clear hbn
  rw [one_vars] at hv
  obtain rfl : nv = 2 := by rw [← hv.len]; rfl
  go_wp2_with fail
  refine (tShift_any At 5 ct oneT 2 _ ht (by omega)).mono ?_
  rintro e w' ⟨As, ns, cs, rfl, hs, hbn⟩
  replace ht := ht.below hbn
  replace hp := hp.below hbn
  replace hn := hn.below hbn
  replace hv := hv.below hbn
  replace hb := hb.trans (hbn.mono hb.size)
  clear hbn
  rw [one_shift] at hs
  obtain rfl : ns = 5 := by rw [← hs.len]; rfl
  go_wp2_with fail
  refine (tMake_any ⟨#[97]⟩ none 0 0 [] _ (IsCC.nil0 _) (by omega) (by simp) (by simp [maxLen, ByteArray.size])).mono ?_
  rintro e w' ⟨Aa, na, ca, rfl, ha, hbn⟩
  replace ht := ht.below hbn
  replace hp := hp.below hbn
  replace hn := hn.below hbn
  replace hv := hv.below hbn
  replace hs := hs.below hbn
  replace hb := hb.trans (hbn.mono hb.size)
  clear hbn
  rw [a_make] at ha
  obtain rfl : na = 1 := by rw [← ha.len]; rfl
  go_wp2_with fail
  obtain ⟨W, hW⟩ : ∃ W, W = World.alloc w' (Obj.cells #[Value.int IntKind.i64 2, Value.string ⟨#[]⟩, Value.int IntKind.i64 7] 40) := ⟨_, rfl⟩
  have h7 : IsC W (some ⟨w'.heap.size, 0, none⟩) 1 1 sevenT := by rw [hW]; exact ⟨Sl.lit _ _ (flatC sevenT) _ 3 1 rfl rfl (by simp [maxLen]), seven_wf⟩
  have hbn : Below w'.heap.size w' W := by rw [hW]; exact (Below.refl _ _).alloc (Nat.le_refl _) _
  rw [← hW]
  clear hW
  replace ht := ht.below hbn
  replace hp := hp.below hbn
  replace hn := hn.below hbn
  replace hv := hv.below hbn
  replace hs := hs.below hbn
  replace ha := ha.below hbn
  replace hb := hb.trans (hbn.mono hb.size)
  clear hbn
  obtain ⟨g7, hg7⟩ : ∃ g, g = w'.heap.size := ⟨_, rfl⟩
  rw [← hg7] at h7 ⊢
  clear hg7
  refine (tRight_any At 5 ct oneT _ ht (by omega)).mono ?_
  rintro e w' ⟨rfl, hbn⟩
  replace ht := ht.below hbn
  replace hp := hp.below hbn
  replace hn := hn.below hbn
  replace hv := hv.below hbn
  replace hs := hs.below hbn
  replace ha := ha.below hbn
  replace h7 := h7.below hbn
  replace hb := hb.trans (hbn.mono hb.size)
  clear hbn
  rw [one_right]
  have hct := ht.sl.hcap
  have hct4 : (4 : Int) ≤ (ct : Int) := by omega
  go_wp2_with fail
  refine (tRight_any At 4 ct (oneT.take 4) _ (ht.take (by omega)) (by omega)).mono ?_
  rw [one_cut]
  rintro e w' ⟨rfl, hbn⟩
  replace ht := ht.below hbn
  replace hp := hp.below hbn
  replace hn := hn.below hbn
  replace hv := hv.below hbn
  replace hs := hs.below hbn
  replace ha := ha.below hbn
  replace h7 := h7.below hbn
  replace hb := hb.trans (hbn.mono hb.size)
  clear hbn
  go_wp2_with fail
  refine (tRight_any none 0 0 [] _ (IsC.nil0 _) (by omega)).mono ?_
  rw [nil_right]
  rintro e w' ⟨rfl, hbn⟩
  replace ht := ht.below hbn
  replace hp := hp.below hbn
  replace hn := hn.below hbn
  replace hv := hv.below hbn
  replace hs := hs.below hbn
  replace ha := ha.below hbn
  replace h7 := h7.below hbn
  replace hb := hb.trans (hbn.mono hb.size)
  clear hbn
  go_wp2_with fail
  refine (tDepth_any At 5 ct oneT _ ht one_right).mono ?_
  rw [one_depth]
  rintro e w' ⟨rfl, hbn⟩
  replace ht := ht.below hbn
  replace hp := hp.below hbn
  replace hn := hn.below hbn
  replace hv := hv.below hbn
  replace hs := hs.below hbn
  replace ha := ha.below hbn
  replace h7 := h7.below hbn
  replace hb := hb.trans (hbn.mono hb.size)
  clear hbn
  obtain ⟨bv, ov, rfl, _, hvc⟩ := hv.open_ (by omega)
  have v0 := hvc 0 3 rfl
  have v1 := hvc 1 1 rfl
  simp only [Nat.add_zero] at v0
  go_wp2_with fail
  refine (tGround_any At 5 ct oneT _ ht (by omega)).mono ?_
  rw [one_ground]
  rintro e w' ⟨rfl, hbn⟩
  replace ht := ht.below hbn
  replace hp := hp.below hbn
  replace hn := hn.below hbn
  replace hv := hv.below hbn
  replace hs := hs.below hbn
  replace ha := ha.below hbn
  replace h7 := h7.below hbn
  replace hb := hb.trans (hbn.mono hb.size)
  clear hbn
  clear v0 v1 hvc
  obtain ⟨bp, op, A1, n1, c1, rfl, _, hp1, hpc⟩ := hp.at_ (k := 1) rfl
  obtain rfl : n1 = 2 := by rw [← hpc.len]; rfl
  obtain ⟨bn, on, rfl, _, hnc⟩ := hn.open_ (by omega)
  have n1 := (hnc 1 _ rfl).2.2
  have n3 := (hnc 3 _ rfl).2.2
  have n4 := (hnc 4 _ rfl).2.2
  obtain ⟨bs, os, rfl, _, hsc⟩ := hs.open_ (by omega)
  have s1 := (hsc 1 _ rfl).2.2
  simp only [Nat.reduceMul] at n1 n3 n4 s1
  clear hpc hnc hsc
  go_wp2_with fail
  refine (tCompare_any Aa _ 1 1 ca 1 atomA sevenT _ ha h7 (by omega) (by omega)).mono ?_
  rw [a_seven]
  rintro e w' ⟨rfl, hbn⟩
  replace ht := ht.below hbn
  replace hp := hp.below hbn
  replace hn := hn.below hbn
  replace hv := hv.below hbn
  replace hs := hs.below hbn
  replace ha := ha.below hbn
  replace h7 := h7.below hbn
  replace hb := hb.trans (hbn.mono hb.size)
  clear hbn
  clear n1 n3 n4 s1 hp1
  go_wp2_with fail
  refine (tCompare_any _ _ 1 1 1 1 sevenT sevenT _ h7 h7 (by omega) (by omega)).mono ?_
  rw [seven_seven]
  rintro e w' ⟨rfl, hbn⟩
  replace ht := ht.below hbn
  replace hp := hp.below hbn
  replace hn := hn.below hbn
  replace hv := hv.below hbn
  replace hs := hs.below hbn
  replace ha := ha.below hbn
  replace h7 := h7.below hbn
  replace hb := hb.trans (hbn.mono hb.size)
  clear hbn
  go_wp2_with fail
  refine (one_any _).mono ?_
  rintro e w' ⟨A2, n2, c2, rfl, h2, hbn⟩
  replace ht := ht.below hbn
  replace hp := hp.below hbn
  replace hn := hn.below hbn
  replace hv := hv.below hbn
  replace hs := hs.below hbn
  replace ha := ha.below hbn
  replace h7 := h7.below hbn
  replace hb := hb.trans (hbn.mono hb.size)
  clear hbn
  obtain rfl : n2 = 5 := by rw [← h2.len]; rfl
  go_wp2_with fail
  refine (tSame_any At A2 5 5 ct c2 oneT oneT _ ht h2 (by omega) (by omega)).mono ?_
  rw [one_same]
  intro e w' hd
  obtain ⟨rfl, hbn⟩ := hd.v
  clear hd
  replace ht := ht.below hbn
  replace hp := hp.below hbn
  replace hn := hn.below hbn
  replace hv := hv.below hbn
  replace hs := hs.below hbn
  replace ha := ha.below hbn
  replace h7 := h7.below hbn
  replace hb := hb.trans (hbn.mono hb.size)
  clear hbn
  go_wp2_with fail
  refine (tGround_any Aa 1 ca atomA _ ha (by omega)).mono ?_
  rw [a_ground]
  rintro e w' ⟨rfl, hbn⟩
  replace ht := ht.below hbn
  replace hp := hp.below hbn
  replace hn := hn.below hbn
  replace hv := hv.below hbn
  replace hs := hs.below hbn
  replace ha := ha.below hbn
  replace h7 := h7.below hbn
  replace hb := hb.trans (hbn.mono hb.size)
  clear hbn
  go_wp2_with fail
  refine (tShift_any At 5 ct oneT 997 _ ht (by omega)).mono ?_
  rintro e w' ⟨A3, n3, c3, rfl, h3, hbn⟩
  replace ht := ht.below hbn
  replace hp := hp.below hbn
  replace hn := hn.below hbn
  replace hv := hv.below hbn
  replace hs := hs.below hbn
  replace ha := ha.below hbn
  replace h7 := h7.below hbn
  replace hb := hb.trans (hbn.mono hb.size)
  clear hbn
  rw [one_shift2] at h3
  obtain rfl : n3 = 0 := by rw [← h3.len]; rfl
  go_wp2_with fail
  refine (tMake_any ⟨#[]⟩ none 0 0 [] _ (IsCC.nil0 _) (by omega) (by simp) (by simp [maxLen, ByteArray.size])).mono ?_
  rintro e w' ⟨A4, n4, c4, rfl, h4, hbn⟩
  replace ht := ht.below hbn
  replace hp := hp.below hbn
  replace hn := hn.below hbn
  replace hv := hv.below hbn
  replace hs := hs.below hbn
  replace ha := ha.below hbn
  replace h7 := h7.below hbn
  replace hb := hb.trans (hbn.mono hb.size)
  clear hbn
  rw [e_make] at h4
  obtain rfl : n4 = 0 := by rw [← h4.len]; rfl
  go_wp2
  go_ret
  exact ⟨rfl, hb⟩
end Go.Proofs.Ytnhfnpjfahmmpaa
