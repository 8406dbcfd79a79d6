/- The walk of layer 3's Mgu (the document's). -/
import Derived.Test.YtlndjooddkjnoaaUA
set_option linter.unusedVariables false
set_option linter.unusedSimpArgs false
namespace Go.Proofs.Ytlndjooddkjnoaa
open Go.RowKit

def RetMgu (A B : Tm) (w : World) (e : Ending) (w' : World) : Prop := ∃ (R : Option Addr) (n c : Nat) (s : List (Int × List C)) (d : Int), e = .returned (.tuple #[.slice R n c, .int .i64 d]) ∧ IsBs w' R n c s ∧ Below w.heap.size w w' ∧ MguI A B s d
theorem bs_nil (w : World) : IsBs w none 0 0 [] := IsG.nil (by simp [maxLen])
set_option maxRecDepth 100000 in
set_option maxHeartbeats 8000000 in
theorem uMgu_any (A1 B1 : Option Addr) (na ca nb cb : Nat) (A B : Tm) (w : World) (hA : IsC w A1 na ca A.flat) (hB : IsC w B1 nb cb B.flat) (hoA : A.ok = true) (hoB : B.ok = true) (hn : na + nb ≤ 1000) :
    Calls Try.prog 37 #[.slice A1 na ca, .slice B1 nb cb] w (RetMgu A B w) := by
  have hna := hA.len
  have hnb := hB.len
  rw [flat_size] at hna hnb
  have hla := A.size_pos
  have hlb := B.size_pos
  have HA := Lib.hid hA
  have HB := Lib.hid hB
  have Hna := Lib.hid hna
  have Hnb := Lib.hid hnb
  have hwf : ∀ x ∈ flats [A, B], x.wf := fun x hx => by
    rw [two_flats] at hx
    rcases List.mem_append.1 hx with hx | hx
    · exact hA.wf x hx
    · exact hB.wf x hx
  have Hwf := Lib.hid hwf
  have hna1 : 1 ≤ na := by omega
  have hnb1 : 1 ≤ nb := by omega
  have hda := hA.sl.hcap
  have hma := hA.sl.hmax
  have hdb := hB.sl.hcap
  have hmb := hB.sl.hmax
  unfold maxLen at hma hmb
  have hRA := Lib.hid (fun (o : Obj) => hA.sl.below ((Below.refl w.heap.size w).alloc (Nat.le_refl _) o))
  clear hA hB hna hnb hla hlb hwf
  go_enter Try.func37, Try.ntmps37
  go_upto_region 2 with (first
    | (at_builtin; go_must (refine wpList_append_sl rfl (.tmp 16) (.tmp 17) 26 rfl w.heap.size 54 Try.underlying26 infoC rfl (by omega) rfl (World.ownsRow_lit w #[] 0 (Nat.le_refl _) (by simp [maxLen]) rfl) rfl (hRA.out _) (oneC A.flat) (by omega) (by omega) (by simp) ?_); intro A2 c2 w1 hown1 hb1' _ _; have ho1 : w1.ownsRow w.heap.size 54 3 (.slice A2 na c2) na (flatC A.flat) := (by simpa using hown1); have hb1 : Below w.heap.size w w1 := ((Below.refl _ _).alloc (Nat.le_refl _) _).trans hb1'; clear hown1 hb1'))
  have Ho1 := Lib.hid ho1
  have Hb1 := Lib.hid hb1
  have hs1 := hb1.size
  clear ho1 hb1 hRA
  go_upto_region 3 with (first
    | (at_builtin; go_must (refine wpList_append_sl rfl (.tmp 19) (.tmp 20) 26 rfl w.heap.size 54 Try.underlying26 infoC rfl (by omega) rfl Ho1.out rfl (HB.out.below Hb1.out).sl (oneC B.flat) (by omega) (by omega) (by omega) ?_); intro Al cL w2 hown2 hb2 _ _; have Ho2 := Lib.hid hown2; have Hb2 := Lib.hid (Hb1.out.trans hb2); clear hown2 hb2))
  obtain ⟨N, hN⟩ : ∃ N, N = na + nb := ⟨_, rfl⟩
  rw [← hN] at Ho2
  try rw [← hN]
  have hN2 : N ≤ 1000 := by omega
  have HN := Lib.hid hN
  have hC2 : IsC w2 Al N cL (flats [A, B]) := by
    rw [two_flats]
    refine ⟨Sl.own (by rw [flatC_append]; exact Ho2.out) (by omega), fun x hx => Hwf.out x (by rw [two_flats]; exact hx)⟩
  have hts : sizes [A, B] = N := by have := Hna.out; have := Hnb.out; simp [sizes]; omega
  have Hts := Lib.hid hts
  have hsec : na < sizes [A, B] := by omega
  have hcdL := hC2.sl.hcap
  have hcmL := hC2.sl.hmax
  unfold maxLen at hcmL
  have hsz2 := Hb2.out.size
  have Hcl := Lib.hid (uclasses_any Al N cL na [A, B] w2 hC2 hsec hN2)
  have HC2 := Lib.hid hC2
  clear Ho1 Ho2 hC2 hts hsec hN Hb1 hs1
  go_upto_region 4 with (first
    | (go_at_call 69; go_must (refine Hcl.out.mono ?_); rintro e w3 ⟨Ac, n3, cc, cl, rfl, hI3, hb3, hci, hcd⟩; have HI3 := Lib.hid hI3; have Hci := Lib.hid hci; have Hcd := Lib.hid hcd; have HC3 := Lib.hid (HC2.out.below hb3); have Hb3 := Lib.hid (Hb2.out.trans (hb3.mono hsz2)); clear hI3 hci hcd hb3))
  have hl3 := HI3.out.len
  rw [ints_len, Hci.out.len, Hts.out] at hl3
  obtain rfl : N = n3 := hl3
  have hcI : ClsI [A, B] A.size cl := by rw [Hna.out]; exact Hci.out
  have HcI := Lib.hid hcI
  have Hcll := Lib.hid (show ∀ x ∈ cl, x < N from fun x hx => by have := Hci.out.lt x hx; have := Hts.out; omega)
  have hd3 := HI3.out.sl.hcap
  have hm3 := HI3.out.sl.hmax
  unfold maxLen at hm3
  have hsz3 := Hb3.out.size
  have Hclash := Lib.hid (uclash_any Al Ac N cL cc [A, B] cl w3 HC3.out HI3.out (by omega))
  clear Hcl HC2 Hb2 hsz2 hcI Hci
  go_wp2_with (first
    | (go_at_call 70; go_must (refine Hclash.out.mono ?_)))
  rintro e w4 ⟨b4, rfl, hb4, hyes4, hno4⟩
  have HC4 := Lib.hid (HC3.out.below hb4)
  have HI4 := Lib.hid (HI3.out.below hb4)
  have Hb4 := Lib.hid (Hb3.out.trans (hb4.mono hsz3))
  have Hyes4 := Lib.hid hyes4
  have Hno4 := Lib.hid hno4
  have hsz4 := Hb4.out.size
  clear hb4 hyes4 hno4 HC3 HI3 Hb3 Hclash
  cases b4
  · have Hncl := Lib.hid (Hno4.out rfl)
    have Hwi := Lib.hid (uwithin_any Al Ac N cL cc [A, B] cl w4 HC4.out HI4.out (by omega) Hcll.out)
    go_wp2_with (first
      | (go_at_call 71; go_must (refine Hwi.out.mono ?_)))
    rintro e w5 ⟨b5, rfl, hb5, hyes5, hno5⟩
    have HC5 := Lib.hid (HC4.out.below hb5)
    have HI5 := Lib.hid (HI4.out.below hb5)
    have Hb5 := Lib.hid (Hb4.out.trans (hb5.mono hsz4))
    have Hyes5 := Lib.hid hyes5
    have Hno5 := Lib.hid hno5
    have hsz5 := Hb5.out.size
    clear hb5 hyes5 hno5 HC4 HI4 Hb4 Hwi Hyes4 hsz4
    cases b5
    · obtain ⟨rk, hF⟩ := fine_of HcI.out Hcd.out Hncl.out (Hno5.out rfl) hoA hoB
      have HM := Lib.hid (hF.mgu HcI.out)
      have HF := Lib.hid hF
      have hris := urising_any Al N cL (flats [A, B]) w5 HC5.out (by omega)
      have Hris := Lib.hid (fun wx (hb' : Below w5.heap.size w5 wx) => urising_any Al N cL (flats [A, B]) wx (HC5.out.below hb') (by omega))
      clear hF hris Hno4 Hno5 Hyes5
      go_upto_region 7 with (first
        | (go_at_call 72; go_must (refine (Hris.out _ ((Below.refl _ _).alloc (Nat.le_refl _) _)).mono ?_); rintro e w6 ⟨Av, nv, cv, L, rfl, hV, hb6, hnv, hro⟩; have HV := Lib.hid hV; have Hro := Lib.hid hro; have hnvN : nv ≤ N := (by have := Hts.out; rw [flats_size9] at hnv; omega); have Hos := Lib.hid (own_below (World.ownsRow_lit w5 #[] 0 (base := w5.heap.size) (e := 57) (size := 2) (Nat.le_refl _) (by simp [maxLen]) rfl) hb6); have Hb6 := Lib.hid (((Below.refl w5.heap.size w5).alloc (Nat.le_refl _) (.cells #[] 57)).trans (hb6.mono (by simp))); clear hV hro hb6 hnv))
      have hv1 := HV.out.1.sl.hcap
      have hv2 := HV.out.1.sl.hmax
      unfold maxLen at hv2
      have hs6 := Hb6.out.size
      have Hos0 := Lib.hid (show OwnG (RBo w5.heap.size) 2 w6 w5.heap.size 57 (.slice (some ⟨w5.heap.size, 0, none⟩) 0 0) 0 [] from ⟨rfl, [], rfl, by simp, Hos.out, by simp⟩)
      clear Hos Hris
      go_wp2
      go_loopw [8, 10] (fun sv iv wr => ∃ (k q c9 : Nat) (As : Option Addr) (s : List (Int × List C)), k ≤ nv ∧ iv = .int .i64 k ∧ sv = .slice As q c9 ∧ q ≤ k ∧ OwnG (RBo w5.heap.size) 2 wr w5.heap.size 57 (.slice As q c9) q s ∧ IT wr Av nv cv L ∧ Hid (BndI (Sm [A, B] (tmC [A, B] (clsF cl) (doesF [A, B] (clsF cl)) (leaF [A, B] (clsF cl)) rk)) L k s) ∧ Below w5.heap.size w5 wr) (fun _ iv _ => nv - (intOf iv).toNat)
      case atStart => exact ⟨0, 0, 0, _, [], Nat.zero_le _, rfl, rfl, Nat.le_refl _, Hos0.out, HV.out, Lib.hid ⟨by simp, fun j x hj => by omega⟩, Hb6.out⟩
      case round =>
        clear HV Hos0 Hb6 hs6
        obtain ⟨k, q, c9, As, s, hk, rfl, rfl, hqk, hos, hV, hbi, hbr⟩ := hrel
        have HV := Lib.hid hV
        have Hos := Lib.hid hos
        have Hbr := Lib.hid hbr
        have hszr := hbr.size
        have hLl := HV.out.1.len
        have HLl := Lib.hid hLl
        have hoc := (bo_is hos).cap_le
        have ho1 := hoc.1
        have ho2 := hoc.2
        unfold maxLen at ho2
        clear hV hos hbr hLl hoc
        by_cases hlt : k < nv
        · obtain ⟨x, hx⟩ : ∃ x, L[k]? = some x := ⟨_, List.getElem?_eq_getElem (by have := HLl.out; omega)⟩
          obtain ⟨z, hz⟩ := ris_place Hro.out (List.mem_of_getElem? hx)
          obtain ⟨bv, ov, rfl, hbv, hwx, v0⟩ := HV.out.1.at_ hx
          have Hx := Lib.hid hx
          have Hz := Lib.hid hz
          have Hwx := Lib.hid hwx
          clear hx hz hwx
          obtain ⟨wr0, hwr0⟩ : ∃ wr0, wr0 = wr := ⟨_, rfl⟩
          go_wp2
          go_loopw [12, 13] (fun av iv wr2 => ∃ (i : Nat) (at_ : Int), i ≤ N ∧ iv = .int .i64 i ∧ av = .int .i64 at_ ∧ Hid (((∀ j, j < i → subT [A, B] j ≠ some (.v x)) ∧ at_ = -1) ∨ ∃ y : Nat, at_ = (y : Int) ∧ subT [A, B] y = some (.v x)) ∧ Below wr0.heap.size wr0 wr2) (fun _ iv _ => N - (intOf iv).toNat)
          case atStart => exact ⟨0, -1, Nat.zero_le _, rfl, rfl, Lib.hid (.inl ⟨fun j hj => by omega, rfl⟩), by rw [hwr0]; exact Below.refl _ _⟩
          case round =>
            subst hwr0
            obtain ⟨i, at_, hi, rfl, rfl, hat, hbe⟩ := hrel
            have Hbe := Lib.hid hbe
            have HbW := Lib.hid (Hbr.out.trans (hbe.mono hszr))
            clear hbe
            by_cases hin : i < N
            · obtain ⟨u, hu⟩ := subT_some i [A, B] (by have := Hts.out; omega)
              obtain ⟨b, off, rfl, hbb, hwfu, e0, e1, e2⟩ := HC5.out.at_ (subT_cell hu)
              have k0 := (HbW.out.cell (p := ⟨b, off + i * 3, none⟩) hbb).trans e0
              have k2 := (HbW.out.cell (p := ⟨b, off + i * 3 + 2, none⟩) hbb).trans e2
              have hbbr : b < wr.heap.size := Nat.lt_of_lt_of_le hbb HbW.out.size
              have Hu := Lib.hid hu
              clear hu hwfu e0 e1 e2
              by_cases hk1 : u.c0.kind = 1
              · have kb1 : (u.c0.kind == 1) = true := by simp [hk1]
                by_cases hnx : u.c0.n = x
                · have nb1 : (u.c0.n == x) = true := by simp [hnx]
                  have hat2 := Lib.hid (show subT [A, B] i = some (.v x) by rw [Hu.out, kind_v hk1, hnx])
                  clear hk1 hnx
                  go_wp2
                  go_roundw
                  case rel => exact ⟨i + 1, i, by omega, by go_num, rfl, Lib.hid (.inr ⟨i, rfl, hat2.out⟩), Hbe.out⟩
                  case measure => simp [intOf]; omega
                · have nb1 : (u.c0.n == x) = false := by simp [hnx]
                  have hne : subT [A, B] i ≠ some (.v x) := fun e => by rw [Hu.out] at e; injection e with e; rw [e] at hnx; exact hnx rfl
                  have hat2 : Hid (((∀ j, j < i + 1 → subT [A, B] j ≠ some (.v x)) ∧ at_ = -1) ∨ ∃ y : Nat, at_ = (y : Int) ∧ subT [A, B] y = some (.v x)) := Lib.hid (by
                    rcases hat.out with ⟨h1, h2⟩ | h1
                    · refine .inl ⟨fun j hj => ?_, h2⟩
                      by_cases e : j = i
                      · subst e; exact hne
                      · exact h1 j (by omega)
                    · exact .inr h1)
                  clear hne
                  go_wp2
                  go_roundw
                  case rel => exact ⟨i + 1, at_, by omega, by go_num, rfl, hat2, Hbe.out⟩
                  case measure => simp [intOf]; omega
              · have kb1 : (u.c0.kind == 1) = false := by simp [hk1]
                have hne : subT [A, B] i ≠ some (.v x) := fun e => by rw [Hu.out] at e; injection e with e; rw [e] at hk1; exact hk1 rfl
                have hat2 : Hid (((∀ j, j < i + 1 → subT [A, B] j ≠ some (.v x)) ∧ at_ = -1) ∨ ∃ y : Nat, at_ = (y : Int) ∧ subT [A, B] y = some (.v x)) := Lib.hid (by
                  rcases hat.out with ⟨h1, h2⟩ | h1
                  · refine .inl ⟨fun j hj => ?_, h2⟩
                    by_cases e : j = i
                    · subst e; exact hne
                    · exact h1 j (by omega)
                  · exact .inr h1)
                clear hne
                go_wp2
                go_roundw
                case rel => exact ⟨i + 1, at_, by omega, by go_num, rfl, hat2, Hbe.out⟩
                case measure => simp [intOf]; omega
            · obtain ⟨y, rfl, hy⟩ : ∃ y : Nat, at_ = (y : Int) ∧ subT [A, B] y = some (.v x) := by
                rcases hat.out with ⟨h1, _⟩ | h1
                · exact absurd Hz.out (h1 z (by have := subT_lt' Hz.out; have := Hts.out; omega))
                · exact h1
              have hyn : y < N := by have := subT_lt' hy; have := Hts.out; omega
              have hSx := Sm_at (fun x y hx hy hxy => HF.out.tm_same hx hy hxy) HF.out.closed hy
              have HSx := Lib.hid hSx
              have Hdo := Lib.hid (udoes_any Al Ac N cL cc y [A, B] cl wr (HC5.out.below HbW.out) (HI5.out.below HbW.out) (by omega) hyn)
              generalize hD : doesF [A, B] (clsF cl) y = D at Hdo
              have HD := Lib.hid hD
              clear hy hSx hat hD
              go_wp2_with (first
                | (go_at_call 73; go_must (refine Hdo.out.mono ?_)))
              rintro e wp ⟨rfl, hbp⟩
              have HbP := Lib.hid (HbW.out.trans (hbp.mono HbW.out.size))
              have HosP := Lib.hid (OwnG.below (keepsBo w5.heap.size) Hos.out (Hbe.out.trans (hbp.mono Hbe.out.size)))
              have HVP := Lib.hid (HV.out.below (Hbe.out.trans (hbp.mono Hbe.out.size)))
              clear hbp Hdo Hos HV
              cases D with
              | none =>
                have htn := HF.out.tm_none HD.out
                have Hle := Lib.hid (uleast_any Al Ac N cL cc y [A, B] cl wp (HC5.out.below HbP.out) (HI5.out.below HbP.out) (by omega) hyn)
                generalize hlx : leaF [A, B] (clsF cl) y = lx at *
                have Hlx := Lib.hid hlx
                have Htn := Lib.hid htn
                clear htn hlx
                simp only [doeI]
                go_wp2_with (first
                  | (go_at_call 74; go_must (refine Hle.out.mono ?_)))
                rintro e wq ⟨rfl, hbq⟩
                have HbQ := Lib.hid (HbP.out.trans (hbq.mono HbP.out.size))
                have HosQ := Lib.hid (OwnG.below (keepsBo w5.heap.size) HosP.out hbq)
                have HVQ := Lib.hid (HVP.out.below hbq)
                clear hbq Hle HosP HVP
                by_cases hlx : lx = x
                · have hlb : (lx == x) = true := by simp [hlx]
                  have Hbi2 := Lib.hid (hbi.out.pass Hx.out (by rw [HSx.out, Htn.out, hlx]))
                  clear hlx
                  go_wp2
                  go_roundw
                  case rel => exact ⟨k + 1, q, c9, As, s, by omega, by go_num, rfl, by omega, HosQ.out, HVQ.out, Hbi2, HbQ.out⟩
                  case measure => simp [intOf]; omega
                · have hlb : (lx == x) = false := by simp [hlx]
                  clear hlx
                  have Hwh := Lib.hid (uwhole_any Al Ac N cL cc y [A, B] cl rk wq (HC5.out.below HbQ.out) (HI5.out.below HbQ.out) (by omega) hyn HF.out)
                  have hszq := HbQ.out.size
                  go_upto_region 18 with (first
                    | (go_at_call 75; go_must (refine Hwh.out.mono ?_); rintro e w8 ⟨Ax, nx, cx, bx, rfl, hb8, hy8, hn8⟩; have Hy8 := Lib.hid hy8; have Hb8 := Lib.hid hb8; clear hy8 hn8 hb8))
                  cases bx
                  · have HbE := Lib.hid (HbQ.out.trans (Hb8.out.mono hszq))
                    clear Hwh Hy8
                    go_wp2
                    refine bodyPost_ret (v := .tuple #[.slice none 0 0, .int .i64 2]) (by simp [results, Try.results37, go_sem, *]) rfl ?_
                    exact ⟨none, 0, 0, [], 2, rfl, bs_nil _, Hb5.out.trans (HbE.out.mono hsz5), .inr ⟨_, HM.out, .inl rfl⟩⟩
                  · obtain ⟨hou, hwu, hsu⟩ := Hy8.out rfl
                    have HosE := OwnG.below (keepsBo w5.heap.size) HosQ.out Hb8.out
                    have HVE := Lib.hid (HVQ.out.below Hb8.out)
                    have hslen := HosE.len
                    obtain ⟨vs, v1, v2, v3, v4⟩ := HosE.rows
                    have HbE := Lib.hid (HbQ.out.trans (Hb8.out.mono hszq))
                    have hszE := HbE.out.size
                    have V3 := Lib.hid v3
                    have V4 := Lib.hid v4
                    have Hou := Lib.hid (own_lower hou hszq)
                    have hux := (Sl.own hou (by omega)).hcap
                    have hux2 := (Sl.own hou (by omega)).hmax
                    unfold maxLen at hux2
                    have Hwu := Lib.hid hwu
                    have Hsl := Lib.hid hslen
                    have Hbi2 := Lib.hid (hbi.out.more Hx.out (by rw [HSx.out]; exact hsu))
                    clear hou hwu hsu HosE hslen v3 v4 Hwh Hy8
                    go_wp2_with (first
                      | (at_builtin; go_must (refine wpList_append_sl rfl (.tmp 91) (.tmp 95) 50 rfl w5.heap.size 57 Try.underlying50 infoBd rfl (by omega) rfl (V3.out.alloc _) rfl (Sl.lit w8 _ [.int .i64 x, .slice Ax nx cx] 57 2 1 rfl rfl (by simp [maxLen])) (one_bd _ _ _ _) (by omega) (by omega) (by simp; omega) ?_); intro A9 cap9 w9 hown9 hb9 hgr9 hblk9))
                    have hos9 := bo_snoc (p := (x, (tmC [A, B] (clsF cl) (doesF [A, B] (clsF cl)) (leaF [A, B] (clsF cl)) rk y).flat)) v1 v2 V3.out V4.out Hsl.out Hou.out Hwu.out Hwx.out hown9 hgr9
                    have hV9 := HVE.out.grownB V3.out hgr9
                    go_roundw
                    case rel => exact ⟨k + 1, q + 1, cap9, A9, s ++ [(x, (Sm [A, B] (tmC [A, B] (clsF cl) (doesF [A, B] (clsF cl)) (leaF [A, B] (clsF cl)) rk) x).flat)], by omega, by go_num, rfl, by omega, by rw [HSx.out]; exact hos9, hV9, Hbi2, HbE.out.trans (((Below.refl _ _).alloc hszE _).trans hb9)⟩
                    case measure => simp [intOf]; omega
              | some j =>
                have hj0 : ¬ (j : Int) < 0 := by omega
                simp only [doeI]
                obtain ⟨wq, hwq⟩ : ∃ wq, wq = wp := ⟨_, rfl⟩
                subst hwq
                have HbQ := HbP
                have HosQ := HosP
                have HVQ := HVP
                clear HD
                have Hwh := Lib.hid (uwhole_any Al Ac N cL cc y [A, B] cl rk wq (HC5.out.below HbQ.out) (HI5.out.below HbQ.out) (by omega) hyn HF.out)
                have hszq := HbQ.out.size
                go_upto_region 18 with (first
                  | (go_at_call 75; go_must (refine Hwh.out.mono ?_); rintro e w8 ⟨Ax, nx, cx, bx, rfl, hb8, hy8, hn8⟩; have Hy8 := Lib.hid hy8; have Hb8 := Lib.hid hb8; clear hy8 hn8 hb8))
                cases bx
                · have HbE := Lib.hid (HbQ.out.trans (Hb8.out.mono hszq))
                  clear Hwh Hy8
                  go_wp2
                  refine bodyPost_ret (v := .tuple #[.slice none 0 0, .int .i64 2]) (by simp [results, Try.results37, go_sem, *]) rfl ?_
                  exact ⟨none, 0, 0, [], 2, rfl, bs_nil _, Hb5.out.trans (HbE.out.mono hsz5), .inr ⟨_, HM.out, .inl rfl⟩⟩
                · obtain ⟨hou, hwu, hsu⟩ := Hy8.out rfl
                  have HosE := OwnG.below (keepsBo w5.heap.size) HosQ.out Hb8.out
                  have HVE := Lib.hid (HVQ.out.below Hb8.out)
                  have hslen := HosE.len
                  obtain ⟨vs, v1, v2, v3, v4⟩ := HosE.rows
                  have HbE := Lib.hid (HbQ.out.trans (Hb8.out.mono hszq))
                  have hszE := HbE.out.size
                  have V3 := Lib.hid v3
                  have V4 := Lib.hid v4
                  have Hou := Lib.hid (own_lower hou hszq)
                  have hux := (Sl.own hou (by omega)).hcap
                  have hux2 := (Sl.own hou (by omega)).hmax
                  unfold maxLen at hux2
                  have Hwu := Lib.hid hwu
                  have Hsl := Lib.hid hslen
                  have Hbi2 := Lib.hid (hbi.out.more Hx.out (by rw [HSx.out]; exact hsu))
                  clear hou hwu hsu HosE hslen v3 v4 Hwh Hy8
                  go_wp2_with (first
                    | (at_builtin; go_must (refine wpList_append_sl rfl (.tmp 91) (.tmp 95) 50 rfl w5.heap.size 57 Try.underlying50 infoBd rfl (by omega) rfl (V3.out.alloc _) rfl (Sl.lit w8 _ [.int .i64 x, .slice Ax nx cx] 57 2 1 rfl rfl (by simp [maxLen])) (one_bd _ _ _ _) (by omega) (by omega) (by simp; omega) ?_); intro A9 cap9 w9 hown9 hb9 hgr9 hblk9))
                  have hos9 := bo_snoc (p := (x, (tmC [A, B] (clsF cl) (doesF [A, B] (clsF cl)) (leaF [A, B] (clsF cl)) rk y).flat)) v1 v2 V3.out V4.out Hsl.out Hou.out Hwu.out Hwx.out hown9 hgr9
                  have hV9 := HVE.out.grownB V3.out hgr9
                  go_roundw
                  case rel => exact ⟨k + 1, q + 1, cap9, A9, s ++ [(x, (Sm [A, B] (tmC [A, B] (clsF cl) (doesF [A, B] (clsF cl)) (leaF [A, B] (clsF cl)) rk) x).flat)], by omega, by go_num, rfl, by omega, by rw [HSx.out]; exact hos9, hV9, Hbi2, HbE.out.trans (((Below.refl _ _).alloc hszE _).trans hb9)⟩
                  case measure => simp [intOf]; omega
        · have hke : k = L.length := by have := HLl.out; omega
          have hbi2 := hbi.out
          rw [hke] at hbi2
          have Hd := Lib.hid (show MguI A B s 0 from .inr ⟨_, HM.out, .inr ⟨rfl, by have := Hos.out.len; omega, fun p hp => (hbi2.1 p hp).2, fun n hn => hbi2.done (ris_has Hro.out hn)⟩⟩)
          clear hke hbi2
          go_wp2
          refine bodyPost_ret (v := .tuple #[.slice As q c9, .int .i64 0]) (by simp [results, Try.results37, go_sem, *]) rfl ?_
          exact ⟨As, q, c9, s, 0, rfl, bo_is Hos.out, Hb5.out.trans (Hbr.out.mono hsz5), Hd.out⟩
    · have hr := mgu_round HcI.out (Hyes5.out rfl)
      have Hr := Lib.hid hr
      clear hr
      go_wp2
      refine bodyPost_ret (v := .tuple #[.slice none 0 0, .int .i64 3]) (by simp [results, Try.results37, go_sem, *]) rfl ?_
      exact ⟨none, 0, 0, [], 3, rfl, bs_nil _, Hb5.out, Hr.out⟩
  · have hr := mgu_clash HcI.out (Hyes4.out rfl)
    have Hr := Lib.hid hr
    clear hr
    go_wp2
    refine bodyPost_ret (v := .tuple #[.slice none 0 0, .int .i64 3]) (by simp [results, Try.results37, go_sem, *]) rfl ?_
    exact ⟨none, 0, 0, [], 3, rfl, bs_nil _, Hb4.out, Hr.out⟩
end Go.Proofs.Ytlndjooddkjnoaa
