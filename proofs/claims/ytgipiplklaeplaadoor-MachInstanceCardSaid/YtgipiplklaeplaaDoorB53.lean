/- Texts of this proof that belong together: words of memory, plain laws, walks. -/
import Derived.BigQuiet
import Derived.WalkMore
import Derived.Test.YtgipiplklaeplaaDoorB04
import Derived.Test.YtgipiplklaeplaaDoorB45
import Derived.Test.YtgipiplklaeplaaDoorB52
set_option linter.unusedVariables false
set_option linter.unusedSimpArgs false
namespace Go.Proofs.YtgipiplklaeplaaDoor
open Go.RowKit
def RetMt (P T : Tm) (w : World) (e : Ending) (w' : World) : Prop := ∃ v b, e = .returned (.tuple #[v, .bool b]) ∧ (b = true ↔ ∃ σ : Int → Tm, P.sub σ = T) ∧ Below w.heap.size w w'
theorem one_bdM (x : Int) (A : Option Addr) (n c : Nat) : ∀ u ∈ [Value.int .i64 x, .slice A n c], u.oneCell' = true := by
 intro u hu
 simp at hu
 rcases hu with rfl | rfl <;> rfl
theorem infoBM : (Tryd.prog.info? 100).map (fun i => (i.zero, i.size, i.bytes)) = some (some (.agg #[.int .i64 0, .slice none 0 0]), 2, 32) := by kernel_rfl
set_option maxRecDepth 100000 in
set_option maxHeartbeats 8000000 in
theorem rMatch_any (A B : Option Addr) (na ca nb cb : Nat) (P T : Tm) (w : World) (hA : IsC w A na ca P.flat) (hB : IsC w B nb cb T.flat) (hna : na ≤ 1000) (hnb : nb ≤ 1000) :
  Calls Tryd.prog 14 #[.slice A na ca, .slice B nb cb] w (RetMt P T w) := by
 have hpl := hA.len
 have htl := hB.len
 have HA := Lib.hid hA
 have HB := Lib.hid hB
 have Hpl := Lib.hid hpl
 have Htl := Lib.hid htl
 have hca := hA.sl.hcap
 have hma := hA.sl.hmax
 have hcb := hB.sl.hcap
 have hmb := hB.sl.hmax
 unfold maxLen at hma hmb
 have hBf : IsC w B nb cb (flats [T]) := by simpa [flats] using hB
 have HBf := Lib.hid hBf
 clear hA hB hpl htl hBf
 have Hxl := Lib.hid (fun (i z : Nat) (Ps Us : List Tm) (s : List (Int × List C)) (n : Int) (x : List C) (h : MtI P T i z Ps Us s) (hl : lkB s n = some x) => show x.length ≤ 100000 by have := h.short _ (lkB_some hl); have h2 := Htl.out; simp only at this; omega)
 go_enter Tryd.func14, Tryd.ntmps14
 go_upto_region 2 with fail
 refine wp_world' (Φ := fun X => Below w.heap.size w X ∧ X.ownsRow w.heap.size 100 2 (.slice (some ⟨w.heap.size, 0, none⟩) 0 0) 0 []) ⟨bas _ _, World.ownsRow_lit w #[] 0 (Nat.le_refl _) (by simp [maxLen]) rfl⟩ ?_
 rintro X ⟨hbX, hoX⟩
 have HoX := Lib.hid (show OwnG (RM w) 2 X w.heap.size 100 (.slice (some ⟨w.heap.size, 0, none⟩) 0 0) 0 [] from ⟨rfl, [], rfl, by simp, hoX, by simp⟩)
 have HbX := Lib.hid hbX
 clear hoX hbX
 go_wp2
 go_loopw [6, 7, 8] (fun sv zv iv wr => ∃ (i z q c9 : Nat) (As : Option Addr) (Ps Us : List Tm) (s : List (Int × List C)), i ≤ na ∧ iv = .int .i64 i ∧ zv = .int .i64 z ∧ sv = .slice As q c9 ∧ q ≤ i ∧ Hid (OwnG (RM w) 2 wr w.heap.size 100 (.slice As q c9) q s) ∧ Hid (MtI P T i z Ps Us s) ∧ Below w.heap.size w wr) (fun _ _ iv _ => na - (intOf iv).toNat)
 case atStart => exact ⟨0, 0, 0, 0, _, [P], [T], [], Nat.zero_le _, rfl, rfl, rfl, Nat.le_refl _, HoX, Lib.hid (MtI.start P T), HbX.out⟩
 case round =>
  clear HoX HbX
  obtain ⟨i, z, q, c9, As, Ps, Us, s, hi, rfl, rfl, rfl, hqi, hos, hmt, hb⟩ := hrel
  have Hb := Lib.hid hb
  have hsz := hb.size
  clear hb
  by_cases hlt : i < na
  ·obtain ⟨p, u, Ps', Us', rfl, rfl, hp, hu⟩ := hmt.out.lt (by rw [Hpl.out]; exact hlt)
   obtain ⟨ba, oa, rfl, hba, hwp, p0', p1', p2'⟩ := HA.out.at_ hp
   obtain ⟨bt, ot, rfl, hbt, hwu, t0', t1', t2'⟩ := HB.out.at_ hu
   have p0 := (Hb.out.cell (p := ⟨ba, oa + i * 3, none⟩) hba).trans p0'
   have p1 := (Hb.out.cell (p := ⟨ba, oa + i * 3 + 1, none⟩) hba).trans p1'
   have p2 := (Hb.out.cell (p := ⟨ba, oa + i * 3 + 2, none⟩) hba).trans p2'
   have t0 := (Hb.out.cell (p := ⟨bt, ot + z * 3, none⟩) hbt).trans t0'
   have t1 := (Hb.out.cell (p := ⟨bt, ot + z * 3 + 1, none⟩) hbt).trans t1'
   have t2 := (Hb.out.cell (p := ⟨bt, ot + z * 3 + 2, none⟩) hbt).trans t2'
   have hbar := Nat.lt_of_lt_of_le hba hsz
   have hbtr := Nat.lt_of_lt_of_le hbt hsz
   have hzn : z < nb := by have := (List.getElem?_eq_some_iff.1 hu).1; have := Htl.out; omega
   have hiz : (i : Int) < (na : Int) := by omega
   have hzz : ¬ (nb : Int) ≤ (z : Int) := by omega
   clear hp hu p0' p1' p2' t0' t1' t2'
   by_cases hk1 : p.c0.kind = 1
   ·have hpv := kind_v hk1
    obtain ⟨n, hn⟩ : ∃ n, n = p.c0.n := ⟨_, rfl⟩
    rw [← hn] at hpv
    have hk1b : ¬ p.c0.kind ≠ 1 := by simp [hk1]
    subst hpv
    have hsub := hmt.out.sub
    have hend := subT_lt hsub
    have htn : sizes [T] = nb := by have := Htl.out; rw [flat_size] at this; simpa [sizes] using this
    rw [htn] at hend
    have hup := u.size_pos
    obtain ⟨hdrop, _⟩ := flat_cell hmt.out.td |>.2.2
    have hcut := HB.out.cut' (lo := z) (hi := z + u.size) (by omega) (by omega) (by omega)
    have hfl : (T.flat.drop z).take (z + u.size - z) = u.flat := by
     rw [hmt.out.td, flats_cons, show z + u.size - z = u.flat.length by rw [flat_size]; omega, List.take_left]
    rw [hfl] at hcut
    have Hsub := Lib.hid hsub
    have hq9 := (OwnG.is hos.out (by omega)).cap_le
    have hq1 := hq9.1
    have hq2 := hq9.2
    simp only [maxLen] at hq2
    have hE1 := fun d => uEnd_any (some ⟨bt, ot, none⟩) nb cb [T] z u (wr.drewN d) (HBf.out.below (below_drewN Hb.out d)) hsub (by omega)
    have hcz : ¬ cb = z := by omega
    have hE2 := fun X (hb : Below w.heap.size w X) => uEnd_any (some ⟨bt, ot, none⟩) nb cb [T] z u X (HBf.out.below hb) hsub (by omega)
    obtain ⟨E, hE⟩ : ∃ E, E = z + u.size := ⟨_, rfl⟩
    rw [← hE] at hE1 hE2 hcut
    have HE2 := Lib.hid hE2
    have Hcut := Lib.hid hcut
    have HE1 := Lib.hid hE1
    have hEz : z ≤ E := by omega
    have hEn : E ≤ nb := by omega
    have hwn : i64 n := by rw [hn]; exact hwp.n
    have Hwn := Lib.hid hwn
    have Hmt := Lib.hid hmt.out
    have Hos := Lib.hid hos.out
    have Hcz := Lib.hid (show u.size = E - z ∧ 0 < E - z by omega)
    have hq5 : q ≤ 1000 := by omega
    rcases rBound_at As q c9 s n wr (OwnG.is hos.out (by omega)) (by omega) with ⟨hno, hbd⟩ | ⟨x, B', m', k', hyes, hIx, hbd⟩
    ·have Hbd := Lib.hid hbd
     have Hno := Lib.hid hno
     have hE' := Lib.hid hE
     obtain ⟨vs, v1, v2, v3, v4⟩ := Hos.out.rows
     have V3 := Lib.hid (fun d => own_below v3 (below_drewN (Below.refl _ _) d))
     have V4 := Lib.hid (And.intro v1 (And.intro v2 v4))
     clear hno hbd hmt hos hsub hend htn hup hdrop hcut hfl hE1 hE2 hn hwn hwp hwu hE v1 v2 v3 v4
     go_upto_region 11 with fail
     go_quiet ((first | (go_at_call 48; go_must (refine (HE1.out _).mono ?_); rintro e9 w9 ⟨he, rfl⟩; exact ⟨he, _, rfl⟩) | (go_at_call 49; go_must (refine (Hbd.out _ (below_drewN (Below.refl _ _) _)).mono ?_); rintro e9 w9 ⟨he, rfl⟩; exact ⟨he, _, rfl⟩)))
     go_upto_region 16 with (first | (at_builtin; go_must (refine wpList_append_own1 rfl (.tmp 69) (.tmp 77) 32 rfl w.heap.size 100 Tryd.underlying32 infoBM rfl (by omega) rfl (.inr ((V3.out _).alloc _)) rfl (Sl.lit _ _ [_, _] 100 2 1 (by first | rfl | simp) rfl (by simp [maxLen])) (one_bdM _ _ _ _) (by omega) (by omega) (by omega) (by simp; omega) ?_); intro A' cap' w5 hown5 hb5 hap5; have Hown5 := Lib.hid hown5; have Hbx := Lib.hid (((below_drewN Hb.out _).alloc (by simp; omega) _).trans hb5); clear hown5 hb5 hap5))
     go_wp2_with (first | (go_at_call 48; go_must (refine (HE2.out _ Hbx.out).mono ?_); rintro e6 w6 ⟨rfl, rfl⟩))
     go_roundw
     case rel => exact ⟨i + 1, E, q + 1, cap', A', Ps', Us', s ++ [(n, u.flat)], by omega, by go_num, rfl, rfl, by omega, Lib.hid (OwnG.snoc Hown5.out Hos.out.len V4.out.1 V4.out.2.1 rfl (fun i x v hx hv => V4.out.2.2 i x v hx hv) ⟨_, _, _, rfl, Hcut.out, Hwn.out⟩), Lib.hid (by rw [hE'.out]; exact Hmt.out.new Hno.out), Hbx.out⟩
     case measure => simp [intOf]; omega
    ·obtain ⟨u', hu'⟩ := hmt.out.sf _ (lkB_some hyes)
     simp only at hu'
     have hm' : (0 : Int) < (m' : Int) := by have h1 := hIx.len; have h2 := u'.size_pos; rw [hu', flat_size] at h1; omega
     have hm0 : ((m' : Int) == 0) = false := by simp; omega
     have hx5 : m' ≤ 100000 := by
      have h1 := hIx.len
      have h2 := (OwnG.is hos.out (by omega)).len
      rw [← h1]
      exact Hxl.out _ _ _ _ _ _ _ hmt.out hyes
     have Hbd := Lib.hid hbd
     have hE' := Lib.hid hE
     have hsm1 := fun d => rSame_any B' (some ⟨bt, ot + z * 3, none⟩) m' (E - z) k' (cb - z) x u.flat (wr.drewN d) (hIx.below (below_drewN Hb.out d)) (hcut.below (below_drewN Hb.out d)) hx5 (by omega)
     have hb1' := (OwnG.is hos.out (by omega)).cap_le
     cases hsm : sameC x u.flat
     ·have Hno := Lib.hid (hmt.out.not hyes (fun h => by rw [(sameC_iff x u.flat).2 h] at hsm; cases hsm))
      rw [hsm] at hsm1
      have Hsm := Lib.hid hsm1
      clear hyes hIx hu' hsm hsm1 hx5 hb1' hbd hmt hos hsub hend htn hup hdrop hcut hfl hE1 hE2 hn hwn hwp hwu hE
      go_upto_region 11 with fail
      go_quiet ((first | (go_at_call 48; go_must (refine (HE1.out _).mono ?_); rintro e9 w9 ⟨he, rfl⟩; exact ⟨he, _, rfl⟩) | (go_at_call 49; go_must (refine (Hbd.out _ (below_drewN (Below.refl _ _) _)).mono ?_); rintro e9 w9 ⟨he, rfl⟩; exact ⟨he, _, rfl⟩)))
      go_wp2_with (first | (go_at_call 31; go_must (refine (Hsm.out _).mono ?_); rintro e9 w9 ⟨rfl, d9, rfl⟩))
      refine bodyPost_ret (v := .tuple #[.slice none 0 0, .bool false]) (by simp [results, Tryd.results14, go_sem, *]) rfl ?_
      exact ⟨_, false, rfl, ⟨fun h => (by cases h), fun h => absurd h Hno.out⟩, below_drewN Hb.out _⟩
     ·have Hmt2 := Lib.hid (hmt.out.had (by rw [← (sameC_iff x u.flat).1 hsm]; exact hyes))
      rw [hsm] at hsm1
      have Hsm := Lib.hid hsm1
      clear hyes hIx hu' hsm hsm1 hx5 hb1' hbd hmt hos hsub hend htn hup hdrop hcut hfl hE1 hE2 hn hwn hwp hwu hE
      go_upto_region 11 with fail
      go_quiet ((first | (go_at_call 48; go_must (refine (HE1.out _).mono ?_); rintro e9 w9 ⟨he, rfl⟩; exact ⟨he, _, rfl⟩) | (go_at_call 49; go_must (refine (Hbd.out _ (below_drewN (Below.refl _ _) _)).mono ?_); rintro e9 w9 ⟨he, rfl⟩; exact ⟨he, _, rfl⟩)))
      go_upto_region 16 with (first | (go_at_call 31; go_must (refine (Hsm.out _).mono ?_); rintro e9 w9 ⟨rfl, d9, rfl⟩))
      go_wp2_with (first | (go_at_call 48; go_must (refine (HE2.out _ (below_drewN Hb.out _)).mono ?_); rintro e6 w6 ⟨rfl, rfl⟩))
      go_roundw
      case rel => exact ⟨i + 1, E, q, c9, As, Ps', Us', s, by omega, by go_num, rfl, rfl, by omega, Lib.hid (OwnG.below (keepsM w) Hos.out (below_drewN (Below.refl _ _) _)), Lib.hid (by rw [hE'.out]; exact Hmt2.out), below_drewN Hb.out _⟩
      case measure => simp [intOf]; omega
   ·have hkb : (p.c0.kind == 1) = false := by simp [hk1]
    have hq : ∀ w, (binOp .neq 66 (.agg #[.int .i64 p.c0.kind, .string p.c0.name, .int .i64 p.c0.n]) (.agg #[.int .i64 u.c0.kind, .string u.c0.name, .int .i64 u.c0.n])).run Tryd.prog w = .ok (.bool (!p.c0.beq u.c0)) w := fun w => neqC p.c0 u.c0 w
    cases hbq : p.c0.beq u.c0
    ·have Hno := Lib.hid (hmt.out.clash hk1 (fun h => by rw [(beq_iff p.c0 u.c0).2 h] at hbq; cases hbq))
     rw [hbq] at hq
     clear hmt hos hwp hwu hk1 hbq
     go_wp2
     go_quiet (fail)
     go_wp2
     refine bodyPost_ret (v := .tuple #[.slice none 0 0, .bool false]) (by simp [results, Tryd.results14, go_sem, *]) rfl ?_
     exact ⟨_, false, rfl, ⟨fun h => (by cases h), fun h => absurd h Hno.out⟩, below_drewN Hb.out _⟩
    ·have Hmt := Lib.hid (hmt.out.down hk1 ((beq_iff p.c0 u.c0).1 hbq))
     rw [hbq] at hq
     have Hos := Lib.hid hos.out
     clear hmt hos hwp hwu hk1 hbq
     go_wp2
     go_quiet (fail)
     go_wp2
     go_roundw
     case rel => exact ⟨i + 1, z + 1, q, c9, As, p.args ++ Ps', u.args ++ Us', s, by omega, by go_num, by go_num, rfl, by omega, Lib.hid (OwnG.below (keepsM w) Hos.out (below_drewN (Below.refl _ _) _)), Hmt, below_drewN Hb.out _⟩
     case measure => simp [intOf]; omega
  ·have hin : i = na := by omega
   subst hin
   obtain ⟨w3, rfl⟩ : ∃ w3, w3 = wr := ⟨_, rfl⟩
   have hdone := hmt.out.done Hpl.out.symm
   have Hdone := Lib.hid hdone
   have hvs := hmt.out.vs
   have hsf := hmt.out.sf
   have hris := fun X (hb : Below w.heap.size w X) => urising_any A i ca P.flat X (HA.out.below hb) (by omega)
   have Hris := Lib.hid hris
   have hshort := fun n x hl => Hxl.out _ _ _ _ _ n x hmt.out hl
   have Hall := Lib.hid (And.intro hvs (And.intro hsf hshort))
   have HosR := Lib.hid (OwnG.is hos.out (by omega))
   have hcq := (OwnG.is hos.out (by omega)).cap_le
   have hqc1 := hcq.1
   have hqc2 := hcq.2
   simp only [maxLen] at hqc2
   clear hdone hvs hsf hris hshort hmt hos hcq
   go_upto_region 18 with (first | (go_at_call 50; go_must (refine (Hris.out _ (Hb.out.alloc hsz _)).mono ?_); rintro e6 w6 ⟨Av, nv, cv, L, rfl, hV, hb6, hnv, hro⟩; have HV := Lib.hid hV.1; have hIT := hV; have Hro := Lib.hid hro; have Hb6 := Lib.hid (((Below.refl w3.heap.size w3).alloc (Nat.le_refl _) (.cells #[] 100)).trans (hb6.mono (by simp))); have Ho6 := Lib.hid (own_below (World.ownsRow_lit w3 #[] 0 (base := w3.heap.size) (e := 100) (size := 2) (Nat.le_refl _) (by simp [maxLen]) rfl) hb6); clear hV hro hb6))
   have hnv5 : nv ≤ 1000 := by have := Hpl.out; omega
   have hnvl := HV.out.len
   have hvc1 := HV.out.sl.hcap
   have hvc2 := HV.out.sl.hmax
   unfold maxLen at hvc2
   have HIT := Lib.hid hIT
   clear hnvl hIT
   go_wp2
   go_loopw [11, 13] (fun ov kv w7 => ∃ (k qo co : Nat) (Ao : Option Addr) (vs : List Value), k ≤ nv ∧ kv = .int .i64 k ∧ ov = .slice Ao qo co ∧ qo ≤ k ∧ Hid (w7.ownsRow w3.heap.size 100 2 (.slice Ao qo co) qo vs) ∧ Hid (IT w7 Av nv cv L) ∧ Below w3.heap.size w3 w7) (fun _ kv _ => nv - (intOf kv).toNat)
   case atStart => exact ⟨0, 0, 0, _, [], Nat.zero_le _, rfl, rfl, Nat.le_refl _, Ho6, HIT, Hb6.out⟩
   case round =>
    clear Ho6 HIT Hb6
    obtain ⟨k, qo, co, Ao, vs, hk, rfl, rfl, hqo, hown, hit, hb7⟩ := hrel
    have Hb7 := Lib.hid hb7
    have hsz7 := hb7.size
    have HbW := Lib.hid (Hb.out.trans (hb7.mono hsz))
    clear hb7
    by_cases hlk : k < nv
    ·obtain ⟨n, hn⟩ := hit.out.1.get hlk
     obtain ⟨bv, ov, rfl, hbv, hwn, e0⟩ := hit.out.1.at_ hn
     have hmem := List.mem_of_getElem? hn
     rcases rBound_at As q c9 s n wr (IsG.below (keepsM w) HosR.out Hb7.out) (by omega) with ⟨hno, _⟩ | ⟨x, B', m', k', hyes, hIx, hbd⟩
     ·exfalso
      obtain ⟨j, c, g1, g2, g3, g4⟩ := (Hro.out n).1 hmem
      have := Hall.out.1 j c (by have := Hpl.out; omega) g2 g3
      rw [g4] at this
      exact lkB_none hno this
     ·obtain ⟨u', hu'⟩ := Hall.out.2.1 _ (lkB_some hyes)
      simp only at hu'
      subst hu'
      have hIx7 := hIx.below HbW.out
      obtain ⟨bx, ox, rfl, hbx, x0, x1, x2, hm'⟩ := hIx7.tm
      have hx5 : m' ≤ 100000 := by have := hIx7.len; have := Hall.out.2.2 n _ hyes; omega
      have Hbd := Lib.hid hbd
      have hlz : (k : Int) < (nv : Int) := by omega
      have hm1 : (0 : Int) < (m' : Int) := by omega
      have Hwn := Lib.hid hwn
      have HIx := Lib.hid hIx7
      have hcx := hIx7.sl.hcap
      have hmx := hIx7.sl.hmax
      unfold maxLen at hmx
      clear hn hmem hyes hIx hbd hwn hIx7
      by_cases hkk : u'.c0.kind = 1
      ·by_cases hnn : u'.c0.n = n
       ·have hk1 : (u'.c0.kind == 1) = true := by simp [hkk]
        have hn1 : (u'.c0.n == n) = true := by simp [hnn]
        go_wp2_with (first | (go_at_call 49; go_must (refine (Hbd.out _ (Below.refl _ _)).mono ?_); rintro e9 w9 ⟨rfl, rfl⟩))
        go_roundw
        case rel => exact ⟨k + 1, qo, co, Ao, vs, by omega, by go_num, rfl, by omega, hown, hit, Hb7.out⟩
        case measure => simp [intOf]; omega
       ·have hk1 : (u'.c0.kind == 1) = true := by simp [hkk]
        have hn1 : (u'.c0.n == n) = false := by simp [hnn]
        go_wp2_with (first
         | (go_at_call 49; go_must (refine (Hbd.out _ (Below.refl _ _)).mono ?_); rintro e9 w9 ⟨rfl, rfl⟩)
         | (at_builtin; have hguard := Hb8; go_must (refine wpList_append_sl rfl (.tmp 111) (.tmp 117) 32 rfl w3.heap.size 100 Tryd.underlying32 infoBM rfl (by omega) rfl ((own_below hown.out Hb8.out).alloc _) rfl (Sl.lit w8 _ [_, _] 100 2 1 (by first | rfl | simp) rfl (by simp [maxLen])) (one_bdM _ _ _ _) (by omega) (by omega) (by have := Hb8.out.size; simp; omega) ?_); intro A9 cap9 w9 hown9 hb9 hgr9 _; have Hown9 := Lib.hid hown9; have Hit9 := Lib.hid (IT.grownB (hit.out.below Hb8.out) (own_below hown.out Hb8.out) hgr9); have Hb9 := Lib.hid (((Hb7.out.trans (Hb8.out.mono hsz7)).alloc (by have := Hb8.out.size; omega) _).trans hb9); clear hown9 hb9 hgr9)
         | (at_builtin; go_must (refine wpList_append_sl rfl (.tmp 113) (.tmp 114) 22 rfl wr.heap.size 66 Tryd.underlying22 infoC rfl (by omega) rfl (World.ownsRow_lit wr #[] 0 (Nat.le_refl _) (by simp [maxLen]) rfl) rfl (HIx.out.sl.below ((Below.refl _ _).alloc (Nat.le_refl _) _)) (oneC u'.flat) (by omega) (by omega) (by simp) ?_); intro A8 c8 w8 hown8 hb8 _ _; have Hb8 := Lib.hid (((Below.refl wr.heap.size wr).alloc (Nat.le_refl _) _).trans hb8); clear hown8 hb8))
        go_roundw
        case rel => exact ⟨k + 1, qo + 1, cap9, A9, _, by omega, by go_num, rfl, by omega, Hown9, Hit9, Hb9.out⟩
        case measure => simp [intOf]; omega
      ·have hk1 : (u'.c0.kind == 1) = false := by simp [hkk]
       go_wp2_with (first
        | (go_at_call 49; go_must (refine (Hbd.out _ (Below.refl _ _)).mono ?_); rintro e9 w9 ⟨rfl, rfl⟩)
        | (at_builtin; have hguard := Hb8; go_must (refine wpList_append_sl rfl (.tmp 111) (.tmp 117) 32 rfl w3.heap.size 100 Tryd.underlying32 infoBM rfl (by omega) rfl ((own_below hown.out Hb8.out).alloc _) rfl (Sl.lit w8 _ [_, _] 100 2 1 (by first | rfl | simp) rfl (by simp [maxLen])) (one_bdM _ _ _ _) (by omega) (by omega) (by have := Hb8.out.size; simp; omega) ?_); intro A9 cap9 w9 hown9 hb9 hgr9 _; have Hown9 := Lib.hid hown9; have Hit9 := Lib.hid (IT.grownB (hit.out.below Hb8.out) (own_below hown.out Hb8.out) hgr9); have Hb9 := Lib.hid (((Hb7.out.trans (Hb8.out.mono hsz7)).alloc (by have := Hb8.out.size; omega) _).trans hb9); clear hown9 hb9 hgr9)
        | (at_builtin; go_must (refine wpList_append_sl rfl (.tmp 113) (.tmp 114) 22 rfl wr.heap.size 66 Tryd.underlying22 infoC rfl (by omega) rfl (World.ownsRow_lit wr #[] 0 (Nat.le_refl _) (by simp [maxLen]) rfl) rfl (HIx.out.sl.below ((Below.refl _ _).alloc (Nat.le_refl _) _)) (oneC u'.flat) (by omega) (by omega) (by simp) ?_); intro A8 c8 w8 hown8 hb8 _ _; have Hb8 := Lib.hid (((Below.refl wr.heap.size wr).alloc (Nat.le_refl _) _).trans hb8); clear hown8 hb8))
       go_roundw
       case rel => exact ⟨k + 1, qo + 1, cap9, A9, _, by omega, by go_num, rfl, by omega, Hown9, Hit9, Hb9.out⟩
       case measure => simp [intOf]; omega
    ·go_wp2
     refine bodyPost_ret (v := .tuple #[.slice Ao qo co, .bool true]) (by simp [results, Tryd.results14, go_sem, *]) rfl ?_
     exact ⟨_, true, rfl, ⟨fun _ => Hdone.out, fun _ => rfl⟩, HbW.out⟩
end Go.Proofs.YtgipiplklaeplaaDoor
