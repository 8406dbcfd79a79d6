/- Texts of this proof that belong together: words of memory, plain laws, walks. -/
import Derived.WalkMore
import Derived.Test.YtgipiplklaeplaaDoorB09
import Derived.Test.YtgipiplklaeplaaDoorB17
set_option linter.unusedVariables false
set_option linter.unusedSimpArgs false
namespace Go.Proofs.YtgipiplklaeplaaDoor
open Go.RowKit
set_option maxRecDepth 100000 in
set_option maxHeartbeats 8000000 in
theorem hUnify_in (A B : Option Addr) (n c m d : Nat) (r : Int) (l : List C) (tr : List Int) (a b : Nat) (w : World) (h : IsC w A n c l) (hT : IsI w B m d tr) (hg : Good l) (ht : TrOk l tr) (hn : n ≤ 5000) (hm : m ≤ 100000) (ha : a < n) (hb : b < n) :
  Calls Tryd.prog 169 #[.agg #[.slice A n c, .slice B m d, .int .i64 r], .int .i64 a, .int .i64 b] w (RetUni w A B n c m d r (uniF l tr a b)) := by
 have hl := h.len
 have htl := hT.len
 generalize hU : uniF l tr a b = U
 have HU := Lib.hid hU
 clear hU
 have Hl := Lib.hid hl
 have Htl := Lib.hid htl
 have HC := Lib.hid h
 have HT := Lib.hid hT
 have Hg := Lib.hid hg
 have Ht := Lib.hid ht
 have hcs := fun wz (hb : Below w.heap.size w wz) => cloneS_any A n c l wz (HC.out.below hb) (by omega)
 have hci := fun wz (hb : Below w.heap.size w wz) => cloneI_any B m d tr wz (HT.out.below hb) (by omega)
 have hwa := fun wz => hwithin_any A B n c m d r a wz (by omega)
 have hwb := fun wz => hwithin_any A B n c m d r b wz (by omega)
 have hwae : (decide (0 ≤ (a : Int)) && decide ((a : Int) < (n : Int))) = true := by simp; omega
 have hwbe : (decide (0 ≤ (b : Int)) && decide ((b : Int) < (n : Int))) = true := by simp; omega
 rw [hwae] at hwa
 rw [hwbe] at hwb
 have Hwa := Lib.hid hwa
 have Hwb := Lib.hid hwb
 have Hcs := Lib.hid hcs
 have Hci := Lib.hid hci
 have Hba := Lib.hid (show a < n ∧ b < n from ⟨ha, hb⟩)
 clear hl htl h hT hg ht hcs hci hwa hwb hwae hwbe ha hb
 go_enter Tryd.func169, Tryd.ntmps169
 go_wp2
 go_step3
 have hal : Below w.heap.size w ((w.alloc (.cells #[.slice A n c, .slice B m d, .int .i64 r] 44)).alloc (.cells #[.slice none 0 0, .slice none 0 0, .int .i64 0] 44)) := ((Below.refl _ _).alloc (Nat.le_refl _) _).alloc (by first | omega | (simp; done) | (simp; omega)) _
 have hal2 : ((w.alloc (.cells #[.slice A n c, .slice B m d, .int .i64 r] 44)).alloc (.cells #[.slice none 0 0, .slice none 0 0, .int .i64 0] 44)).heap.size = w.heap.size + 2 := by simp
 have x00 : ((w.alloc (.cells #[.slice A n c, .slice B m d, .int .i64 r] 44)).alloc (.cells #[.slice none 0 0, .slice none 0 0, .int .i64 0] 44)).heap[w.heap.size]? = some (.cells #[.slice A n c, .slice B m d, .int .i64 r] 44 (0, 0)) := (alloc_past (by first | omega | (simp; done) | (simp; omega))).trans (alloc_at rfl)
 have x01 : ((w.alloc (.cells #[.slice A n c, .slice B m d, .int .i64 r] 44)).alloc (.cells #[.slice none 0 0, .slice none 0 0, .int .i64 0] 44)).heap[w.heap.size + 1]? = some (.cells #[.slice none 0 0, .slice none 0 0, .int .i64 0] 44 (0, 0)) := alloc_at (by first | omega | (simp; done) | (simp; omega))
 go_upto_region 3 with (first
  | (go_at_call 60; have hfirst := x01; go_must (refine (Hwa.out _).mono ?_); rintro e w1 ⟨rfl, hb1⟩; have x10 := (hb1.block w.heap.size (by omega)).trans x00; have x11 := (hb1.block (w.heap.size + 1) (by omega)).trans x01; have hbw1 := hal.trans (hb1.mono hal.size); have hs1 := hb1.size; obtain ⟨u0, u1, u2, ul⟩ := open3 x10; clear x01 hb1 hfirst)
  | (go_at_call 60; go_must (refine (Hwb.out _).mono ?_); rintro e w2 ⟨rfl, hb2⟩; have x20 := (hb2.block w.heap.size ul).trans x10; have x21 := (hb2.block (w.heap.size + 1) (by omega)).trans x11; have hbw2 := hbw1.trans (hb2.mono hbw1.size)))
 clear x00 hal hal2 hs1 u0 u1 u2 ul x10 x11 hbw1 hb2
 have hsz2 : w.heap.size + 2 ≤ w2.heap.size := block_lt x21
 go_cut [8] from 28 to 36 (fun pvv wx => ∃ gb : Nat, pvv = .pointer (some ⟨gb, 0, none⟩) ∧ Gu wx (w.heap.size + 2) gb l tr r ∧ Below w.heap.size w wx ∧ wx.heap[w.heap.size]? = some (.cells #[.slice A n c, .slice B m d, .int .i64 r] 44 (0, 0)) ∧ wx.heap[w.heap.size + 1]? = some (.cells #[.slice none 0 0, .slice none 0 0, .int .i64 0] 44 (0, 0)))
 case first =>
  obtain ⟨y0, y1, y2, yl⟩ := open3 x20
  refine wp_region_held_drew (S := fun w' => w'.cell? ⟨w.heap.size, 0, none⟩ = some (.slice A n c) ∧ w'.cell? ⟨w.heap.size, 1, none⟩ = some (.slice B m d) ∧ w'.cell? ⟨w.heap.size, 2, none⟩ = some (.int .i64 r)) (by kernel_rfl) ?gs ?gr
  case gs => simp [*]
  case gr =>
   intro hHeld
   have hVb : Below w.heap.size w w2.drew := hbw2.drew
   have x30 : w2.drew.heap[w.heap.size]? = some (.cells #[.slice A n c, .slice B m d, .int .i64 r] 44 (0, 0)) := x20
   have x31 : w2.drew.heap[w.heap.size + 1]? = some (.cells #[.slice none 0 0, .slice none 0 0, .int .i64 0] 44 (0, 0)) := x21
   have hVs : w.heap.size + 2 ≤ w2.drew.heap.size := hsz2
   have HV : Hid (Pre3 w w2.drew A B n c m d r) := Lib.hid ⟨hVb, x30, x31, hVs⟩
   clear y0 y1 y2 yl x20 x21 hbw2 hsz2 hVb x30 x31 hVs
   generalize w2.drew = V at *
   refine stepH 0 hHeld ?_
   refine stepH 1 hHeld ?_
   refine stepH 3 hHeld ?_
   refine stepH 4 hHeld ?_
   refine stepH 6 hHeld ?_
   refine stepH 7 hHeld ?_
   refine held_two (i := 2) (j := 9) (oi := ?oi2u3) (oj := ?oi9u3) (by kernel_rfl) ?hi2u3 ?hi9u3 (fun K hK => ?rest2u3) (fun K hK => ?rest9u3)
   case hi2u3 => (simp only [List.getElem?_toArray, List.getElem?_cons_succ, List.getElem?_cons_zero]; exact rfl)
   case hi9u3 => (simp only [List.getElem?_toArray, List.getElem?_cons_succ, List.getElem?_cons_zero]; exact rfl)
   ·go_simp
    go_at_call 56
    refine (Hcs.out _ HV.out.low).mono ?_
    rintro e w3 ⟨A1, c1, rfl, ho1, hb1⟩
    have H3 := Lib.hid (HV.out.below hb1)
    have HO1a := Lib.hid (own_lower ho1 HV.out.size)
    try go_simp
    refine hK _ _ (H3.out.held) ?_
    clear hK K hHeld
    have hHeld := H3.out.held
    try simp only [Act.put, sA, sZ, sS]
    refine held_two (i := 5) (j := 9) (oi := ?oi5u4) (oj := ?oi9u4) (by kernel_rfl) ?hi5u4 ?hi9u4 (fun K hK => ?rest5u4) (fun K hK => ?rest9u4)
    case hi5u4 => (simp only [List.getElem?_toArray, List.getElem?_cons_succ, List.getElem?_cons_zero]; exact rfl)
    case hi9u4 => (simp only [List.getElem?_toArray, List.getElem?_cons_succ, List.getElem?_cons_zero]; exact rfl)
    ·go_simp
     go_at_call 57
     refine (Hci.out _ H3.out.low).mono ?_
     rintro e w4 ⟨D1, d1, rfl, ho2, hb2⟩
     have H4 := Lib.hid (H3.out.below hb2)
     have HO2a := Lib.hid (own_lower ho2 H3.out.size)
     have HO1b := Lib.hid (own_below HO1a.out hb2)
     try go_simp
     refine hK _ _ (H4.out.held) ?_
     clear hK K hHeld
     have hHeld := H4.out.held
     try simp only [Act.put, sA, sZ, sS]
     refine stepH 8 hHeld ?_
     refine oneH 9 (fun K hK => ?_)
     go_simp
     have hal4 : Below w4.heap.size w4 (w4.alloc Oz) := (Below.refl _ _).alloc (Nat.le_refl _) _
     refine hK _ _ ((H4.out.below hal4).held) ?_
     clear hK K hHeld
     have hHeld := (H4.out.below hal4).held
     try simp only [Act.put, sA, sZ, sS]
     have HY := Lib.hid (H4.out.below hal4)
     have HO1 := Lib.hid (own_below HO1b.out hal4)
     have HO2 := Lib.hid (own_below HO2a.out (hb2.trans (hal4.mono hb2.size) |> fun _ => hal4))
     have Hz : Hid ((w4.alloc Oz).heap[w4.heap.size]? = some (.cells #[.slice none 0 0, .slice none 0 0, .int .i64 0] 44 (0, 0))) := Lib.hid (alloc_at rfl)
     have Hgb : w.heap.size + 2 ≤ w4.heap.size := H4.out.size
     clear hal4 hb1 hb2 ho1 ho2
     generalize w4.alloc Oz = Y at *
     generalize w4.heap.size = gb at *
     obtain ⟨z0, z1, z2, zl⟩ := open3 Hz.out
     have zf0 := frozen_of Hz.out 0
     have zf1 := frozen_of Hz.out 1
     have zf2 := frozen_of Hz.out 2
     obtain ⟨q1, q2⟩ := Gu.made (r := r) Hz.out Hgb HO1.out HO2.out HC.out.wf HT.out.wf
     have HY2 := Lib.hid (HY.out.above q2)
     have Q1 := Lib.hid q1
     clear q1 q2
     refine oneH 10 (fun K hK => ?_)
     go_simp
     refine hK _ _ (HY2.out.held) ?_
     clear hK K hHeld
     have hHeld := HY2.out.held
     try simp only [Act.put, sA, sZ, sS]
     refine wpAnyH_done (by kernel_rfl) ?_ _
     clear z0 z1 z2 zl zf0 zf1 zf2 hHeld
     generalize (((Y.setCell ⟨gb, 0, none⟩ (.slice A1 n c1)).setCell ⟨gb, 1, none⟩ (.slice D1 m d1)).setCell ⟨gb, 2, none⟩ (.int .i64 r)) = F at *
     go_wp2_with fail
     go_meet
     exact ⟨gb, rfl, Q1.out, HY2.out.low, HY2.out.x0, HY2.out.x1⟩
    ·go_simp
     have hal4 : Below w3.heap.size w3 (w3.alloc Oz) := (Below.refl _ _).alloc (Nat.le_refl _) _
     have H3o := Lib.hid (H3.out.below hal4)
     refine hK _ _ (H3o.out.held) ?_
     clear hK K hHeld
     have hHeld := H3o.out.held
     try simp only [Act.put, sA, sZ, sS]
     refine oneH 5 (fun K hK => ?_)
     go_simp
     go_at_call 57
     refine (Hci.out _ H3o.out.low).mono ?_
     rintro e w4 ⟨D1, d1, rfl, ho2, hb2⟩
     have HY := Lib.hid (H3o.out.below hb2)
     have HO2 := Lib.hid (own_lower ho2 H3o.out.size)
     have HO1 := Lib.hid (own_below (own_below HO1a.out hal4) hb2)
     have Hz : Hid (w4.heap[w3.heap.size]? = some (.cells #[.slice none 0 0, .slice none 0 0, .int .i64 0] 44 (0, 0))) := Lib.hid ((hb2.block _ (by simp)).trans (alloc_at rfl))
     have Hgb : w.heap.size + 2 ≤ w3.heap.size := H3.out.size
     try go_simp
     refine hK _ _ (HY.out.held) ?_
     clear hK K hHeld
     have hHeld := HY.out.held
     try simp only [Act.put, sA, sZ, sS]
     refine stepH 8 hHeld ?_
     clear hal4 hb1 hb2 ho1 ho2
     generalize w4 = Y at *
     generalize w3.heap.size = gb at *
     obtain ⟨z0, z1, z2, zl⟩ := open3 Hz.out
     have zf0 := frozen_of Hz.out 0
     have zf1 := frozen_of Hz.out 1
     have zf2 := frozen_of Hz.out 2
     obtain ⟨q1, q2⟩ := Gu.made (r := r) Hz.out Hgb HO1.out HO2.out HC.out.wf HT.out.wf
     have HY2 := Lib.hid (HY.out.above q2)
     have Q1 := Lib.hid q1
     clear q1 q2
     refine oneH 10 (fun K hK => ?_)
     go_simp
     refine hK _ _ (HY2.out.held) ?_
     clear hK K hHeld
     have hHeld := HY2.out.held
     try simp only [Act.put, sA, sZ, sS]
     refine wpAnyH_done (by kernel_rfl) ?_ _
     clear z0 z1 z2 zl zf0 zf1 zf2 hHeld
     generalize (((Y.setCell ⟨gb, 0, none⟩ (.slice A1 n c1)).setCell ⟨gb, 1, none⟩ (.slice D1 m d1)).setCell ⟨gb, 2, none⟩ (.int .i64 r)) = F at *
     go_wp2_with fail
     go_meet
     exact ⟨gb, rfl, Q1.out, HY2.out.low, HY2.out.x0, HY2.out.x1⟩
   ·go_simp
    have hal4 : Below V.heap.size V (V.alloc Oz) := (Below.refl _ _).alloc (Nat.le_refl _) _
    have HVo := Lib.hid (HV.out.below hal4)
    refine hK _ _ (HVo.out.held) ?_
    clear hK K hHeld
    have hHeld := HVo.out.held
    try simp only [Act.put, sA, sZ, sS]
    refine oneH 2 (fun K hK => ?_)
    go_simp
    go_at_call 56
    refine (Hcs.out _ HVo.out.low).mono ?_
    rintro e w3 ⟨A1, c1, rfl, ho1, hb1⟩
    have H3 := Lib.hid (HVo.out.below hb1)
    have HO1a := Lib.hid (own_lower ho1 HVo.out.size)
    try go_simp
    refine hK _ _ (H3.out.held) ?_
    clear hK K hHeld
    have hHeld := H3.out.held
    try simp only [Act.put, sA, sZ, sS]
    refine oneH 5 (fun K hK => ?_)
    go_simp
    go_at_call 57
    refine (Hci.out _ H3.out.low).mono ?_
    rintro e w4 ⟨D1, d1, rfl, ho2, hb2⟩
    have H4 := Lib.hid (H3.out.below hb2)
    have HO2a := Lib.hid (own_lower ho2 H3.out.size)
    have HO1b := Lib.hid (own_below HO1a.out hb2)
    try go_simp
    refine hK _ _ (H4.out.held) ?_
    clear hK K hHeld
    have hHeld := H4.out.held
    try simp only [Act.put, sA, sZ, sS]
    refine stepH 8 hHeld ?_
    have HY := H4
    have HO1 := HO1b
    have HO2 := HO2a
    have Hz : Hid (w4.heap[V.heap.size]? = some (.cells #[.slice none 0 0, .slice none 0 0, .int .i64 0] 44 (0, 0))) := Lib.hid ((hb2.block _ (Nat.lt_of_lt_of_le (by simp) hb1.size)).trans ((hb1.block _ (by simp)).trans (alloc_at rfl)))
    have Hgb : w.heap.size + 2 ≤ V.heap.size := HV.out.size
    clear hal4 hb1 hb2 ho1 ho2
    generalize w4 = Y at *
    generalize V.heap.size = gb at *
    obtain ⟨z0, z1, z2, zl⟩ := open3 Hz.out
    have zf0 := frozen_of Hz.out 0
    have zf1 := frozen_of Hz.out 1
    have zf2 := frozen_of Hz.out 2
    obtain ⟨q1, q2⟩ := Gu.made (r := r) Hz.out Hgb HO1.out HO2.out HC.out.wf HT.out.wf
    have HY2 := Lib.hid (HY.out.above q2)
    have Q1 := Lib.hid q1
    clear q1 q2
    refine oneH 10 (fun K hK => ?_)
    go_simp
    refine hK _ _ (HY2.out.held) ?_
    clear hK K hHeld
    have hHeld := HY2.out.held
    try simp only [Act.put, sA, sZ, sS]
    refine wpAnyH_done (by kernel_rfl) ?_ _
    clear z0 z1 z2 zl zf0 zf1 zf2 hHeld
    generalize (((Y.setCell ⟨gb, 0, none⟩ (.slice A1 n c1)).setCell ⟨gb, 1, none⟩ (.slice D1 m d1)).setCell ⟨gb, 2, none⟩ (.int .i64 r)) = F at *
    go_wp2_with fail
    go_meet
    exact ⟨gb, rfl, Q1.out, HY2.out.low, HY2.out.x0, HY2.out.x1⟩
 case rest =>
  clear x20 x21 hbw2 hsz2
  obtain ⟨gb, rfl, hG, hb3, x30, x31⟩ := hcut
  have hmf : ∀ (fn : Fn) (first cap : Array Value) (w : World), (Instr.makeFunc fn first cap).run Tryd.prog w = .ok (.func fn first cap) w := fun _ _ _ _ => rfl
  have hmm := @run_makeMap Tryd.prog
  go_wp2
  clear hmf hmm
  have hpre : Pre3 w wc A B n c m d r := ⟨hb3, x30, x31, block_lt x31⟩
  have hm1 := MapP.made wc Tryd.prog 234
  have hu1 : UInv w ((wc.alloc (.map #[] 0)).alloc (.cells #[.int .i64 (b : Int), .int .i64 (a : Int)] 234)) gb wc.heap.size A B n c m d r U ⟨l, tr, [(b, a)], []⟩ [(b, a)] (some ⟨wc.heap.size + 1, 0, none⟩) 1 1 (7 * (n * n) + 1) := by
   have ha1 : Below wc.heap.size wc (wc.alloc (.map #[] 0)) := (Below.refl _ _).alloc (Nat.le_refl _) _
   have ha2 : Below (wc.alloc (.map #[] 0)).heap.size (wc.alloc (.map #[] 0)) ((wc.alloc (.map #[] 0)).alloc (.cells #[.int .i64 (b : Int), .int .i64 (a : Int)] 234)) := (Below.refl _ _).alloc (Nat.le_refl _) _
   refine ⟨(hG.below ha1).below ha2, hm1.below ha2, ?_, start_ok Hg.out Ht.out (by rw [Hl.out]; exact Hba.out.2) (by rw [Hl.out]; exact Hba.out.1), rfl, Hl.out, ⟨fuelU l.length, start_mu l tr b a, ?_⟩, ?_, ?_, (hpre.below ha1).below ha2⟩
   ·have := World.ownsRow_lit (wc.alloc (.map #[] 0)) (e := 234) (size := 2) #[.int .i64 (b : Int), .int .i64 (a : Int)] 1 (Nat.le_refl _) (by simp [maxLen]) rfl
    simp at this
    exact own_lower this (by have := hpre.size; omega)
   ·have := uniF_comm l tr a b
    rw [HU.out] at this
    exact this
   ·simp [US.mu, Hl.out]
   ·simp [US.mu, Hl.out]
  have HU1 := Lib.hid hu1
  have Hmb := Lib.hid hpre.size
  clear hG hb3 x30 x31 hpre hm1 hu1
  generalize wc.heap.size = mb at *
  go_wp2
  go_step3
  go_wp2
  go_loopg [11] (7 * (n * n) + 1) (fun kk rv wr => ∃ (s : US) (R : List (Nat × Nat)) (m2 c2 : Nat) (Ar : Option Addr), rv = .slice Ar m2 c2 ∧ UInv w wr gb mb A B n c m d r U s R Ar m2 c2 kk)
  case atStart => exact ⟨_, _, _, _, _, rfl, HU1.out⟩
  case round =>
   clear HU1
   obtain ⟨s, R, m2, c2, Ar, rfl, hI⟩ := hrel
   have hlen := hI.row.1
   rw [pairsV_len] at hlen
   rcases List.eq_nil_or_concat R with rfl | ⟨R', ⟨a', b'⟩, rfl⟩
   ·obtain rfl : m2 = 0 := by simp at hlen; omega
    obtain ⟨k0, hk0, hrun⟩ := hI.run
    rw [uRun_zero (by rw [← hI.rev]; rfl) (by omega)] at hrun
    simp only [Option.map_some] at hrun
    subst hrun
    obtain ⟨A5, n5, c5, B5, m5, d5, p1, p2, p3, p4⟩ := hI.gu.has
    obtain ⟨y0, y1, y2, yl⟩ := open3 p2
    obtain ⟨z0, z1, z2, zl⟩ := open3 hI.pre.x1
    have zf0 := frozen_of hI.pre.x1 0
    have zf1 := frozen_of hI.pre.x1 1
    have zf2 := frozen_of hI.pre.x1 2
    have hkF : Kq (w.heap.size + 1) wr (((wr.setCell ⟨w.heap.size + 1, 0, none⟩ (.slice A5 n5 c5)).setCell ⟨w.heap.size + 1, 1, none⟩ (.slice B5 m5 d5)).setCell ⟨w.heap.size + 1, 2, none⟩ (.int .i64 r)) := ((Kq.set wr 0 _).trans (Kq.set _ 1 _)).trans (Kq.set _ 2 _)
    have hIC := IsC.kq ⟨Sl.own p3 (by omega), hI.gu.wfc⟩ hkF (fun a ha => by have := (Own0.lt p3 a ha).1; omega)
    have hII := IsI.kq ⟨Sl.own p4 (by omega), hI.gu.wfi⟩ hkF (fun a ha => by have := (Own0.lt p4 a ha).1; omega)
    have hbF := hI.pre.low.trans (hkF.bel.mono (by omega))
    have hOA : (((wr.setCell ⟨w.heap.size + 1, 0, none⟩ (.slice A5 n5 c5)).setCell ⟨w.heap.size + 1, 1, none⟩ (.slice B5 m5 d5)).setCell ⟨w.heap.size + 1, 2, none⟩ (.int .i64 r)).ownsRow w.heap.size 90 3 (.slice A5 n5 c5) n5 (flatC s.l) := own_lower (own_set3 p3 (fun a ha => by have h9 := (Own0.lt p3 a ha).1; omega)) (by omega)
    have hOB : (((wr.setCell ⟨w.heap.size + 1, 0, none⟩ (.slice A5 n5 c5)).setCell ⟨w.heap.size + 1, 1, none⟩ (.slice B5 m5 d5)).setCell ⟨w.heap.size + 1, 2, none⟩ (.int .i64 r)).ownsRow w.heap.size 3 1 (.slice B5 m5 d5) m5 (s.tr.map (Value.int .i64)) := own_lower (own_set3 p4 (fun a ha => by have h9 := (Own0.lt p4 a ha).1; omega)) (by omega)
    have HOA := Lib.hid hOA
    have HOB := Lib.hid hOB
    have HIC := Lib.hid hIC
    have HII := Lib.hid hII
    have HFr := Lib.hid (fun (x : Addr) (hx : B5 = some x) => show w.heap.size ≤ x.block by have := (Own0.lt p4 x hx).1; omega)
    have HbF := Lib.hid hbF
    have q0 : (((wr.setCell ⟨w.heap.size + 1, 0, none⟩ (.slice A5 n5 c5)).setCell ⟨w.heap.size + 1, 1, none⟩ (.slice B5 m5 d5)).setCell ⟨w.heap.size + 1, 2, none⟩ (.int .i64 r)).cell? ⟨w.heap.size + 1, 0, none⟩ = some (.slice A5 n5 c5) := (by first | (simp [*]; done) | (go_simp; done) | (go_simp; simp [*]; done))
    have q1 : (((wr.setCell ⟨w.heap.size + 1, 0, none⟩ (.slice A5 n5 c5)).setCell ⟨w.heap.size + 1, 1, none⟩ (.slice B5 m5 d5)).setCell ⟨w.heap.size + 1, 2, none⟩ (.int .i64 r)).cell? ⟨w.heap.size + 1, 1, none⟩ = some (.slice B5 m5 d5) := (by first | (simp [*]; done) | (go_simp; done) | (go_simp; simp [*]; done))
    have q2 : (((wr.setCell ⟨w.heap.size + 1, 0, none⟩ (.slice A5 n5 c5)).setCell ⟨w.heap.size + 1, 1, none⟩ (.slice B5 m5 d5)).setCell ⟨w.heap.size + 1, 2, none⟩ (.int .i64 r)).cell? ⟨w.heap.size + 1, 2, none⟩ = some (.int .i64 r) := (by first | (simp [*]; done) | (go_simp; done) | (go_simp; simp [*]; done))
    clear hIC hII hbF hkF p1 p2 p3 p4 hI hlen hk0 hOA hOB
    go_wp2
    generalize (((wr.setCell ⟨w.heap.size + 1, 0, none⟩ (.slice A5 n5 c5)).setCell ⟨w.heap.size + 1, 1, none⟩ (.slice B5 m5 d5)).setCell ⟨w.heap.size + 1, 2, none⟩ (.int .i64 r)) = F at *
    rw [Exit.noGoto_ret]
    refine bodyPost_ret (v := .tuple #[.agg #[.slice A5 n5 c5, .slice B5 m5 d5, .int .i64 r], .bool true]) (by simp [results, Tryd.results169, go_sem, *]) rfl ?_
    exact ⟨HbF.out, A5, n5, c5, B5, m5, d5, rfl, HIC.out, HII.out, HFr.out, HOA.out, HOB.out⟩
   ·rw [List.concat_eq_append] at *
    obtain ⟨k, rfl⟩ : ∃ k, m2 = k + 1 := ⟨R'.length, by simp at hlen; omega⟩
    have hkR : R'.length = k := by simp at hlen; omega
    subst hkR
    obtain ⟨gg, rfl⟩ : ∃ gg, Ar = some ⟨gg, 0, none⟩ := by
     obtain ⟨g, cap', hv, _⟩ := hI.row.form (by omega)
     injection hv with hv
     exact ⟨g, hv⟩
    obtain ⟨hl0', hl1'⟩ := pairsV_last R' a' b'
    have hl0 := (hI.row.cellAt (R'.length * 2) (by omega)).trans hl0'
    have hl1 := (hI.row.cellAt (R'.length * 2 + 1) (by omega)).trans hl1'
    obtain ⟨hg1, hg2⟩ := hI.row.lt gg rfl
    have hsl := Sl.own hI.row (by omega)
    have hcc1 := hsl.hcap
    have hcc2 := hsl.hmax
    unfold maxLen at hcc2
    have hkb : R'.length ≤ 1000000000 := by
     have h1 := hI.top
     have h3 : n * n ≤ 5000 * 5000 := Nat.mul_le_mul hn hn
     have h2 := congrArg List.length hI.rev
     simp only [US.mu, List.length_reverse, List.length_append, List.length_cons, List.length_nil] at h1 h2
     omega
    have hwk : IntKind.i64.wrap (R'.length : Int) = (R'.length : Int) := by rw [IntWalk.i64_in _ (by omega)]
    have hrow2 : (a', b') ∈ s.row := by rw [← hI.rev]; simp
    obtain ⟨hla, hlb⟩ := hI.ok.row _ hrow2
    simp only at hla hlb
    have HI := Lib.hid hI
    have hwr := hI.pre.size
    clear hl0' hl1' hsl hlen hI hrow2
    generalize R'.length = k at *
    go_upto_region 10 with fail
    refine wp_world' (Φ := fun X => Below wr.heap.size wr X ∧ wr.heap.size < X.heap.size ∧ X.cell? ⟨wr.heap.size, 0, none⟩ = some (.int .i64 (a' : Int)) ∧ X.cell? ⟨wr.heap.size, 1, none⟩ = some (.int .i64 (b' : Int))) ⟨(Below.refl _ _).alloc (Nat.le_refl _) _, by simp, (by first | (simp [*]; done) | (go_simp; done) | (go_simp; simp [*]; done)), (by first | (simp [*]; done) | (go_simp; done) | (go_simp; simp [*]; done))⟩ ?_
    rintro X ⟨hbX, hXs, t0, t1⟩
    have hIX := HI.out.below hbX
    obtain ⟨Ag, ng, cg, Bg, mg, dg, p1, p2, p3, p4⟩ := hIX.gu.has
    have hln := p3.1
    rw [flatC_len] at hln
    have hnn := hIX.len
    have hICX : IsC X Ag ng cg s.l := ⟨Sl.own p3 (by omega), hIX.gu.wfc⟩
    obtain ⟨y0, y1, y2, yl⟩ := open3 p2
    have hfa := fun wz (hb : Below X.heap.size X wz) => hfollow_any Ag ng cg s.l a' wz (hICX.below hb) hIX.ok.good (by omega) (by omega)
    have hfb := fun wz (hb : Below X.heap.size X wz) => hfollow_any Ag ng cg s.l b' wz (hICX.below hb) hIX.ok.good (by omega) (by omega)
    have Hfa := Lib.hid hfa
    have Hfb := Lib.hid hfb
    have HIX := Lib.hid hIX
    have HICX := Lib.hid hICX
    have HbX := Lib.hid hbX
    have Hngn := Lib.hid (show ng = n by omega)
    clear hfa hfb hIX hICX hbX p1 p3 p4 hl0 hl1 hln hnn HI hwk
    go_cut [13] from 57 to 67 (fun pvv wx => ∃ gp : Nat, pvv = .pointer (some ⟨gp, 0, none⟩) ∧ Below X.heap.size X wx ∧ wr.heap.size < gp ∧ gp < wx.heap.size ∧ wx.cell? ⟨gp, 0, none⟩ = some (.int .i64 (fol s.l a' : Nat)) ∧ wx.cell? ⟨gp, 1, none⟩ = some (.int .i64 (fol s.l b' : Nat)))
    case first =>
     refine wp_region_held_drew (S := fun w' => w'.cell? ⟨gb, 0, none⟩ = some (.slice Ag ng cg) ∧ w'.cell? ⟨wr.heap.size, 0, none⟩ = some (.int .i64 (a' : Int)) ∧ w'.cell? ⟨wr.heap.size, 1, none⟩ = some (.int .i64 (b' : Int))) (by kernel_rfl) ?gs2 ?gr2
     case gs2 => exact ⟨y0, t0, t1⟩
     case gr2 =>
      intro hHeld
      have HZ : Hid (Below X.heap.size X X.drew) := Lib.hid ((Below.refl _ _).drew)
      have hSt : ∀ o, (X.drew.alloc o).cell? ⟨gb, 0, none⟩ = some (.slice Ag ng cg) ∧ (X.drew.alloc o).cell? ⟨wr.heap.size, 0, none⟩ = some (.int .i64 (a' : Int)) ∧ (X.drew.alloc o).cell? ⟨wr.heap.size, 1, none⟩ = some (.int .i64 (b' : Int)) := fun o =>
       ⟨(World.cell?_alloc_lt X.drew o ⟨gb, 0, none⟩ yl).trans y0, (World.cell?_alloc_lt X.drew o ⟨wr.heap.size, 0, none⟩ hXs).trans t0, (World.cell?_alloc_lt X.drew o ⟨wr.heap.size, 1, none⟩ hXs).trans t1⟩
      have HSt := Lib.hid hSt
      have hZa : ∀ o, Below X.heap.size X (X.drew.alloc o) := fun o => ((Below.refl _ _).drew).alloc (Nat.le_refl _) _
      have HZa := Lib.hid hZa
      clear hSt hZa y0 y1 y2 t0 t1 p2
      generalize X.drew = V at *
      refine stepH 0 hHeld ?_
      refine stepH 1 hHeld ?_
      refine stepH 2 hHeld ?_
      refine stepH 3 hHeld ?_
      refine stepH 5 hHeld ?_
      refine stepH 6 hHeld ?_
      refine stepH 7 hHeld ?_
      refine stepH 8 hHeld ?_
      refine held_two (i := 4) (j := 11) (oi := ?oi4u5) (oj := ?oi11u5) (by kernel_rfl) ?hi4u5 ?hi11u5 (fun K hK => ?rest4u5) (fun K hK => ?rest11u5)
      case hi4u5 => (simp only [List.getElem?_toArray, List.getElem?_cons_succ, List.getElem?_cons_zero]; exact rfl)
      case hi11u5 => (simp only [List.getElem?_toArray, List.getElem?_cons_succ, List.getElem?_cons_zero]; exact rfl)
      ·go_simp
       go_at_call 64
       refine (Hfa.out _ HZ.out).mono ?_
       rintro e w2 ⟨rfl, rfl⟩
       try go_simp
       have hHeld8 := hHeld
       refine hK _ _ hHeld8 ?_
       clear hK K hHeld
       have hHeld := hHeld8
       clear hHeld8
       try simp only [Act.put, sA, sZ, sS]
       refine held_two (i := 9) (j := 11) (oi := ?oi9u6) (oj := ?oi11u6) (by kernel_rfl) ?hi9u6 ?hi11u6 (fun K hK => ?rest9u6) (fun K hK => ?rest11u6)
       case hi9u6 => (simp only [List.getElem?_toArray, List.getElem?_cons_succ, List.getElem?_cons_zero]; exact rfl)
       case hi11u6 => (simp only [List.getElem?_toArray, List.getElem?_cons_succ, List.getElem?_cons_zero]; exact rfl)
       ·go_simp
        go_at_call 64
        refine (Hfb.out _ HZ.out).mono ?_
        rintro e w2 ⟨rfl, rfl⟩
        try go_simp
        have hHeld8 := hHeld
        refine hK _ _ hHeld8 ?_
        clear hK K hHeld
        have hHeld := hHeld8
        clear hHeld8
        try simp only [Act.put, sA, sZ, sS]
        refine stepH 10 hHeld ?_
        refine oneH 11 (fun K hK => ?_)
        go_simp
        have hHeld8 : (fun w' : World => w'.cell? ⟨gb, 0, none⟩ = some (.slice Ag ng cg) ∧ w'.cell? ⟨wr.heap.size, 0, none⟩ = some (.int .i64 (a' : Int)) ∧ w'.cell? ⟨wr.heap.size, 1, none⟩ = some (.int .i64 (b' : Int))) (V.alloc (.cells #[.int .i64 0, .int .i64 0] 234)) := HSt.out _
        refine hK _ _ hHeld8 ?_
        clear hK K hHeld
        have hHeld := hHeld8
        clear hHeld8
        try simp only [Act.put, sA, sZ, sS]
        refine oneH 12 (fun K hK => ?_)
        go_simp
        have hHeld8 : (fun w' : World => w'.cell? ⟨gb, 0, none⟩ = some (.slice Ag ng cg) ∧ w'.cell? ⟨wr.heap.size, 0, none⟩ = some (.int .i64 (a' : Int)) ∧ w'.cell? ⟨wr.heap.size, 1, none⟩ = some (.int .i64 (b' : Int))) (V.alloc (.cells #[.int .i64 (fol s.l a' : Nat), .int .i64 (fol s.l b' : Nat)] 234)) := HSt.out _
        refine hK _ _ hHeld8 ?_
        clear hK K hHeld
        have hHeld := hHeld8
        clear hHeld8
        try simp only [Act.put, sA, sZ, sS]
        refine wpAnyH_done (by kernel_rfl) ?_ _
        go_wp2_with fail
        go_meet
        exact ⟨V.heap.size, rfl, HZa.out _, by have := HZ.out.size; omega, by simp, cells_of (alloc_at rfl) 0, cells_of (alloc_at rfl) 1⟩
       ·go_simp
        have hHeld8 : (fun w' : World => w'.cell? ⟨gb, 0, none⟩ = some (.slice Ag ng cg) ∧ w'.cell? ⟨wr.heap.size, 0, none⟩ = some (.int .i64 (a' : Int)) ∧ w'.cell? ⟨wr.heap.size, 1, none⟩ = some (.int .i64 (b' : Int))) (V.alloc (.cells #[.int .i64 0, .int .i64 0] 234)) := HSt.out _
        refine hK _ _ hHeld8 ?_
        clear hK K hHeld
        have hHeld := hHeld8
        clear hHeld8
        try simp only [Act.put, sA, sZ, sS]
        refine oneH 9 (fun K hK => ?_)
        go_simp
        go_at_call 64
        refine (Hfb.out _ (HZa.out _)).mono ?_
        rintro e w2 ⟨rfl, rfl⟩
        try go_simp
        have hHeld8 := hHeld
        refine hK _ _ hHeld8 ?_
        clear hK K hHeld
        have hHeld := hHeld8
        clear hHeld8
        try simp only [Act.put, sA, sZ, sS]
        refine stepH 10 hHeld ?_
        refine oneH 12 (fun K hK => ?_)
        go_simp
        have hHeld8 : (fun w' : World => w'.cell? ⟨gb, 0, none⟩ = some (.slice Ag ng cg) ∧ w'.cell? ⟨wr.heap.size, 0, none⟩ = some (.int .i64 (a' : Int)) ∧ w'.cell? ⟨wr.heap.size, 1, none⟩ = some (.int .i64 (b' : Int))) (V.alloc (.cells #[.int .i64 (fol s.l a' : Nat), .int .i64 (fol s.l b' : Nat)] 234)) := HSt.out _
        refine hK _ _ hHeld8 ?_
        clear hK K hHeld
        have hHeld := hHeld8
        clear hHeld8
        try simp only [Act.put, sA, sZ, sS]
        refine wpAnyH_done (by kernel_rfl) ?_ _
        go_wp2_with fail
        go_meet
        exact ⟨V.heap.size, rfl, HZa.out _, by have := HZ.out.size; omega, by simp, cells_of (alloc_at rfl) 0, cells_of (alloc_at rfl) 1⟩
      ·go_simp
       have hHeld8 : (fun w' : World => w'.cell? ⟨gb, 0, none⟩ = some (.slice Ag ng cg) ∧ w'.cell? ⟨wr.heap.size, 0, none⟩ = some (.int .i64 (a' : Int)) ∧ w'.cell? ⟨wr.heap.size, 1, none⟩ = some (.int .i64 (b' : Int))) (V.alloc (.cells #[.int .i64 0, .int .i64 0] 234)) := HSt.out _
       refine hK _ _ hHeld8 ?_
       clear hK K hHeld
       have hHeld := hHeld8
       clear hHeld8
       try simp only [Act.put, sA, sZ, sS]
       refine oneH 4 (fun K hK => ?_)
       go_simp
       go_at_call 64
       refine (Hfa.out _ (HZa.out _)).mono ?_
       rintro e w2 ⟨rfl, rfl⟩
       try go_simp
       have hHeld8 := hHeld
       refine hK _ _ hHeld8 ?_
       clear hK K hHeld
       have hHeld := hHeld8
       clear hHeld8
       try simp only [Act.put, sA, sZ, sS]
       refine oneH 9 (fun K hK => ?_)
       go_simp
       go_at_call 64
       refine (Hfb.out _ (HZa.out _)).mono ?_
       rintro e w2 ⟨rfl, rfl⟩
       try go_simp
       have hHeld8 := hHeld
       refine hK _ _ hHeld8 ?_
       clear hK K hHeld
       have hHeld := hHeld8
       clear hHeld8
       try simp only [Act.put, sA, sZ, sS]
       refine stepH 10 hHeld ?_
       refine oneH 12 (fun K hK => ?_)
       go_simp
       have hHeld8 : (fun w' : World => w'.cell? ⟨gb, 0, none⟩ = some (.slice Ag ng cg) ∧ w'.cell? ⟨wr.heap.size, 0, none⟩ = some (.int .i64 (a' : Int)) ∧ w'.cell? ⟨wr.heap.size, 1, none⟩ = some (.int .i64 (b' : Int))) (V.alloc (.cells #[.int .i64 (fol s.l a' : Nat), .int .i64 (fol s.l b' : Nat)] 234)) := HSt.out _
       refine hK _ _ hHeld8 ?_
       clear hK K hHeld
       have hHeld := hHeld8
       clear hHeld8
       try simp only [Act.put, sA, sZ, sS]
       refine wpAnyH_done (by kernel_rfl) ?_ _
       go_wp2_with fail
       go_meet
       exact ⟨V.heap.size, rfl, HZa.out _, by have := HZ.out.size; omega, by simp, cells_of (alloc_at rfl) 0, cells_of (alloc_at rfl) 1⟩
    case rest =>
     clear y0 y1 y2 t0 t1 p2
     obtain ⟨gp, rfl, hbV, hgpw, hgp, q0, q1⟩ := hcut
     have hIV := HIX.out.below hbV
     have hx := hIV.ok.good.fol_end hla
     have hy := hIV.ok.good.fol_end hlb
     have hrow : s.row = (a', b') :: R'.reverse := by rw [← hIV.rev]; simp
     have hstep := fun s' (h : uOne s R'.reverse (fol s.l a') (fol s.l b') = some s') => uOne_ok hIV.ok hrow h
     have hrun := hIV.run
     have hrun2 : ∃ k, s.mu < k + 1 ∧ ((match uOne s R'.reverse (fol s.l a') (fol s.l b') with | none => none | some s' => uRun k s') : Option US).map (fun s => (s.l, s.tr)) = U := by
      obtain ⟨k0, hk0, hr⟩ := hrun
      obtain ⟨j, rfl⟩ : ∃ j, k0 = j + 1 := ⟨k0 - 1, by omega⟩
      exact ⟨j, hk0, by rw [← hr, uRun_step hrow]; rfl⟩
     have HIV := Lib.hid hIV
     have Hstep := Lib.hid hstep
     have Hrun := Lib.hid hrun2
     have hmap := hIV.map
     have hnl := hIV.len
     have Hx := Lib.hid hx
     have Hy := Lib.hid hy
     clear hIV hx hy hrow hstep hrun hrun2 HIX HbX Hfa Hfb HICX
     generalize fol s.l a' = x at *
     generalize fol s.l b' = y at *
     have hpx : pOk (x, y) := ⟨by have := Hx.out.2; show x < 1000000; omega, by have := Hy.out.2; show y < 1000000; omega⟩
     have Hmap := Lib.hid hmap
     have Hpx := Lib.hid hpx
     clear hmap hpx
     by_cases hxy : x = y
     ·subst hxy
      have heq := fun w => eqP (x : Int) (x : Int) (x : Int) (x : Int) w
      simp only [and_self, decide_true] at heq
      have h1 := Hrun.out
      have hskip : uOne s R'.reverse x x = some { s with row := R'.reverse } := by unfold uOne; rw [if_pos (.inl rfl)]
      rw [hskip] at h1
      have HS := Lib.hid (Hstep.out _ hskip)
      have H1 := Lib.hid h1
      clear h1 hskip
      have hU2 := HIV.out.pop (s' := { s with row := R'.reverse }) rfl rfl rfl rfl HS.out.1 HS.out.2.1 H1.out
      have HU2 := Lib.hid hU2
      have hmu2 : (⟨s.l, s.tr, R'.reverse, s.seen⟩ : US).mu < gk := Nat.lt_of_lt_of_le HS.out.2.1 HIV.out.mu
      clear hU2
      go_wp2
      go_roundg (⟨s.l, s.tr, R'.reverse, s.seen⟩ : US).mu
      case measure => exact hmu2
      case rel => exact ⟨_, R', k, c2, _, rfl, HU2.out⟩
     ·have heq := fun w => eqP (x : Int) (y : Int) (x : Int) (x : Int) w
      have hyx : decide ((x : Int) = (x : Int) ∧ (y : Int) = (x : Int)) = false := by simp; omega
      simp only [hyx] at heq
      by_cases hseen : (x, y) ∈ s.seen
      ·have hdec : decide ((x, y) ∈ s.seen) = true := by simp [hseen]
       have h1 := Hrun.out
       have hskip : uOne s R'.reverse x y = some { s with row := R'.reverse } := by unfold uOne; rw [if_pos (.inr hseen)]
       rw [hskip] at h1
       have HS := Lib.hid (Hstep.out _ hskip)
       have H1 := Lib.hid h1
       have Hdec := Lib.hid hdec
       have hU2 := HIV.out.pop (s' := { s with row := R'.reverse }) rfl rfl rfl rfl HS.out.1 HS.out.2.1 H1.out
       have HU2 := Lib.hid hU2
       have hmu2 : (⟨s.l, s.tr, R'.reverse, s.seen⟩ : US).mu < gk := Nat.lt_of_lt_of_le HS.out.2.1 HIV.out.mu
       clear hU2 h1 hskip hseen hdec hyx
       go_wp2_with (first
        | (at_lookup; go_must (refine wpList_mapP_get keyPair (by rfl) (.tmp 76) (.tmp 77) 233 rfl 4 Tryd.underlying233 (zeroB _) rfl Hmap.out (p := (x, y)) rfl Hpx.out ?_); rw [Hdec.out]))
       go_roundg (⟨s.l, s.tr, R'.reverse, s.seen⟩ : US).mu
       case measure => exact hmu2
       case rel => exact ⟨_, R', k, c2, _, rfl, HU2.out⟩
      ·have hdec : decide ((x, y) ∈ s.seen) = false := by simp [hseen]
       have Hdec := Lib.hid hdec
       obtain ⟨Ag, ng, cg, Bg, mg, dg, p1, p2, p3, p4⟩ := HIV.out.gu.has
       have hln := p3.1
       rw [flatC_len] at hln
       have hxl := Hx.out.2
       have hyl := Hy.out.2
       obtain ⟨ga, xv, rfl, _, _, _, hgaw⟩ := Ly.slot (.inr p3) hxl
       obtain ⟨f0, f1, f2⟩ := flatC_get s.l x _ (sAt_some hxl)
       obtain ⟨f3, f4, f5⟩ := flatC_get s.l y _ (sAt_some hyl)
       have c0 := (p3.cellAt (x * 3) (by omega)).trans f0
       have c1 := (p3.cellAt (x * 3 + 1) (by omega)).trans f1
       have c2' := (p3.cellAt (x * 3 + 2) (by omega)).trans f2
       have c3 := (p3.cellAt (y * 3) (by omega)).trans f3
       have c4 := (p3.cellAt (y * 3 + 1) (by omega)).trans f4
       have c5 := (p3.cellAt (y * 3 + 2) (by omega)).trans f5
       have hsl := Sl.own p3 (by omega)
       have hcg1 := hsl.hcap
       have hcg2 := hsl.hmax
       unfold maxLen at hcg2
       have hxn : x < ng := by omega
       have hyn : y < ng := by omega
       obtain ⟨y0, y1, y2, yl2⟩ := open3 p2
       clear hsl f0 f1 f2 f3 f4 f5 p1 p2 p3 p4 hdec hyx hln hxl hyl
       generalize hX1 : sAt s.l x = X1 at *
       generalize hY1 : sAt s.l y = Y1 at *
       have HX1 := Lib.hid hX1
       have HY1 := Lib.hid hY1
       clear hX1 hY1
       go_upto_region 12 with (first
        | (at_lookup; go_must (refine wpList_mapP_get keyPair (by rfl) (.tmp 76) (.tmp 77) 233 rfl 4 Tryd.underlying233 (zeroB _) rfl Hmap.out (p := (x, y)) rfl Hpx.out ?_); rw [Hdec.out]))
       go_cut [14, 15] from 80 to 91 (fun xv yv wx => ∃ gx gy : Nat, xv = .pointer (some ⟨gx, 0, none⟩) ∧ yv = .pointer (some ⟨gy, 0, none⟩) ∧ Below wc.heap.size wc wx ∧ gx < wx.heap.size ∧ gy < wx.heap.size ∧ wx.cell? ⟨gx, 0, none⟩ = some (.int .i64 X1.kind) ∧ wx.cell? ⟨gx, 1, none⟩ = some (.string X1.name) ∧ wx.cell? ⟨gx, 2, none⟩ = some (.int .i64 X1.n) ∧ wx.cell? ⟨gy, 0, none⟩ = some (.int .i64 Y1.kind) ∧ wx.cell? ⟨gy, 1, none⟩ = some (.string Y1.name) ∧ wx.cell? ⟨gy, 2, none⟩ = some (.int .i64 Y1.n))
       case first =>
        refine wp_region_held_drew (S := fun w' => w'.cell? ⟨gb, 0, none⟩ = some (.slice (some ⟨ga, 0, none⟩) ng cg) ∧ w'.cell? ⟨gp, 0, none⟩ = some (.int .i64 (x : Int)) ∧ w'.cell? ⟨gp, 1, none⟩ = some (.int .i64 (y : Int)) ∧ w'.cell? ⟨ga, x * 3, none⟩ = some (.int .i64 X1.kind) ∧ w'.cell? ⟨ga, x * 3 + 1, none⟩ = some (.string X1.name) ∧ w'.cell? ⟨ga, x * 3 + 2, none⟩ = some (.int .i64 X1.n) ∧ w'.cell? ⟨ga, y * 3, none⟩ = some (.int .i64 Y1.kind) ∧ w'.cell? ⟨ga, y * 3 + 1, none⟩ = some (.string Y1.name) ∧ w'.cell? ⟨ga, y * 3 + 2, none⟩ = some (.int .i64 Y1.n)) (by kernel_rfl) ?gs3 ?gr3
        case gs3 => exact ⟨y0, q0, q1, c0, c1, c2', c3, c4, c5⟩
        case gr3 =>
         intro hHeld
         have hAl : ∀ w', Below wc.heap.size wc w' → w'.cell? ⟨gb, 0, none⟩ = some (.slice (some ⟨ga, 0, none⟩) ng cg) ∧ w'.cell? ⟨gp, 0, none⟩ = some (.int .i64 (x : Int)) ∧ w'.cell? ⟨gp, 1, none⟩ = some (.int .i64 (y : Int)) ∧ w'.cell? ⟨ga, x * 3, none⟩ = some (.int .i64 X1.kind) ∧ w'.cell? ⟨ga, x * 3 + 1, none⟩ = some (.string X1.name) ∧ w'.cell? ⟨ga, x * 3 + 2, none⟩ = some (.int .i64 X1.n) ∧ w'.cell? ⟨ga, y * 3, none⟩ = some (.int .i64 Y1.kind) ∧ w'.cell? ⟨ga, y * 3 + 1, none⟩ = some (.string Y1.name) ∧ w'.cell? ⟨ga, y * 3 + 2, none⟩ = some (.int .i64 Y1.n) := fun w' hb => ⟨(hb.cell (p := ⟨gb, 0, none⟩) yl2).trans y0, (hb.cell (p := ⟨gp, 0, none⟩) hgp).trans q0, (hb.cell (p := ⟨gp, 1, none⟩) hgp).trans q1, (hb.cell (p := ⟨ga, x * 3, none⟩) hgaw).trans c0, (hb.cell (p := ⟨ga, x * 3 + 1, none⟩) hgaw).trans c1, (hb.cell (p := ⟨ga, x * 3 + 2, none⟩) hgaw).trans c2', (hb.cell (p := ⟨ga, y * 3, none⟩) hgaw).trans c3, (hb.cell (p := ⟨ga, y * 3 + 1, none⟩) hgaw).trans c4, (hb.cell (p := ⟨ga, y * 3 + 2, none⟩) hgaw).trans c5⟩
         have HAl := Lib.hid hAl
         have HZ : Hid (Below wc.heap.size wc wc.drew) := Lib.hid ((Below.refl _ _).drew)
         clear hAl y0 y1 y2 q0 q1 c0 c1 c2' c3 c4 c5
         generalize wc.drew = V at *
         have hVs := HZ.out.size
         have Hz1 := Lib.hid (HZ.out.alloc hVs (.cells #[.int .i64 0, .string ⟨#[]⟩, .int .i64 0] 90))
         refine stepH 0 hHeld ?_
         refine stepH 1 hHeld ?_
         refine stepH 2 hHeld ?_
         refine stepH 3 hHeld ?_
         refine stepH 4 hHeld ?_
         refine stepH 5 hHeld ?_
         refine stepH 6 hHeld ?_
         refine stepH 7 hHeld ?_
         refine stepH 8 hHeld ?_
         refine stepH 9 hHeld ?_
         refine stepH 10 hHeld ?_
         refine stepH 11 hHeld ?_
         refine held_two (i := 12) (j := 13) (oi := ?oi12u7) (oj := ?oi13u7) (by kernel_rfl) ?hi12u7 ?hi13u7 (fun K hK => ?rest12u7) (fun K hK => ?rest13u7)
         case hi12u7 => (simp only [List.getElem?_toArray, List.getElem?_cons_succ, List.getElem?_cons_zero]; exact rfl)
         case hi13u7 => (simp only [List.getElem?_toArray, List.getElem?_cons_succ, List.getElem?_cons_zero]; exact rfl)
         ·go_simp
          refine hK _ _ (HAl.out _ Hz1.out) ?_
          clear hK K hHeld
          have hHeld := HAl.out _ Hz1.out
          try simp only [Act.put, sA, sZ, sS]
          refine oneH 13 (fun K hK => ?_)
          go_simp
          have hHeld8 : (fun w' : World => w'.cell? ⟨gb, 0, none⟩ = some (.slice (some ⟨ga, 0, none⟩) ng cg) ∧ w'.cell? ⟨gp, 0, none⟩ = some (.int .i64 (x : Int)) ∧ w'.cell? ⟨gp, 1, none⟩ = some (.int .i64 (y : Int)) ∧ w'.cell? ⟨ga, x * 3, none⟩ = some (.int .i64 X1.kind) ∧ w'.cell? ⟨ga, x * 3 + 1, none⟩ = some (.string X1.name) ∧ w'.cell? ⟨ga, x * 3 + 2, none⟩ = some (.int .i64 X1.n) ∧ w'.cell? ⟨ga, y * 3, none⟩ = some (.int .i64 Y1.kind) ∧ w'.cell? ⟨ga, y * 3 + 1, none⟩ = some (.string Y1.name) ∧ w'.cell? ⟨ga, y * 3 + 2, none⟩ = some (.int .i64 Y1.n)) ((V.alloc (.cells #[.int .i64 0, .string ⟨#[]⟩, .int .i64 0] 90)).alloc (.cells #[.int .i64 0, .string ⟨#[]⟩, .int .i64 0] 90)) := HAl.out (((V.alloc (.cells #[.int .i64 0, .string ⟨#[]⟩, .int .i64 0] 90)).alloc (.cells #[.int .i64 0, .string ⟨#[]⟩, .int .i64 0] 90))) (Hz1.out.alloc (by first | omega | (simp; done) | (simp; omega)) _)
          refine hK _ _ hHeld8 ?_
          clear hK K hHeld
          have hHeld := hHeld8
          clear hHeld8
          try simp only [Act.put, sA, sZ, sS]
          refine oneH 14 (fun K hK => ?_)
          go_simp
          have hHeld8 : (fun w' : World => w'.cell? ⟨gb, 0, none⟩ = some (.slice (some ⟨ga, 0, none⟩) ng cg) ∧ w'.cell? ⟨gp, 0, none⟩ = some (.int .i64 (x : Int)) ∧ w'.cell? ⟨gp, 1, none⟩ = some (.int .i64 (y : Int)) ∧ w'.cell? ⟨ga, x * 3, none⟩ = some (.int .i64 X1.kind) ∧ w'.cell? ⟨ga, x * 3 + 1, none⟩ = some (.string X1.name) ∧ w'.cell? ⟨ga, x * 3 + 2, none⟩ = some (.int .i64 X1.n) ∧ w'.cell? ⟨ga, y * 3, none⟩ = some (.int .i64 Y1.kind) ∧ w'.cell? ⟨ga, y * 3 + 1, none⟩ = some (.string Y1.name) ∧ w'.cell? ⟨ga, y * 3 + 2, none⟩ = some (.int .i64 Y1.n)) ((V.alloc (.cells #[.int .i64 X1.kind, .string X1.name, .int .i64 X1.n] 90)).alloc (.cells #[.int .i64 0, .string ⟨#[]⟩, .int .i64 0] 90)) := HAl.out (((V.alloc (.cells #[.int .i64 X1.kind, .string X1.name, .int .i64 X1.n] 90)).alloc (.cells #[.int .i64 0, .string ⟨#[]⟩, .int .i64 0] 90))) ((HZ.out.alloc hVs _).alloc (by first | omega | (simp; done) | (simp; omega)) _)
          refine hK _ _ hHeld8 ?_
          clear hK K hHeld
          have hHeld := hHeld8
          clear hHeld8
          try simp only [Act.put, sA, sZ, sS]
          refine oneH 15 (fun K hK => ?_)
          go_simp
          refine hK _ _ (HAl.out (((V.alloc (.cells #[.int .i64 X1.kind, .string X1.name, .int .i64 X1.n] 90)).alloc (.cells #[.int .i64 Y1.kind, .string Y1.name, .int .i64 Y1.n] 90))) ((HZ.out.alloc hVs _).alloc (by first | omega | (simp; done) | (simp; omega)) _)) ?_
          clear hK K hHeld
          have hHeld := HAl.out (((V.alloc (.cells #[.int .i64 X1.kind, .string X1.name, .int .i64 X1.n] 90)).alloc (.cells #[.int .i64 Y1.kind, .string Y1.name, .int .i64 Y1.n] 90))) ((HZ.out.alloc hVs _).alloc (by first | omega | (simp; done) | (simp; omega)) _)
          try simp only [Act.put, sA, sZ, sS]
          refine wpAnyH_done (by kernel_rfl) ?_ _
          go_wp2_with fail
          go_meet
          exact ⟨V.heap.size, V.heap.size + 1, rfl, rfl, (HZ.out.alloc hVs _).alloc (by first | omega | (simp; done) | (simp; omega)) _, (by first | omega | (simp; done) | (simp; omega)), (by first | omega | (simp; done) | (simp; omega)), ((World.cell?_alloc_lt _ _ ⟨V.heap.size, 0, none⟩ (by first | omega | (simp; done) | (simp; omega))).trans (cells_of (alloc_at rfl) 0)), ((World.cell?_alloc_lt _ _ ⟨V.heap.size, 1, none⟩ (by first | omega | (simp; done) | (simp; omega))).trans (cells_of (alloc_at rfl) 1)), ((World.cell?_alloc_lt _ _ ⟨V.heap.size, 2, none⟩ (by first | omega | (simp; done) | (simp; omega))).trans (cells_of (alloc_at rfl) 2)), (cells_of (alloc_at (by first | omega | (simp; done) | (simp; omega))) 0), (cells_of (alloc_at (by first | omega | (simp; done) | (simp; omega))) 1), (cells_of (alloc_at (by first | omega | (simp; done) | (simp; omega))) 2)⟩
         ·go_simp
          refine hK _ _ (HAl.out _ Hz1.out) ?_
          clear hK K hHeld
          have hHeld := HAl.out _ Hz1.out
          try simp only [Act.put, sA, sZ, sS]
          refine oneH 12 (fun K hK => ?_)
          go_simp
          have hHeld8 : (fun w' : World => w'.cell? ⟨gb, 0, none⟩ = some (.slice (some ⟨ga, 0, none⟩) ng cg) ∧ w'.cell? ⟨gp, 0, none⟩ = some (.int .i64 (x : Int)) ∧ w'.cell? ⟨gp, 1, none⟩ = some (.int .i64 (y : Int)) ∧ w'.cell? ⟨ga, x * 3, none⟩ = some (.int .i64 X1.kind) ∧ w'.cell? ⟨ga, x * 3 + 1, none⟩ = some (.string X1.name) ∧ w'.cell? ⟨ga, x * 3 + 2, none⟩ = some (.int .i64 X1.n) ∧ w'.cell? ⟨ga, y * 3, none⟩ = some (.int .i64 Y1.kind) ∧ w'.cell? ⟨ga, y * 3 + 1, none⟩ = some (.string Y1.name) ∧ w'.cell? ⟨ga, y * 3 + 2, none⟩ = some (.int .i64 Y1.n)) ((V.alloc (.cells #[.int .i64 0, .string ⟨#[]⟩, .int .i64 0] 90)).alloc (.cells #[.int .i64 0, .string ⟨#[]⟩, .int .i64 0] 90)) := HAl.out (((V.alloc (.cells #[.int .i64 0, .string ⟨#[]⟩, .int .i64 0] 90)).alloc (.cells #[.int .i64 0, .string ⟨#[]⟩, .int .i64 0] 90))) (Hz1.out.alloc (by first | omega | (simp; done) | (simp; omega)) _)
          refine hK _ _ hHeld8 ?_
          clear hK K hHeld
          have hHeld := hHeld8
          clear hHeld8
          try simp only [Act.put, sA, sZ, sS]
          refine oneH 14 (fun K hK => ?_)
          go_simp
          have hHeld8 : (fun w' : World => w'.cell? ⟨gb, 0, none⟩ = some (.slice (some ⟨ga, 0, none⟩) ng cg) ∧ w'.cell? ⟨gp, 0, none⟩ = some (.int .i64 (x : Int)) ∧ w'.cell? ⟨gp, 1, none⟩ = some (.int .i64 (y : Int)) ∧ w'.cell? ⟨ga, x * 3, none⟩ = some (.int .i64 X1.kind) ∧ w'.cell? ⟨ga, x * 3 + 1, none⟩ = some (.string X1.name) ∧ w'.cell? ⟨ga, x * 3 + 2, none⟩ = some (.int .i64 X1.n) ∧ w'.cell? ⟨ga, y * 3, none⟩ = some (.int .i64 Y1.kind) ∧ w'.cell? ⟨ga, y * 3 + 1, none⟩ = some (.string Y1.name) ∧ w'.cell? ⟨ga, y * 3 + 2, none⟩ = some (.int .i64 Y1.n)) ((V.alloc (.cells #[.int .i64 0, .string ⟨#[]⟩, .int .i64 0] 90)).alloc (.cells #[.int .i64 X1.kind, .string X1.name, .int .i64 X1.n] 90)) := HAl.out (((V.alloc (.cells #[.int .i64 0, .string ⟨#[]⟩, .int .i64 0] 90)).alloc (.cells #[.int .i64 X1.kind, .string X1.name, .int .i64 X1.n] 90))) ((HZ.out.alloc hVs _).alloc (by first | omega | (simp; done) | (simp; omega)) _)
          refine hK _ _ hHeld8 ?_
          clear hK K hHeld
          have hHeld := hHeld8
          clear hHeld8
          try simp only [Act.put, sA, sZ, sS]
          refine oneH 15 (fun K hK => ?_)
          go_simp
          refine hK _ _ (HAl.out (((V.alloc (.cells #[.int .i64 Y1.kind, .string Y1.name, .int .i64 Y1.n] 90)).alloc (.cells #[.int .i64 X1.kind, .string X1.name, .int .i64 X1.n] 90))) ((HZ.out.alloc hVs _).alloc (by first | omega | (simp; done) | (simp; omega)) _)) ?_
          clear hK K hHeld
          have hHeld := HAl.out (((V.alloc (.cells #[.int .i64 Y1.kind, .string Y1.name, .int .i64 Y1.n] 90)).alloc (.cells #[.int .i64 X1.kind, .string X1.name, .int .i64 X1.n] 90))) ((HZ.out.alloc hVs _).alloc (by first | omega | (simp; done) | (simp; omega)) _)
          try simp only [Act.put, sA, sZ, sS]
          refine wpAnyH_done (by kernel_rfl) ?_ _
          go_wp2_with fail
          go_meet
          exact ⟨V.heap.size + 1, V.heap.size, rfl, rfl, (HZ.out.alloc hVs _).alloc (by first | omega | (simp; done) | (simp; omega)) _, (by first | omega | (simp; done) | (simp; omega)), (by first | omega | (simp; done) | (simp; omega)), (cells_of (alloc_at (by first | omega | (simp; done) | (simp; omega))) 0), (cells_of (alloc_at (by first | omega | (simp; done) | (simp; omega))) 1), (cells_of (alloc_at (by first | omega | (simp; done) | (simp; omega))) 2), ((World.cell?_alloc_lt _ _ ⟨V.heap.size, 0, none⟩ (by first | omega | (simp; done) | (simp; omega))).trans (cells_of (alloc_at rfl) 0)), ((World.cell?_alloc_lt _ _ ⟨V.heap.size, 1, none⟩ (by first | omega | (simp; done) | (simp; omega))).trans (cells_of (alloc_at rfl) 1)), ((World.cell?_alloc_lt _ _ ⟨V.heap.size, 2, none⟩ (by first | omega | (simp; done) | (simp; omega))).trans (cells_of (alloc_at rfl) 2))⟩
       case rest =>
        obtain ⟨gx, gy, rfl, rfl, hbW, hgx, hgy, x0, x1, x2, v0, v1, v2⟩ := hcut
        have hIW := HIV.out.below hbW
        have hmapW := Hmap.out.below hbW
        have r0 := (hbW.cell (p := ⟨gp, 0, none⟩) hgp).trans q0
        have r1 := (hbW.cell (p := ⟨gp, 1, none⟩) hgp).trans q1
        have hgpW := Nat.lt_of_lt_of_le hgp hbW.size
        have z0 := (hbW.cell (p := ⟨gb, 0, none⟩) yl2).trans y0
        have hglW := Nat.lt_of_lt_of_le yl2 hbW.size
        have HIW := Lib.hid hIW
        have HmapW := Lib.hid hmapW
        have hc2p : 0 < c2 := by omega
        clear hIW hmapW q0 q1 hgp y0 y1 y2 yl2 c0 c1 c2' c3 c4 c5 hgaw hbW HIV Hmap
        have hbnd := fun (wz : World) (hI : UInv w wz gb mb A B n c m d r U s (R' ++ [(a', b')]) (some ⟨gg, 0, none⟩) (k + 1) c2 gk) (p q : Nat) (hp : p < s.l.length) (hq : q < s.l.length) => hbind_any (w.heap.size + 2) gb s.l s.tr r p q wz hI.gu hI.pre.size hp (by omega) (by omega) (by have := hI.ok.tr.len; omega)
        obtain ⟨Ag5, ng5, cg5, Bg5, mg5, dg5, p1, p2, p3, p4⟩ := HIW.out.gu.has
        have hz5 := (open3 p2).1.symm.trans z0
        injection hz5 with hz5
        injection hz5 with hz6 hz7 hz8
        subst hz6 hz7 hz8
        have hln5 := p3.1
        rw [flatC_len] at hln5
        have hocc := fun (p q : Nat) (hp : p < s.l.length) (hq : q < s.l.length) => hoccurs_any (some ⟨ga, 0, none⟩) ng5 cg5 s.l p q wc ⟨Sl.own p3 (by omega), HIW.out.gu.wfc⟩ HIW.out.ok.good (by omega) (by omega) (by omega)
        have Hocc := Lib.hid hocc
        have hseenl : s.seen.length ≤ 100000000 := by
         have h1 := pairs_le HIW.out.ok.nd HIW.out.ok.seen
         have h3 : s.l.length * s.l.length ≤ 5000 * 5000 := by rw [hnl]; exact Nat.mul_le_mul hn hn
         omega
        have Hseenl := Lib.hid hseenl
        clear p1 p2 p3 p4 hln5 hocc hseenl
        have Hbnd := Lib.hid hbnd
        clear hbnd
        by_cases kx : X1.kind = 1
        ·have kxb : (X1.kind == 1) = true := by simp [kx]
         by_cases ky : Y1.kind = 1
         ·have kyb : (Y1.kind == 1) = true := by simp [ky]
          have hone : uOne s R'.reverse x y = some (s.bound R'.reverse (max x y) (min x y)) := by
           unfold uOne
           rw [if_neg (fun h => h.elim hxy hseen), if_pos ⟨HX1.out.symm ▸ kx, HY1.out.symm ▸ ky⟩]
          rcases Nat.lt_or_gt_of_ne hxy with hlt | hlt
          ·rw [Nat.max_eq_right (Nat.le_of_lt hlt), Nat.min_eq_left (Nat.le_of_lt hlt)] at hone
           have hltz : (x : Int) < (y : Int) := by omega
           have hltn : ¬ (y : Int) < (x : Int) := by omega
           have h1 := Hrun.out
           rw [hone] at h1
           have H1 := Lib.hid h1
           have HS := Lib.hid (Hstep.out _ hone)
           have hmu2 := Lib.hid (Nat.lt_of_lt_of_le HS.out.2.1 HIW.out.mu)
           clear h1
           clear hone kx ky hlt
           go_wp2_with (first
            | (go_at_call 171; go_must (refine (Hbnd.out wc HIW.out y x Hy.out.2 Hx.out.2).mono ?_); rintro e w3 ⟨rfl, hG3, hB3, hK3⟩; have HG3 := Lib.hid hG3; have HB3 := Lib.hid hB3; have HK3 := Lib.hid hK3; clear hG3 hB3 hK3))
           go_roundg (s.bound R'.reverse y x).mu
           case measure => exact hmu2.out
           case rel => exact ⟨_, R', k, c2, _, rfl, HIW.out.bound hc2p HG3.out HB3.out HK3.out HS.out.1 HS.out.2.1 H1.out⟩
          ·rw [Nat.max_eq_left (Nat.le_of_lt hlt), Nat.min_eq_right (Nat.le_of_lt hlt)] at hone
           have hltz : (y : Int) < (x : Int) := by omega
           have hltn : ¬ (x : Int) < (y : Int) := by omega
           have h1 := Hrun.out
           rw [hone] at h1
           have H1 := Lib.hid h1
           have HS := Lib.hid (Hstep.out _ hone)
           have hmu2 := Lib.hid (Nat.lt_of_lt_of_le HS.out.2.1 HIW.out.mu)
           clear h1
           clear hone kx ky hlt
           go_wp2_with (first
            | (go_at_call 171; go_must (refine (Hbnd.out wc HIW.out x y Hx.out.2 Hy.out.2).mono ?_); rintro e w3 ⟨rfl, hG3, hB3, hK3⟩; have HG3 := Lib.hid hG3; have HB3 := Lib.hid hB3; have HK3 := Lib.hid hK3; clear hG3 hB3 hK3))
           go_roundg (s.bound R'.reverse x y).mu
           case measure => exact hmu2.out
           case rel => exact ⟨_, R', k, c2, _, rfl, HIW.out.bound hc2p HG3.out HB3.out HK3.out HS.out.1 HS.out.2.1 H1.out⟩
         ·have kyb : (Y1.kind == 1) = false := by simp [ky]
          have hoc := Hocc.out x y Hx.out.2 Hy.out.2
          cases hrc : rch s.l y x
          ·have hone : uOne s R'.reverse x y = some (s.bound R'.reverse x y) := by
            unfold uOne
            rw [if_neg (fun h => h.elim hxy hseen), if_neg (fun h => ky (HY1.out ▸ h.2)), if_pos (HX1.out.symm ▸ kx), hrc]; rfl
           rw [hrc] at hoc
           have Hoc := Lib.hid hoc
           have h1 := Hrun.out
           rw [hone] at h1
           have H1 := Lib.hid h1
           have HS := Lib.hid (Hstep.out _ hone)
           have hmu2 := Lib.hid (Nat.lt_of_lt_of_le HS.out.2.1 HIW.out.mu)
           clear h1
           clear hone kx ky hoc hrc
           go_wp2_with (first
            | (go_at_call 172; go_must (refine Hoc.out.mono ?_); rintro e w2 ⟨rfl, hb2⟩; have HI2 := Lib.hid (HIW.out.below hb2); have r0' := (hb2.cell (p := ⟨gp, 0, none⟩) hgpW).trans r0; have r1' := (hb2.cell (p := ⟨gp, 1, none⟩) hgpW).trans r1; have x0' := (hb2.cell (p := ⟨gx, 0, none⟩) hgx).trans x0; have x1' := (hb2.cell (p := ⟨gx, 1, none⟩) hgx).trans x1; have x2' := (hb2.cell (p := ⟨gx, 2, none⟩) hgx).trans x2; have v0' := (hb2.cell (p := ⟨gy, 0, none⟩) hgy).trans v0; have v1' := (hb2.cell (p := ⟨gy, 1, none⟩) hgy).trans v1; have v2' := (hb2.cell (p := ⟨gy, 2, none⟩) hgy).trans v2; clear hb2 r0 r1 x0 x1 x2 v0 v1 v2 z0)
            | (go_at_call 171; go_must (refine (Hbnd.out w2 HI2.out x y Hx.out.2 Hy.out.2).mono ?_); rintro e w3 ⟨rfl, hG3, hB3, hK3⟩; have HG3 := Lib.hid hG3; have HB3 := Lib.hid hB3; have HK3 := Lib.hid hK3; clear hG3 hB3 hK3))
           go_roundg (s.bound R'.reverse x y).mu
           case measure => exact hmu2.out
           case rel => exact ⟨_, R', k, c2, _, rfl, HI2.out.bound hc2p HG3.out HB3.out HK3.out HS.out.1 HS.out.2.1 H1.out⟩
          ·have hone : uOne s R'.reverse x y = none := by
            unfold uOne
            rw [if_neg (fun h => h.elim hxy hseen), if_neg (fun h => ky (HY1.out ▸ h.2)), if_pos (HX1.out.symm ▸ kx), hrc]; rfl
           rw [hrc] at hoc
           have Hoc := Lib.hid hoc
           have hne : X1.beq Y1 = false := by
            cases hbq : X1.beq Y1
            ·rfl
            ·have := beq_true hbq; subst this; exact absurd kx ky
           have h1 := Hrun.out
           rw [hone] at h1
           obtain ⟨_, _, hU0⟩ := h1
           have HU0 := Lib.hid hU0
           have hneq := fun wz => neqS X1 Y1 wz
           simp only [hne, Bool.not_false] at hneq
           clear hU0
           clear hone kx ky hoc hrc hne
           go_upto_region 20 with (first
            | (go_at_call 172; go_must (refine Hoc.out.mono ?_); rintro e w2 ⟨rfl, hb2⟩; have HI2 := Lib.hid (HIW.out.below hb2); have r0' := (hb2.cell (p := ⟨gp, 0, none⟩) hgpW).trans r0; have r1' := (hb2.cell (p := ⟨gp, 1, none⟩) hgpW).trans r1; have x0' := (hb2.cell (p := ⟨gx, 0, none⟩) hgx).trans x0; have x1' := (hb2.cell (p := ⟨gx, 1, none⟩) hgx).trans x1; have x2' := (hb2.cell (p := ⟨gx, 2, none⟩) hgx).trans x2; have v0' := (hb2.cell (p := ⟨gy, 0, none⟩) hgy).trans v0; have v1' := (hb2.cell (p := ⟨gy, 1, none⟩) hgy).trans v1; have v2' := (hb2.cell (p := ⟨gy, 2, none⟩) hgy).trans v2; clear hb2 r0 r1 x0 x1 x2 v0 v1 v2 z0))
           obtain ⟨s0, s1, s2, sl⟩ := open3 HI2.out.pre.x0
           obtain ⟨t0, t1, t2, tl⟩ := open3 HI2.out.pre.x1
           have tf0 := frozen_of HI2.out.pre.x1 0
           have tf1 := frozen_of HI2.out.pre.x1 1
           have tf2 := frozen_of HI2.out.pre.x1 2
           have hkF : Kq (w.heap.size + 1) w2 (((w2.setCell ⟨w.heap.size + 1, 0, none⟩ (.slice A n c)).setCell ⟨w.heap.size + 1, 1, none⟩ (.slice B m d)).setCell ⟨w.heap.size + 1, 2, none⟩ (.int .i64 r)) := ((Kq.set w2 0 _).trans (Kq.set _ 1 _)).trans (Kq.set _ 2 _)
           have HbF := Lib.hid (HI2.out.pre.low.trans (hkF.bel.mono (by omega)))
           have u0 : (((w2.setCell ⟨w.heap.size + 1, 0, none⟩ (.slice A n c)).setCell ⟨w.heap.size + 1, 1, none⟩ (.slice B m d)).setCell ⟨w.heap.size + 1, 2, none⟩ (.int .i64 r)).cell? ⟨w.heap.size + 1, 0, none⟩ = some (.slice A n c) := (by first | (simp [*]; done) | (go_simp; done) | (go_simp; simp [*]; done))
           have u1 : (((w2.setCell ⟨w.heap.size + 1, 0, none⟩ (.slice A n c)).setCell ⟨w.heap.size + 1, 1, none⟩ (.slice B m d)).setCell ⟨w.heap.size + 1, 2, none⟩ (.int .i64 r)).cell? ⟨w.heap.size + 1, 1, none⟩ = some (.slice B m d) := (by first | (simp [*]; done) | (go_simp; done) | (go_simp; simp [*]; done))
           have u2 : (((w2.setCell ⟨w.heap.size + 1, 0, none⟩ (.slice A n c)).setCell ⟨w.heap.size + 1, 1, none⟩ (.slice B m d)).setCell ⟨w.heap.size + 1, 2, none⟩ (.int .i64 r)).cell? ⟨w.heap.size + 1, 2, none⟩ = some (.int .i64 r) := (by first | (simp [*]; done) | (go_simp; done) | (go_simp; simp [*]; done))
           clear hkF
           go_wp2
           generalize (((w2.setCell ⟨w.heap.size + 1, 0, none⟩ (.slice A n c)).setCell ⟨w.heap.size + 1, 1, none⟩ (.slice B m d)).setCell ⟨w.heap.size + 1, 2, none⟩ (.int .i64 r)) = F at *
           have hUn := HU0.out
           simp only [Option.map_none] at hUn
           subst hUn
           refine bodyPost_ret (v := .tuple #[.agg #[.slice A n c, .slice B m d, .int .i64 r], .bool false]) (by simp [results, Tryd.results169, go_sem, *]) rfl ?_
           exact ⟨HbF.out, rfl⟩
        ·have kxb : (X1.kind == 1) = false := by simp [kx]
         by_cases ky : Y1.kind = 1
         ·have kyb : (Y1.kind == 1) = true := by simp [ky]
          have hoc := Hocc.out y x Hy.out.2 Hx.out.2
          cases hrc : rch s.l x y
          ·have hone : uOne s R'.reverse x y = some (s.bound R'.reverse y x) := by
            unfold uOne
            rw [if_neg (fun h => h.elim hxy hseen), if_neg (fun h => kx (HX1.out ▸ h.1)), if_neg (fun h => kx (HX1.out ▸ h)), if_pos (HY1.out.symm ▸ ky), hrc]; rfl
           rw [hrc] at hoc
           have Hoc := Lib.hid hoc
           have h1 := Hrun.out
           rw [hone] at h1
           have H1 := Lib.hid h1
           have HS := Lib.hid (Hstep.out _ hone)
           have hmu2 := Lib.hid (Nat.lt_of_lt_of_le HS.out.2.1 HIW.out.mu)
           clear h1
           clear hone kx ky hoc hrc
           go_wp2_with (first
            | (go_at_call 172; go_must (refine Hoc.out.mono ?_); rintro e w2 ⟨rfl, hb2⟩; have HI2 := Lib.hid (HIW.out.below hb2); have r0' := (hb2.cell (p := ⟨gp, 0, none⟩) hgpW).trans r0; have r1' := (hb2.cell (p := ⟨gp, 1, none⟩) hgpW).trans r1; have x0' := (hb2.cell (p := ⟨gx, 0, none⟩) hgx).trans x0; have x1' := (hb2.cell (p := ⟨gx, 1, none⟩) hgx).trans x1; have x2' := (hb2.cell (p := ⟨gx, 2, none⟩) hgx).trans x2; have v0' := (hb2.cell (p := ⟨gy, 0, none⟩) hgy).trans v0; have v1' := (hb2.cell (p := ⟨gy, 1, none⟩) hgy).trans v1; have v2' := (hb2.cell (p := ⟨gy, 2, none⟩) hgy).trans v2; clear hb2 r0 r1 x0 x1 x2 v0 v1 v2 z0)
            | (go_at_call 171; go_must (refine (Hbnd.out w2 HI2.out y x Hy.out.2 Hx.out.2).mono ?_); rintro e w3 ⟨rfl, hG3, hB3, hK3⟩; have HG3 := Lib.hid hG3; have HB3 := Lib.hid hB3; have HK3 := Lib.hid hK3; clear hG3 hB3 hK3))
           go_roundg (s.bound R'.reverse y x).mu
           case measure => exact hmu2.out
           case rel => exact ⟨_, R', k, c2, _, rfl, HI2.out.bound hc2p HG3.out HB3.out HK3.out HS.out.1 HS.out.2.1 H1.out⟩
          ·have hone : uOne s R'.reverse x y = none := by
            unfold uOne
            rw [if_neg (fun h => h.elim hxy hseen), if_neg (fun h => kx (HX1.out ▸ h.1)), if_neg (fun h => kx (HX1.out ▸ h)), if_pos (HY1.out.symm ▸ ky), hrc]; rfl
           rw [hrc] at hoc
           have Hoc := Lib.hid hoc
           have hne : X1.beq Y1 = false := by
            cases hbq : X1.beq Y1
            ·rfl
            ·have := beq_true hbq; subst this; exact absurd ky kx
           have h1 := Hrun.out
           rw [hone] at h1
           obtain ⟨_, _, hU0⟩ := h1
           have HU0 := Lib.hid hU0
           have hneq := fun wz => neqS X1 Y1 wz
           simp only [hne, Bool.not_false] at hneq
           clear hU0
           clear hone kx ky hoc hrc hne
           go_upto_region 20 with (first
            | (go_at_call 172; go_must (refine Hoc.out.mono ?_); rintro e w2 ⟨rfl, hb2⟩; have HI2 := Lib.hid (HIW.out.below hb2); have r0' := (hb2.cell (p := ⟨gp, 0, none⟩) hgpW).trans r0; have r1' := (hb2.cell (p := ⟨gp, 1, none⟩) hgpW).trans r1; have x0' := (hb2.cell (p := ⟨gx, 0, none⟩) hgx).trans x0; have x1' := (hb2.cell (p := ⟨gx, 1, none⟩) hgx).trans x1; have x2' := (hb2.cell (p := ⟨gx, 2, none⟩) hgx).trans x2; have v0' := (hb2.cell (p := ⟨gy, 0, none⟩) hgy).trans v0; have v1' := (hb2.cell (p := ⟨gy, 1, none⟩) hgy).trans v1; have v2' := (hb2.cell (p := ⟨gy, 2, none⟩) hgy).trans v2; clear hb2 r0 r1 x0 x1 x2 v0 v1 v2 z0))
           obtain ⟨s0, s1, s2, sl⟩ := open3 HI2.out.pre.x0
           obtain ⟨t0, t1, t2, tl⟩ := open3 HI2.out.pre.x1
           have tf0 := frozen_of HI2.out.pre.x1 0
           have tf1 := frozen_of HI2.out.pre.x1 1
           have tf2 := frozen_of HI2.out.pre.x1 2
           have hkF : Kq (w.heap.size + 1) w2 (((w2.setCell ⟨w.heap.size + 1, 0, none⟩ (.slice A n c)).setCell ⟨w.heap.size + 1, 1, none⟩ (.slice B m d)).setCell ⟨w.heap.size + 1, 2, none⟩ (.int .i64 r)) := ((Kq.set w2 0 _).trans (Kq.set _ 1 _)).trans (Kq.set _ 2 _)
           have HbF := Lib.hid (HI2.out.pre.low.trans (hkF.bel.mono (by omega)))
           have u0 : (((w2.setCell ⟨w.heap.size + 1, 0, none⟩ (.slice A n c)).setCell ⟨w.heap.size + 1, 1, none⟩ (.slice B m d)).setCell ⟨w.heap.size + 1, 2, none⟩ (.int .i64 r)).cell? ⟨w.heap.size + 1, 0, none⟩ = some (.slice A n c) := (by first | (simp [*]; done) | (go_simp; done) | (go_simp; simp [*]; done))
           have u1 : (((w2.setCell ⟨w.heap.size + 1, 0, none⟩ (.slice A n c)).setCell ⟨w.heap.size + 1, 1, none⟩ (.slice B m d)).setCell ⟨w.heap.size + 1, 2, none⟩ (.int .i64 r)).cell? ⟨w.heap.size + 1, 1, none⟩ = some (.slice B m d) := (by first | (simp [*]; done) | (go_simp; done) | (go_simp; simp [*]; done))
           have u2 : (((w2.setCell ⟨w.heap.size + 1, 0, none⟩ (.slice A n c)).setCell ⟨w.heap.size + 1, 1, none⟩ (.slice B m d)).setCell ⟨w.heap.size + 1, 2, none⟩ (.int .i64 r)).cell? ⟨w.heap.size + 1, 2, none⟩ = some (.int .i64 r) := (by first | (simp [*]; done) | (go_simp; done) | (go_simp; simp [*]; done))
           clear hkF
           go_wp2
           generalize (((w2.setCell ⟨w.heap.size + 1, 0, none⟩ (.slice A n c)).setCell ⟨w.heap.size + 1, 1, none⟩ (.slice B m d)).setCell ⟨w.heap.size + 1, 2, none⟩ (.int .i64 r)) = F at *
           have hUn := HU0.out
           simp only [Option.map_none] at hUn
           subst hUn
           refine bodyPost_ret (v := .tuple #[.agg #[.slice A n c, .slice B m d, .int .i64 r], .bool false]) (by simp [results, Tryd.results169, go_sem, *]) rfl ?_
           exact ⟨HbF.out, rfl⟩
         ·have kyb : (Y1.kind == 1) = false := by simp [ky]
          cases hbq : X1.beq Y1
          ·have hone : uOne s R'.reverse x y = none := by
            unfold uOne
            rw [if_neg (fun h => h.elim hxy hseen), if_neg (fun h => kx (HX1.out ▸ h.1)), if_neg (fun h => kx (HX1.out ▸ h)), if_neg (fun h => ky (HY1.out ▸ h)), if_neg (by rw [HX1.out, HY1.out, hbq]; decide)]
           have hne := hbq
           have h1 := Hrun.out
           rw [hone] at h1
           obtain ⟨_, _, hU0⟩ := h1
           have HU0 := Lib.hid hU0
           have hneq := fun wz => neqS X1 Y1 wz
           simp only [hne, Bool.not_false] at hneq
           clear hU0
           clear hone kx ky hne hbq
           go_upto_region 20 with fail
           have HI2 := HIW
           generalize wc = w2 at *
           obtain ⟨s0, s1, s2, sl⟩ := open3 HI2.out.pre.x0
           obtain ⟨t0, t1, t2, tl⟩ := open3 HI2.out.pre.x1
           have tf0 := frozen_of HI2.out.pre.x1 0
           have tf1 := frozen_of HI2.out.pre.x1 1
           have tf2 := frozen_of HI2.out.pre.x1 2
           have hkF : Kq (w.heap.size + 1) w2 (((w2.setCell ⟨w.heap.size + 1, 0, none⟩ (.slice A n c)).setCell ⟨w.heap.size + 1, 1, none⟩ (.slice B m d)).setCell ⟨w.heap.size + 1, 2, none⟩ (.int .i64 r)) := ((Kq.set w2 0 _).trans (Kq.set _ 1 _)).trans (Kq.set _ 2 _)
           have HbF := Lib.hid (HI2.out.pre.low.trans (hkF.bel.mono (by omega)))
           have u0 : (((w2.setCell ⟨w.heap.size + 1, 0, none⟩ (.slice A n c)).setCell ⟨w.heap.size + 1, 1, none⟩ (.slice B m d)).setCell ⟨w.heap.size + 1, 2, none⟩ (.int .i64 r)).cell? ⟨w.heap.size + 1, 0, none⟩ = some (.slice A n c) := (by first | (simp [*]; done) | (go_simp; done) | (go_simp; simp [*]; done))
           have u1 : (((w2.setCell ⟨w.heap.size + 1, 0, none⟩ (.slice A n c)).setCell ⟨w.heap.size + 1, 1, none⟩ (.slice B m d)).setCell ⟨w.heap.size + 1, 2, none⟩ (.int .i64 r)).cell? ⟨w.heap.size + 1, 1, none⟩ = some (.slice B m d) := (by first | (simp [*]; done) | (go_simp; done) | (go_simp; simp [*]; done))
           have u2 : (((w2.setCell ⟨w.heap.size + 1, 0, none⟩ (.slice A n c)).setCell ⟨w.heap.size + 1, 1, none⟩ (.slice B m d)).setCell ⟨w.heap.size + 1, 2, none⟩ (.int .i64 r)).cell? ⟨w.heap.size + 1, 2, none⟩ = some (.int .i64 r) := (by first | (simp [*]; done) | (go_simp; done) | (go_simp; simp [*]; done))
           clear hkF
           go_wp2
           generalize (((w2.setCell ⟨w.heap.size + 1, 0, none⟩ (.slice A n c)).setCell ⟨w.heap.size + 1, 1, none⟩ (.slice B m d)).setCell ⟨w.heap.size + 1, 2, none⟩ (.int .i64 r)) = F at *
           have hUn := HU0.out
           simp only [Option.map_none] at hUn
           subst hUn
           refine bodyPost_ret (v := .tuple #[.agg #[.slice A n c, .slice B m d, .int .i64 r], .bool false]) (by simp [results, Tryd.results169, go_sem, *]) rfl ?_
           exact ⟨HbF.out, rfl⟩
          ·have hneq := fun wz => neqS X1 Y1 wz
           simp only [hbq, Bool.not_true] at hneq
           have hone : uOne s R'.reverse x y = some ⟨s.l, s.tr, argPairs x y X1 ++ R'.reverse, (x, y) :: s.seen⟩ := by
            unfold uOne
            rw [if_neg (fun h => h.elim hxy hseen), if_neg (fun h => kx (HX1.out ▸ h.1)), if_neg (fun h => kx (HX1.out ▸ h)), if_neg (fun h => ky (HY1.out ▸ h)), if_pos (by rw [HX1.out, HY1.out, hbq]), HX1.out]
           have hokx := shp_at HIW.out.ok.good.shp Hx.out.2
           rw [HX1.out] at hokx
           have Hokx := Lib.hid hokx
           have h1 := Hrun.out
           rw [hone] at h1
           have H1 := Lib.hid h1
           have HS := Lib.hid (Hstep.out _ hone)
           have hmu2 := Lib.hid (Nat.lt_of_lt_of_le HS.out.2.1 HIW.out.mu)
           clear h1
           have Hnew := Lib.hid hseen
           obtain ⟨es9, ck9, hmm9⟩ := HmapW.out.isMap
           have Hgm := Lib.hid (own_ne HIW.out.cut hmm9 (by intro cur he; cases he) _ rfl)
           have HggW := Lib.hid (Own0.lt HIW.out.cut _ rfl).2
           have Hggp := Lib.hid (show gg ≠ gp by omega)
           clear hone kx ky hbq hokx hmm9
           go_upto_region 22 with (first
            | (at_mapUpdate; go_must (refine wpList_mapP_put keyPair (by rfl) (.tmp 163) (.tmp 164) (.const (.bool true)) 233 rfl 4 Tryd.underlying233 rfl HmapW.out (by have := Hseenl.out; omega) (p := (x, y)) rfl rfl Hpx.out Hnew.out ?_); intro w3 hm3 hg3; have HM3 := Lib.hid hm3; have HG3 := Lib.hid hg3; clear hm3 hg3))
           have HU3 := Lib.hid (HIW.out.hp.asked HM3.out HG3.out Hmb.out)
           have HR3 := Lib.hid (own_at (w' := w3) HIW.out.cut (fun a ha => by cases ha; exact HG3.out.block gg HggW.out (by simp; exact Hgm.out)))
           have r0' := map_cell HmapW.out HG3.out hgpW r0
           have r1' := map_cell HmapW.out HG3.out hgpW r1
           have x0' := map_cell HmapW.out HG3.out hgx x0
           have x2' := map_cell HmapW.out HG3.out hgx x2
           have hgp3 := Nat.lt_of_lt_of_le hgpW HG3.out.size
           clear r0 r1 x0 x1 x2 v0 v1 v2 z0 hneq
           by_cases k4 : X1.kind = 4
           ·have k4b : (X1.kind == 4) = true := by simp [k4]
            have ht4 := ok_top Hokx.out k4
            obtain ⟨N, hN⟩ : ∃ N : Nat, X1.n = N := ⟨X1.n.toNat, by omega⟩
            have hN6 : N ≤ 6 := by omega
            have hx5 : x < 5000 := by have := Hx.out.2; omega
            have hy5 : y < 5000 := by have := Hy.out.2; omega
            have Hfin : Hid (argPairs x y X1 = (pairsRev x y N).reverse) := Lib.hid (by unfold argPairs; rw [if_pos k4, pairs_rev, hN]; rfl)
            rw [hN] at x2'
            clear k4 ht4 hN
            go_upto_region 24 with fail
            clear x0' x2' k4b
            go_loopw [11, 16] (fun rv iv wq => ∃ (i m2 c4 : Nat) (R2 : List (Nat × Nat)) (Ar : Option Addr), i ≤ N ∧ iv = .int .i64 i ∧ rv = .slice Ar m2 c4 ∧ wq.ownsRow (w.heap.size + 2) 234 2 (.slice Ar m2 c4) m2 (pairsV R2) ∧ (0 < c4 ∧ Hid (Ar ≠ none ∧ ∀ a, Ar = some a → a.block ≠ gp)) ∧ Hid (R2 ++ pairsRev x y i = R' ++ pairsRev x y N) ∧ m2 + i = k + N ∧ UHp w wq gb mb A B n c m d r s.l s.tr ((x, y) :: s.seen) ∧ gp < wq.heap.size ∧ wq.cell? ⟨gp, 0, none⟩ = some (.int .i64 (x : Int)) ∧ wq.cell? ⟨gp, 1, none⟩ = some (.int .i64 (y : Int))) (fun _ iv _ => (intOf iv).toNat)
            case atStart => exact ⟨N, k, c2, R', _, Nat.le_refl _, rfl, rfl, HR3.out, ⟨hc2p, Lib.hid ⟨by simp, fun a ha => by cases ha; exact Hggp.out⟩⟩, Lib.hid rfl, by omega, HU3.out, hgp3, r0', r1'⟩
            case round =>
             clear HR3 HU3 r0' r1' hgp3
             obtain ⟨i, m2, c4, R2, Ar2, hi, rfl, rfl, hr4, ⟨hc4, hA4⟩, hres4, hm4, hu4, hgp4, e0, e1⟩ := hrel
             have Hr4 := Lib.hid hr4
             have Hu4 := Lib.hid hu4
             have hb4 := hu4.pre.size
             clear hr4 hu4
             cases i with
             | zero =>
              go_wp2
              go_roundg (⟨s.l, s.tr, argPairs x y X1 ++ R'.reverse, (x, y) :: s.seen⟩ : US).mu
              case measure => exact hmu2.out
              case rel =>
               refine ⟨_, R2, m2, c4, Ar2, rfl, HIW.out.next Hu4.out Hr4.out ?_ HS.out.1 HIW.out.len HS.out.2.1 H1.out⟩
               have hr5 := hres4.out
               rw [pairsRev, List.append_nil] at hr5
               rw [hr5, List.reverse_append, ← Hfin.out]
             | succ i =>
              have hsx : IntKind.i64.wrap ((x : Int) + ((i + 1 : Nat) : Int)) = ((x + (i + 1) : Nat) : Int) := by rw [IntWalk.i64_in _ (by omega)]; omega
              have hsy : IntKind.i64.wrap ((y : Int) + ((i + 1 : Nat) : Int)) = ((y + (i + 1) : Nat) : Int) := by rw [IntWalk.i64_in _ (by omega)]; omega
              have hone : (0 : Int) < ((i + 1 : Nat) : Int) := by omega
              go_wp2_with (first
               | (at_builtin; go_must (refine wpList_append_sl rfl (.tmp 174) (.tmp 184) 235 rfl (w.heap.size + 2) 234 Tryd.underlying235 infoPair rfl (by omega) rfl (Hr4.out.alloc _) rfl (Sl.lit wr _ [.int .i64 ((x + (i + 1) : Nat) : Int), .int .i64 ((y + (i + 1) : Nat) : Int)] 234 2 1 (by simp) rfl (by simp [maxLen])) (one2 _ _) (by omega) (by omega) (by simp; omega) ?_); intro A5 cap5 w5 hown5 hb5 hgr5 hblk5))
              have hlt5 : ∀ a, Ar2 = some a → a.block ≠ gp := hA4.out.2
              have hua := Hu4.out.below ((Below.refl wr.heap.size wr).alloc (Nat.le_refl _) (.cells #[.int .i64 ((x + (i + 1) : Nat) : Int), .int .i64 ((y + (i + 1) : Nat) : Int)] 234))
              have hu5 := hua.laid (Hr4.out.alloc _) hc4 hA4.out.1 hgr5 hb5
              have hg5 := grown_block (g := gp) hgr5 (by simp; omega) hlt5
              have e0' := (World.cell?_of_block (a := ⟨gp, 0, none⟩) hg5).trans ((World.cell?_alloc_lt wr _ ⟨gp, 0, none⟩ hgp4).trans e0)
              have e1' := (World.cell?_of_block (a := ⟨gp, 1, none⟩) hg5).trans ((World.cell?_alloc_lt wr _ ⟨gp, 1, none⟩ hgp4).trans e1)
              have hs5 := hb5.size
              have hsl5 := (Sl.own hown5 (by omega)).hcap
              have hA5 : A5 ≠ none ∧ ∀ a, A5 = some a → a.block ≠ gp := by
               obtain ⟨g, cap', hv, _⟩ := hown5.form (by omega)
               injection hv with hv
               subst hv
               refine ⟨by simp, fun a ha => ?_⟩
               cases ha
               rcases hblk5 with h9 | h9
               ·obtain ⟨a', rfl⟩ : ∃ a', Ar2 = some a' := by
                 cases Ar2 with
                 | none => exact absurd rfl hA4.out.1
                 | some a' => exact ⟨a', rfl⟩
                rcases Hr4.out.2 with ⟨h7, _⟩ | ⟨g', cap7, cur, h7, _⟩
                ·injection h7 with h7; cases h7
                ·injection h7 with h7
                 injection h7 with h7
                 subst h7
                 have h8 := hlt5 _ rfl
                 have h10 : some g = some g' := h9
                 exact fun e => h8 ((Option.some.inj h10).symm.trans e)
               ·have h10 : some g = some _ := h9
                have h8 : g ≠ gp := by rw [Option.some.inj h10]; simp; omega
                exact h8
              go_roundw
              case rel => exact ⟨i, m2 + 1, cap5, R2 ++ [(x + (i + 1), y + (i + 1))], A5, by omega, by go_num, rfl, by rw [pairsV_snoc]; exact hown5, ⟨by omega, Lib.hid hA5⟩, Lib.hid (by simpa [pairsRev] using hres4.out), by omega, hu5, by simp at hs5; omega, e0', e1'⟩
              case measure => simp [intOf]
           ·have k4b : (X1.kind == 4) = false := by simp [k4]
            have Hfin : Hid (argPairs x y X1 = []) := Lib.hid (by unfold argPairs; rw [if_neg k4])
            clear k4
            go_wp2
            go_roundg (⟨s.l, s.tr, argPairs x y X1 ++ R'.reverse, (x, y) :: s.seen⟩ : US).mu
            case measure => exact hmu2.out
            case rel => exact ⟨_, R', k, c2, _, rfl, HIW.out.next HU3.out HR3.out (by rw [Hfin.out]; rfl) HS.out.1 HIW.out.len HS.out.2.1 H1.out⟩
end Go.Proofs.YtgipiplklaeplaaDoor
