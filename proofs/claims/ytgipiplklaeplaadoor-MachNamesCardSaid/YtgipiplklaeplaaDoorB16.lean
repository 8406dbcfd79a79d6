/- Texts of this proof that belong together: words of memory, plain laws, walks. -/
import Derived.Test.YtgipiplklaeplaaDoorB09
import Derived.Test.YtgipiplklaeplaaDoorB14
import Derived.Test.YtgipiplklaeplaaDoorB15
set_option linter.unusedVariables false
set_option linter.unusedSimpArgs false
namespace Go.Proofs.YtgipiplklaeplaaDoor
open Go.RowKit
def RetGet (w : World) (o : Option (List C)) (e : Ending) (w' : World) : Prop := Below w.heap.size w w' ∧ match o with
 | some t => ∃ A n c, e = .returned (.tuple #[.slice A n c, .bool true]) ∧ IsC w' A n c t
 | none => e = .returned (.tuple #[.slice none 0 0, .bool false])
theorem ints_append' (R : List Nat) (q : Nat) : (ints (R ++ [q])).map (Value.int .i64) = (ints R).map (Value.int .i64) ++ [.int .i64 (q : Int)] := by simp [ints]
set_option maxRecDepth 100000 in
set_option maxHeartbeats 4000000 in
theorem hGet_in (A B : Option Addr) (n c m d : Nat) (r : Int) (l : List C) (p : Nat) (w : World) (h : IsC w A n c l) (hg : Good l) (hn : n ≤ 100000) (hp : p < n) :
  Calls Tryd.prog 24 #[.agg #[.slice A n c, .slice B m d, .int .i64 r], .int .i64 p] w (RetGet w (getF l p)) := by
 have hl := h.len
 generalize hG : getF l p = G
 have HG := Lib.hid hG
 clear hG
 have Hl := Lib.hid hl
 have HC := Lib.hid h
 have Hg := Lib.hid hg
 have hstart := GetI.start (l := l) (p := p) (by omega)
 have Hstart := Lib.hid hstart
 have hwi := fun wz => hwithin_any A B n c m d r p wz hn
 have hwb : (decide (0 ≤ (p : Int)) && decide ((p : Int) < (n : Int))) = true := by simp; omega
 rw [hwb] at hwi
 have Hwi := Lib.hid hwi
 clear hl h hg hstart hwi hwb
 go_enter Tryd.func24, Tryd.ntmps24
 have hal : Below w.heap.size w (w.alloc (.cells #[.slice A n c, .slice B m d, .int .i64 r] 44)) := (Below.refl _ _).alloc (Nat.le_refl _) _
 have x00 : (w.alloc (.cells #[.slice A n c, .slice B m d, .int .i64 r] 44)).heap[w.heap.size]? = some (.cells #[.slice A n c, .slice B m d, .int .i64 r] 44 (0, 0)) := alloc_at rfl
 go_wp2_with (first
  | (go_at_call 60; go_must (refine (Hwi.out _).mono ?_); rintro e w1 ⟨rfl, hb1⟩; have x1 := (hb1.block w.heap.size (by first | omega | (simp; done) | (simp; omega))).trans x00; replace hb1 := hal.trans (hb1.mono hal.size)))
 have Hx1 := Lib.hid x1
 have Hb1 := Lib.hid hb1
 have hsz1 := hb1.size
 have hszl := block_lt x1
 clear hal x00 x1 hb1
 go_loopg [6, 7] 200 (fun kk ov rv wr => ∃ (out : List C) (R : List Nat) (k c1 m1 c2 : Nat) (Ao Ar : Option Addr), ov = .slice Ao k c1 ∧ rv = .slice Ar m1 c2 ∧ wr.ownsRow w.heap.size 66 3 (.slice Ao k c1) k (flatC out) ∧ wr.ownsRow w.heap.size 3 1 (.slice Ar m1 c2) m1 ((ints R).map (Value.int .i64)) ∧ Hid (GetI l p out R) ∧ Hid (∀ c ∈ out, c.wf) ∧ Hid (200 - out.length ≤ kk ∧ R.length ≤ 1 + 6 * out.length) ∧ Below w.heap.size w wr ∧ wr.heap[w.heap.size]? = some (.cells #[.slice A n c, .slice B m d, .int .i64 r] 44 (0, 0)))
 case atStart =>
  refine ⟨[], [p], 0, 0, 1, 1, none, some ⟨w1.heap.size, 0, none⟩, rfl, rfl, World.ownsRow_nil _ _ _ _, ?_, Hstart, Lib.hid (by simp), Lib.hid ⟨by simp, by simp⟩, Hb1.out.alloc hsz1 _, (alloc_past hszl).trans Hx1.out⟩
  have := World.ownsRow_lit w1 (e := 3) (size := 1) #[.int .i64 (p : Int)] 1 (Nat.le_refl _) (by simp [maxLen]) rfl
  simp at this
  exact own_lower this hsz1
 case round =>
  clear Hstart Hx1 Hb1
  obtain ⟨out, R, k1, c1, m1, c2, Ao, Ar, rfl, rfl, hownO, hownR, hI, hwf, hmu, hb, hx⟩ := hrel
  have hlen := hownR.1
  simp [ints_len] at hlen
  have hlenO := hownO.1
  rw [flatC_len] at hlenO
  have hHlO : Hid (out.length = k1) := Lib.hid (by omega)
  obtain ⟨y0, y1, y2, yl⟩ := open3 hx
  rcases List.eq_nil_or_concat R with rfl | ⟨R', a, rfl⟩
  ·obtain rfl : m1 = 0 := by simpa using hlen.symm
   have hfin := hI.out.done
   rw [HG.out] at hfin
   subst hfin
   have HIC := Lib.hid (show IsC wr Ao k1 c1 out from ⟨Sl.own hownO (by omega), hwf.out⟩)
   clear hownO hownR hlen hlenO
   go_wp2
   refine bodyPost_ret (v := .tuple #[.slice Ao k1 c1, .bool true]) (by simp [results, Tryd.results24, go_sem, *]) rfl ?_
   exact ⟨hb, Ao, k1, c1, rfl, HIC.out⟩
  ·rw [List.concat_eq_append] at *
   obtain ⟨k, rfl⟩ : ∃ k, m1 = k + 1 := ⟨R'.length, by simpa using hlen.symm⟩
   have hkR : R'.length = k := by simpa using hlen
   have hra := hI.out.rl a (by simp)
   have han : a < n := by have := Hl.out; omega
   have hget : ((ints (R' ++ [a])).map (Value.int .i64))[k]? = some (.int .i64 (a : Int)) := by rw [List.getElem?_map, ← hkR, ints_snoc_get]; rfl
   obtain ⟨gg, rfl⟩ : ∃ gg, Ar = some ⟨gg, 0, none⟩ := by
    obtain ⟨g, cap', hv, _⟩ := hownR.form (by omega)
    injection hv with hv
    exact ⟨g, hv⟩
   have hl0 := (hownR.cellAt k (by omega)).trans hget
   obtain ⟨hg1, hg2⟩ := hownR.lt gg rfl
   have hslR := Sl.own hownR (by omega)
   have hcc1 := hslR.hcap
   have hcc2 := hslR.hmax
   unfold maxLen at hcc2
   have hslO := Sl.own hownO (by omega)
   have hco1 := hslO.hcap
   have hco2 := hslO.hmax
   unfold maxLen at hco2
   have hcut := own_cut hownR (m := k) (by omega)
   have hcutx : ((ints (R' ++ [a])).map (Value.int .i64)).take (k * 1) = (ints R').map (Value.int .i64) := by
    rw [ints_append, List.map_append, Nat.mul_one, List.take_append_of_le_length (by simp [ints_len]; omega), List.take_of_length_le (by simp [ints_len]; omega)]
   rw [hcutx] at hcut
   have HownR := Lib.hid hcut
   have HownO := Lib.hid hownO
   have HkR := Lib.hid hkR
   have Hx := Lib.hid hx
   have Hra := Lib.hid hra
   have hfo := hfollow_any A n c l a wr.drew ((HC.out.below hb).drewN 1) Hg.out hn han
   have hq := Hg.out.fol_end (p := a) hra
   have hqk := Hg.out.fol_kind (p := a) hra
   have hqn : fol l a < n := by have := Hl.out; omega
   obtain ⟨x, hxc⟩ := HC.out.get hqn
   have hsx := sAt_get hxc
   have hokx := shp_at Hg.out.shp hq.2
   obtain ⟨b, off, rfl, hbb, hwfx, e0, e1, e2⟩ := HC.out.at_ hxc
   have e0' := (hb.cell (p := ⟨b, off + fol l a * 3, none⟩) hbb).trans e0
   have e1' := (hb.cell (p := ⟨b, off + fol l a * 3 + 1, none⟩) hbb).trans e1
   have e2' := (hb.cell (p := ⟨b, off + fol l a * 3 + 2, none⟩) hbb).trans e2
   have hbr : b < wr.heap.size := Nat.lt_of_lt_of_le hbb hb.size
   have hvar := fun ho hk hb => hI.out.var Hg.out (a := a) ho hk hb
   have hnum := fun ho hk => hI.out.num Hg.out (a := a) ho hk
   have htop := fun ho hk => hI.out.top Hg.out (a := a) ho hk
   have hgreat := fun hk hb => hI.out.great Hg.out (a := a) hk hb
   have hlong := fun ho => hI.out.long (a := a) ho
   have hmu1 := hmu.out
   have hIlen := hI.out.len
   have hcd := HC.out.sl.hcap
   have hcm := HC.out.sl.hmax
   unfold maxLen at hcm
   rw [hsx] at hokx hqk hnum htop hgreat hvar
   generalize fol l a = q at *
   have Hvar := Lib.hid hvar
   have Hnum := Lib.hid hnum
   have Htop := Lib.hid htop
   have Hgreat := Lib.hid hgreat
   have Hlong := Lib.hid hlong
   have Hfo := Lib.hid hfo
   have Hokx := Lib.hid hokx
   have Hqk := Lib.hid hqk
   have Hmu1 := Lib.hid hmu1
   have HIlen := Lib.hid hIlen
   have Hwfx := Lib.hid hwfx
   have hk1 : k1 ≤ 200 := by have := hHlO.out; omega
   have hkn : k ≤ 10000 := by have := HkR.out; simp at hmu1; omega
   clear hvar hnum htop hgreat hlong hfo hokx hqk hmu1 hIlen hcut hcutx hownR hownO hkR hx hra hslR hslO hxc hsx hq hwfx e0 e1 e2 hlen hlenO hget hmu
   have hwk : IntKind.i64.wrap (k : Int) = (k : Int) := by rw [IntWalk.i64_in _ (by omega)]
   have hkk : (k : Int) < (k : Int) + 1 := by omega
   go_upto_region 6 with fail
   refine wp_region_held_drew (S := fun w' => w'.cell? ⟨w.heap.size, 0, none⟩ = some (.slice (some ⟨b, off, none⟩) n c) ∧ w'.cell? ⟨gg, k, none⟩ = some (.int .i64 (a : Int))) (by kernel_rfl) ?gs ?gr
   case gs => simp [*]
   case gr =>
    intro hHeld
    have e0d : wr.drew.cell? ⟨b, off + q * 3, none⟩ = some (.int .i64 x.kind) := e0'
    have e1d : wr.drew.cell? ⟨b, off + q * 3 + 1, none⟩ = some (.string x.name) := e1'
    have e2d : wr.drew.cell? ⟨b, off + q * 3 + 2, none⟩ = some (.int .i64 x.n) := e2'
    have hbd := hb.drew
    have hxd : wr.drew.heap[w.heap.size]? = some (.cells #[.slice (some ⟨b, off, none⟩) n c, .slice B m d, .int .i64 r] 44 (0, 0)) := Hx.out
    have HxD := Lib.hid hxd
    have HRd : Hid (wr.drew.ownsRow w.heap.size 3 1 (.slice (some ⟨gg, 0, none⟩) k c2) k ((ints R').map (Value.int .i64))) := HownR
    have HOd : Hid (wr.drew.ownsRow w.heap.size 66 3 (.slice Ao k1 c1) k1 (flatC out)) := HownO
    have hbrd : b < wr.drew.heap.size := hbr
    have hg2d : gg < wr.drew.heap.size := hg2
    have yld : w.heap.size < wr.drew.heap.size := yl
    clear y0 y1 y2 yl e0' e1' e2' hxd Hx HownR HownO hbr hg2 hb hl0 hI
    generalize wr.drew = V at *
    refine stepH 0 hHeld ?_
    refine stepH 1 hHeld ?_
    refine stepH 2 hHeld ?_
    refine stepH 3 hHeld ?_
    refine stepH 4 hHeld ?_
    refine stepH 5 hHeld ?_
    refine stepH 6 hHeld ?_
    refine stepH 7 hHeld ?_
    refine oneH 8 (fun K hK => ?_)
    go_simp
    go_at_call 64
    refine Hfo.out.mono ?_
    rintro e w2 ⟨rfl, rfl⟩
    try go_simp
    have hHeld8 := hHeld
    refine hK _ _ hHeld8 ?_
    clear hK K hHeld
    have hHeld := hHeld8
    clear hHeld8
    try simp only [Act.put, sA, sZ, sS]
    refine stepH 9 hHeld ?_
    refine wpAnyH_done (by kernel_rfl) ?_ _
    go_upto_region 8 with fail
    obtain ⟨t0, t1⟩ := hHeld
    have hc2p : 0 < c2 := by omega
    obtain ⟨_, curg, hcurg⟩ := own0_typ (.inr HRd.out) hc2p _ rfl
    have hne0 := own_ne HOd.out hcurg (by intro cur he; injection he with f1 f2 f3; exact absurd f2 (by decide))
    have Hne := Lib.hid hne0
    have Hcurg := Lib.hid hcurg
    clear hcurg hne0
    by_cases h200 : k1 = 200
    ·have hb200 : ((k1 : Int) == 200) = true := by simp; omega
     have hno := Hlong.out (by rw [hHlO.out]; exact h200)
     rw [HG.out] at hno
     subst hno
     clear h200
     go_wp2
     refine bodyPost_ret (v := .tuple #[.slice none 0 0, .bool false]) (by simp [results, Tryd.results24, go_sem, *]) rfl ?_
     exact ⟨hbd, rfl⟩
    ·have hb200 : ((k1 : Int) == 200) = false := by simp; omega
     have hk200 : k1 < 200 := by omega
     have HoL : Hid (out.length < 200) := Lib.hid (by rw [hHlO.out]; exact hk200)
     clear h200
     by_cases k1x : x.kind = 1
     ·have kb1 : (x.kind == 1) = true := by simp [k1x]
      by_cases h999 : 999 < q
      ·have hd9 : decide ((999 : Int) < (q : Int)) = true := by simp; omega
       have hno := Hgreat.out k1x h999
       rw [HG.out] at hno
       subst hno
       clear k1x h999
       go_wp2
       refine bodyPost_ret (v := .tuple #[.slice none 0 0, .bool false]) (by simp [results, Tryd.results24, go_sem, *]) rfl ?_
       exact ⟨hbd, rfl⟩
      ·have hd9 : decide ((999 : Int) < (q : Int)) = false := by simp; omega
       have HI2 := Lib.hid (Hvar.out HoL.out k1x (by omega))
       have HW : Hid (C.wf ⟨1, ⟨#[]⟩, ((q : Nat) : Int)⟩) := Lib.hid ⟨by unfold i64; simp, by unfold i64; simp; omega, (by decide : emp.size ≤ maxLen)⟩
       clear k1x h999
       go_upto_region 11 with fail
       refine wp_world' (Φ := fun X => Below V.heap.size V X ∧ X.cell? ⟨V.heap.size, 0, none⟩ = some (.int .i64 x.kind) ∧ X.cell? ⟨V.heap.size, 1, none⟩ = some (.string x.name) ∧ X.cell? ⟨V.heap.size, 2, none⟩ = some (.int .i64 x.n)) ⟨(by repeat (first | assumption | exact Below.refl _ _ | refine Below.drew ?_ | refine below_drewN ?_ _ | refine Below.alloc ?_ ?_ _ | refine Below.setCell ?_ ?_ _ | (apply Below.size; assumption) | (simp; done) | (simp; omega) | (have hz := hb.size; simp; omega) | (have hz := hb.size; omega) | omega)), (by first | (simp [*]; done) | (go_simp; done) | (go_simp; simp [*]; done)), (by first | (simp [*]; done) | (go_simp; done) | (go_simp; simp [*]; done)), (by first | (simp [*]; done) | (go_simp; done) | (go_simp; simp [*]; done))⟩ ?_
       rintro X ⟨hbX, s0, s1, s2⟩
       have HOX := Lib.hid (own_below HOd.out hbX)
       have HRX := Lib.hid (own_below HRd.out hbX)
       have HxX := Lib.hid ((hbX.block w.heap.size yld).trans HxD.out)
       have hcX := (hbX.block gg hg2d).trans Hcurg.out
       have HcX := Lib.hid hcX
       have hgX := block_lt hcX
       have hszX := hbX.size
       have hbwX := hbd.trans (hbX.mono hbd.size)
       have HbwX := Lib.hid hbwX
       have hwX := hbwX.size
       have hyX : w.heap.size < X.heap.size := by omega
       clear hbX hcX hbwX
       go_wp2_with (first
        | (at_builtin; go_must (refine wpList_append_sl rfl (.tmp 79) (.tmp 82) 22 rfl w.heap.size 66 Tryd.underlying22 infoC rfl (by omega) rfl (HOX.out.alloc _) rfl (Sl.lit X _ [.int .i64 1, .string ⟨#[]⟩, .int .i64 (q : Int)] 66 3 1 rfl rfl (by simp [maxLen])) (one3 _ _ _) (by omega) (by omega) (by simp; omega) ?_); intro A3 cap3 w3 hown3 hb3 hgr3 hblk3))
       have hgg3 := grown_block (g := gg) hgr3 (by simp; omega) Hne.out
       have hgw3 := grown_block (g := w.heap.size) hgr3 (by simp; omega) (own_ne HOX.out HxX.out (by intro cur he; injection he with f1 f2 f3; exact absurd f2 (by decide)))
       go_roundg (200 - (k1 + 1))
       case measure => have h1 := Hmu1.out; have h2 := hHlO.out; omega
       case rel =>
        refine ⟨_, R', k1 + 1, cap3, k, c2, A3, some ⟨gg, 0, none⟩, rfl, rfl, by rw [flatC_append]; exact hown3, own_at HRX.out (fun a' ha' => by cases ha'; exact hgg3.trans (alloc_past hgX)), HI2, ?_, ?_, HbwX.out.trans (((Below.refl w.heap.size X).alloc hwX _).trans hb3), ?_⟩
        ·exact Lib.hid (fun c9 hc9 => by
          rcases List.mem_append.1 hc9 with h9 | h9
          ·exact hwf.out c9 h9
          ·simp at h9; subst h9; exact HW.out)
        ·have h1 := Hmu1.out; have h2 := hHlO.out; exact Lib.hid ⟨by simp; omega, by simp at h1 ⊢; omega⟩
        ·exact hgw3.trans ((alloc_past hyX).trans HxX.out)
     ·have kb1 : (x.kind == 1) = false := by simp [k1x]
      by_cases k2x : x.kind = 2
      ·have kb2 : (x.kind == 2) = true := by simp [k2x]
       have HI2 := Lib.hid (Hnum.out HoL.out k2x)
       have HW : Hid (C.wf ⟨2, ⟨#[]⟩, x.n⟩) := Lib.hid ⟨by unfold i64; simp, Hwfx.out.n, (by decide : emp.size ≤ maxLen)⟩
       clear k1x k2x
       go_upto_region 11 with fail
       refine wp_world' (Φ := fun X => Below V.heap.size V X ∧ X.cell? ⟨V.heap.size, 0, none⟩ = some (.int .i64 x.kind) ∧ X.cell? ⟨V.heap.size, 1, none⟩ = some (.string x.name) ∧ X.cell? ⟨V.heap.size, 2, none⟩ = some (.int .i64 x.n)) ⟨(by repeat (first | assumption | exact Below.refl _ _ | refine Below.drew ?_ | refine below_drewN ?_ _ | refine Below.alloc ?_ ?_ _ | refine Below.setCell ?_ ?_ _ | (apply Below.size; assumption) | (simp; done) | (simp; omega) | (have hz := hb.size; simp; omega) | (have hz := hb.size; omega) | omega)), (by first | (simp [*]; done) | (go_simp; done) | (go_simp; simp [*]; done)), (by first | (simp [*]; done) | (go_simp; done) | (go_simp; simp [*]; done)), (by first | (simp [*]; done) | (go_simp; done) | (go_simp; simp [*]; done))⟩ ?_
       rintro X ⟨hbX, s0, s1, s2⟩
       have HOX := Lib.hid (own_below HOd.out hbX)
       have HRX := Lib.hid (own_below HRd.out hbX)
       have HxX := Lib.hid ((hbX.block w.heap.size yld).trans HxD.out)
       have hcX := (hbX.block gg hg2d).trans Hcurg.out
       have HcX := Lib.hid hcX
       have hgX := block_lt hcX
       have hszX := hbX.size
       have hbwX := hbd.trans (hbX.mono hbd.size)
       have HbwX := Lib.hid hbwX
       have hwX := hbwX.size
       have hyX : w.heap.size < X.heap.size := by omega
       clear hbX hcX hbwX
       go_wp2_with (first
        | (at_builtin; go_must (refine wpList_append_sl rfl (.tmp 86) (.tmp 90) 22 rfl w.heap.size 66 Tryd.underlying22 infoC rfl (by omega) rfl (HOX.out.alloc _) rfl (Sl.lit X _ [.int .i64 2, .string ⟨#[]⟩, .int .i64 x.n] 66 3 1 rfl rfl (by simp [maxLen])) (one3 _ _ _) (by omega) (by omega) (by simp; omega) ?_); intro A3 cap3 w3 hown3 hb3 hgr3 hblk3))
       have hgg3 := grown_block (g := gg) hgr3 (by simp; omega) Hne.out
       have hgw3 := grown_block (g := w.heap.size) hgr3 (by simp; omega) (own_ne HOX.out HxX.out (by intro cur he; injection he with f1 f2 f3; exact absurd f2 (by decide)))
       go_roundg (200 - (k1 + 1))
       case measure => have h1 := Hmu1.out; have h2 := hHlO.out; omega
       case rel =>
        refine ⟨_, R', k1 + 1, cap3, k, c2, A3, some ⟨gg, 0, none⟩, rfl, rfl, by rw [flatC_append]; exact hown3, own_at HRX.out (fun a' ha' => by cases ha'; exact hgg3.trans (alloc_past hgX)), HI2, ?_, ?_, HbwX.out.trans (((Below.refl w.heap.size X).alloc hwX _).trans hb3), ?_⟩
        ·exact Lib.hid (fun c9 hc9 => by
          rcases List.mem_append.1 hc9 with h9 | h9
          ·exact hwf.out c9 h9
          ·simp at h9; subst h9; exact HW.out)
        ·have h1 := Hmu1.out; have h2 := hHlO.out; exact Lib.hid ⟨by simp; omega, by simp at h1 ⊢; omega⟩
        ·exact hgw3.trans ((alloc_past hyX).trans HxX.out)
      ·have kb2 : (x.kind == 2) = false := by simp [k2x]
       have k4x : x.kind = 4 := by have := Hqk.out; omega
       have ht4 := ok_top Hokx.out k4x
       obtain ⟨N, hN⟩ : ∃ N : Nat, x.n = N := ⟨x.n.toNat, by omega⟩
       have hN6 : N ≤ 6 := by omega
       have hqN : q + N < n := by have := Hl.out; omega
       have HI2 := Lib.hid (Htop.out HoL.out k4x)
       have HW : Hid (C.wf ⟨3, x.name, x.n⟩) := Lib.hid ⟨by unfold i64; simp, Hwfx.out.n, Hwfx.out.name⟩
       rw [hN] at e2d
       rw [hN] at HI2 HW
       simp only [Int.toNat_natCast] at HI2
       clear k1x k2x k4x ht4 hN Htop Hnum Hvar Hgreat Hlong
       go_upto_region 11 with fail
       refine wp_world' (Φ := fun X => V.heap.size < X.heap.size ∧ Below V.heap.size V X ∧ X.cell? ⟨V.heap.size, 0, none⟩ = some (.int .i64 x.kind) ∧ X.cell? ⟨V.heap.size, 1, none⟩ = some (.string x.name) ∧ X.cell? ⟨V.heap.size, 2, none⟩ = some (.int .i64 (N : Int))) ⟨by simp, (by repeat (first | assumption | exact Below.refl _ _ | refine Below.drew ?_ | refine below_drewN ?_ _ | refine Below.alloc ?_ ?_ _ | refine Below.setCell ?_ ?_ _ | (apply Below.size; assumption) | (simp; done) | (simp; omega) | (have hz := hb.size; simp; omega) | (have hz := hb.size; omega) | omega)), (by first | (simp [*]; done) | (go_simp; done) | (go_simp; simp [*]; done)), (by first | (simp [*]; done) | (go_simp; done) | (go_simp; simp [*]; done)), (by first | (simp [*]; done) | (go_simp; done) | (go_simp; simp [*]; done))⟩ ?_
       rintro X ⟨hVX, hbX, s0, s1, s2⟩
       have HOX := Lib.hid (own_below HOd.out hbX)
       have HRX := Lib.hid (own_below HRd.out hbX)
       have HxX := Lib.hid ((hbX.block w.heap.size yld).trans HxD.out)
       have hcX := (hbX.block gg hg2d).trans Hcurg.out
       have HcX := Lib.hid hcX
       have hgX := block_lt hcX
       have hszX := hbX.size
       have hbwX := hbd.trans (hbX.mono hbd.size)
       have HbwX := Lib.hid hbwX
       have hwX := hbwX.size
       have hyX : w.heap.size < X.heap.size := by omega
       clear hbX hcX hbwX
       have HneV := Lib.hid (fun a' (ha' : Ao = some a') => Nat.ne_of_lt (Own0.lt HOd.out a' ha').2)
       go_upto_region 14 with (first
        | (at_builtin; go_must (refine wpList_append_sl rfl (.tmp 57) (.tmp 63) 22 rfl w.heap.size 66 Tryd.underlying22 infoC rfl (by omega) rfl (HOX.out.alloc _) rfl (Sl.lit X _ [.int .i64 3, .string x.name, .int .i64 (N : Int)] 66 3 1 rfl rfl (by simp [maxLen])) (one3 _ _ _) (by omega) (by omega) (by simp; omega) ?_); intro A3 cap3 w3 hown3 hb3 hgr3 hblk3; have hg9 := grown_block (g := V.heap.size) hgr3 (by simp; omega) HneV.out; have s2' := (World.cell?_of_block (a := ⟨V.heap.size, 2, none⟩) hg9).trans ((World.cell?_alloc_lt X _ ⟨V.heap.size, 2, none⟩ hVX).trans s2)))
       have hgg3 := grown_block (g := gg) hgr3 (by simp; omega) Hne.out
       have hgw3 := grown_block (g := w.heap.size) hgr3 (by simp; omega) (own_ne HOX.out HxX.out (by intro cur he; injection he with f1 f2 f3; exact absurd f2 (by decide)))
       have HR3 := Lib.hid (own_at HRX.out (w' := w3) (fun a' ha' => by cases ha'; exact hgg3.trans (alloc_past hgX)))
       have Hx3 := Lib.hid (hgw3.trans ((alloc_past hyX).trans HxX.out))
       have Hb3 := Lib.hid (HbwX.out.trans (((Below.refl w.heap.size X).alloc hwX _).trans hb3))
       have hgo3 : (w3.ownsRow w.heap.size 66 3 (.slice A3 (k1 + 1) cap3) (k1 + 1) (flatC (out ++ [⟨3, x.name, (N : Int)⟩]))) := by rw [flatC_append]; exact hown3
       have Hgo3 := Lib.hid hgo3
       have hcap3 := (Sl.own hown3 (by omega)).hcap
       have hcap3p : 0 < cap3 := by omega
       clear s0 s1 s2 s2' hgg3 hgw3 hb3 hown3 hgo3 hgr3 hblk3 t0 t1 e0d e1d e2d
       go_loopw [7, 10] (fun rv iv wr => ∃ (i m2 c4 : Nat) (R2 : List Nat) (Ar : Option Addr), i ≤ N ∧ iv = .int .i64 i ∧ rv = .slice Ar m2 c4 ∧ wr.ownsRow w.heap.size 3 1 (.slice Ar m2 c4) m2 ((ints R2).map (Value.int .i64)) ∧ wr.ownsRow w.heap.size 66 3 (.slice A3 (k1 + 1) cap3) (k1 + 1) (flatC (out ++ [⟨3, x.name, (N : Int)⟩])) ∧ Hid (R2 ++ argsRev q i = R' ++ argsRev q N) ∧ m2 + i = k + N ∧ Below w.heap.size w wr ∧ wr.heap[w.heap.size]? = some (.cells #[.slice (some ⟨b, off, none⟩) n c, .slice B m d, .int .i64 r] 44 (0, 0))) (fun _ iv _ => (intOf iv).toNat)
       case atStart => exact ⟨N, k, c2, R', _, Nat.le_refl _, rfl, rfl, HR3.out, Hgo3.out, Lib.hid rfl, by omega, Hb3.out, Hx3.out⟩
       case round =>
        clear HR3 Hgo3 Hb3 Hx3
        obtain ⟨i, m2, c4, R2, Ar2, hi, rfl, rfl, hr4, ho4, hres4, hm4, hb4, hx4⟩ := hrel
        cases i with
        | zero =>
         have hr5 := hres4.out
         simp [argsRev] at hr5
         subst hr5
         have hr4len : (R' ++ argsRev q N).length = m2 := by have := hr4.1; simpa [ints_len] using this
         have Hr4len := Lib.hid hr4len
         clear hr4len
         have Hr4 := Lib.hid hr4
         have Ho4 := Lib.hid ho4
         have Hx4 := Lib.hid hx4
         have Hb4 := Lib.hid hb4
         clear hr4 ho4 hx4 hb4
         go_wp2
         go_roundg (200 - (k1 + 1))
         case measure => have h1 := Hmu1.out; have h2 := hHlO.out; omega
         case rel =>
          refine ⟨_, _, k1 + 1, cap3, m2, c4, A3, Ar2, rfl, rfl, Ho4.out, Hr4.out, HI2, ?_, ?_, Hb4.out, Hx4.out⟩
          ·exact Lib.hid (fun c9 hc9 => by
            rcases List.mem_append.1 hc9 with h9 | h9
            ·exact hwf.out c9 h9
            ·simp at h9; subst h9; exact HW.out)
          ·have h1 := Hmu1.out; have h2 := hHlO.out; have h3 : R'.length + (argsRev q N).length = m2 := (by have := Hr4len.out; simpa using this); have h4 := HkR.out; exact Lib.hid ⟨by simp; omega, by simp at h1 ⊢; omega⟩
        | succ i =>
         have hsumq : IntKind.i64.wrap ((q : Int) + ((i + 1 : Nat) : Int)) = ((q + (i + 1) : Nat) : Int) := by rw [IntWalk.i64_in _ (by omega)]; omega
         have hone : (0 : Int) < ((i + 1 : Nat) : Int) := by omega
         have hsz4 := hb4.size
         have Ho4 := Lib.hid ho4
         have Hx4 := Lib.hid hx4
         have Hb4 := Lib.hid hb4
         have hne4 := Lib.hid (own_ne hr4 hx4 (by intro cur he; injection he with f1 f2 f3; exact absurd f2 (by decide)))
         have Hr4 := Lib.hid hr4
         have hl4 := block_lt hx4
         clear ho4 hx4 hb4 hr4
         go_wp2_with (first
          | (at_builtin; go_must (refine wpList_append_sl rfl (.tmp 71) (.tmp 75) 42 rfl w.heap.size 3 Tryd.underlying42 infoI rfl (by omega) rfl (Hr4.out.alloc _) rfl (Sl.lit wr _ [.int .i64 ((q + (i + 1) : Nat) : Int)] 3 1 1 (by simp) rfl (by simp [maxLen])) (one1 rfl) (by omega) (by omega) (by simp; omega) ?_); intro A5 cap5 w5 hown5 hb5 hgr5 hblk5))
         have ho5 := own_at Ho4.out (w' := w5) (fun a' ha' => by
          obtain ⟨_, cur, hcur⟩ := own0_typ (.inr Ho4.out) hcap3p a' ha'
          exact (grown_block (g := a'.block) hgr5 (by have := block_lt hcur; simp; omega) (own_ne Hr4.out hcur (by intro cur' he; injection he with f1 f2 f3; exact absurd f2 (by decide)))).trans (alloc_past (block_lt hcur)))
         have hx5 := (grown_block (g := w.heap.size) hgr5 (by simp; omega) hne4.out).trans ((alloc_past hl4).trans Hx4.out)
         have hb6 := Hb4.out.trans (((Below.refl w.heap.size wr).alloc hsz4 _).trans hb5)
         go_roundw
         case rel => exact ⟨i, m2 + 1, cap5, R2 ++ [q + (i + 1)], A5, by omega, by go_num, rfl, by rw [ints_append']; exact hown5, ho5, Lib.hid (by simpa [argsRev] using hres4.out), by omega, hb6, hx5⟩
         case measure => simp [intOf]
theorem hGet_out (A B : Option Addr) (n c m d : Nat) (r x : Int) (w : World) (hn : n ≤ 100000) (hx : ¬ (0 ≤ x ∧ x < (n : Int))) :
  Calls Tryd.prog 24 #[.agg #[.slice A n c, .slice B m d, .int .i64 r], .int .i64 x] w (RetGet w none) := by
 have hwi := fun wz => hwithin_any A B n c m d r x wz hn
 have hwb : (decide (0 ≤ x) && decide (x < (n : Int))) = false := by simp; omega
 rw [hwb] at hwi
 have Hwi := Lib.hid hwi
 clear hwi hwb hx
 go_enter Tryd.func24, Tryd.ntmps24
 have hal : Below w.heap.size w (w.alloc (.cells #[.slice A n c, .slice B m d, .int .i64 r] 44)) := (Below.refl _ _).alloc (Nat.le_refl _) _
 go_wp2_with (first
  | (go_at_call 60; go_must (refine (Hwi.out _).mono ?_); rintro e w1 ⟨rfl, hb1⟩; replace hb1 := hal.trans (hb1.mono hal.size)))
 refine bodyPost_ret (v := .tuple #[.slice none 0 0, .bool false]) (by simp [results, Tryd.results24, go_sem, *]) rfl ?_
 exact ⟨hb1, rfl⟩
def getZ (l : List C) (x : Int) : Option (List C) := if 0 ≤ x ∧ x < (l.length : Int) then getF l x.toNat else none
theorem hGet_any (A B : Option Addr) (n c m d : Nat) (r x : Int) (l : List C) (w : World) (h : IsC w A n c l) (hg : Good l) (hn : n ≤ 100000) :
  Calls Tryd.prog 24 #[.agg #[.slice A n c, .slice B m d, .int .i64 r], .int .i64 x] w (RetGet w (getZ l x)) := by
 have hl := h.len
 unfold getZ
 by_cases hx : 0 ≤ x ∧ x < (l.length : Int)
 ·rw [if_pos hx]
  obtain ⟨p, rfl⟩ : ∃ p : Nat, x = p := ⟨x.toNat, by omega⟩
  exact hGet_in A B n c m d r l p w h hg hn (by omega)
 ·rw [if_neg hx]
  exact hGet_out A B n c m d r x w hn (by rw [← hl]; exact hx)
end Go.Proofs.YtgipiplklaeplaaDoor
