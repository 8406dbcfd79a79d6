/- Texts of this proof that belong together: words of memory, plain laws, walks. -/
import Derived.Deep.DeepCutAuto
import Derived.Test.YtgipiplklaeplaaDoorB30
set_option linter.unusedVariables false
set_option linter.unusedSimpArgs false
namespace Go.Proofs.YtgipiplklaeplaaDoor
open Go.RowKit
def clen (w : World) (bm : Nat) : Nat := match w.heap[bm]? with
 | some (Obj.cells cs _ _) => match cs[0]? with
  | some (Value.slice _ n _) => n
  | _ => 0
 | _ => 0
theorem Mk.clen {w : World} {base bm bq : Nat} {s : St} (h : Mk w base bm bq s) : clen w bm = s.code.length := by
 obtain ⟨A, n, cap, hb1, hb2, hm, hcode, hmap⟩ := h.has
 unfold Go.Proofs.YtgipiplklaeplaaDoor.clen
 rw [hm, hcode.len]
 rfl
theorem take_snoc {α : Type} {l : List α} {k : Nat} {x : α} (h : l[k]? = some x) : l.take (k + 1) = l.take k ++ [x] := by
 obtain ⟨hl, he⟩ := List.getElem?_eq_some_iff.1 h
 rw [List.take_succ_eq_append_getElem hl, he]
theorem wp_world {P : Program} {c : Code} {Q : Exit → Act → World → Prop} {a : Act} {w : World} (Φ : World → Prop) (h : Φ w) (k : ∀ X, Φ X → c.wp P Q a X) : c.wp P Q a w := k w h
set_option maxRecDepth 100000 in
set_option maxHeartbeats 8000000 in
theorem mHead_any (W : World) (base bm bq : Nat) (s : St) (T : Tm) (A : Option Addr) (n cap : Nat) (w : World) (hW : IsC W A n cap T.flat) (hbW : Below W.heap.size W w) (hWb : W.heap.size ≤ base)
  (hM : Mk w base bm bq s) (hT : T.ok = true) (hTs : T.size ≤ 200) (hr : s.room (2 * sizes T.args)) :
  Calls Tryd.prog 82 #[.pointer (some ⟨bm, 0, none⟩), .slice A n cap] w (RetMk w base bm bq (headsF (sizes T.args) s (numbered 0 T.args))) := by
 have hpf := parts_flat hT hTs
 have hright := right_flat hT hTs
 have h6 := args_len hT
 have hok := args_ok hT
 have hsz := size_args T
 have hbase := hM.lt
 have hparts := tParts_w W A n cap T.flat w hW hbW hright
 rw [hpf] at hparts
 have Hparts := Lib.hid hparts
 clear hparts hpf hright
 go_enter Tryd.func82, Tryd.ntmps82
 go_wp2_with (first
  | (go_at_call 101; go_must (refine Hparts.out.mono ?_); rintro e w3 ⟨Ap, np, cp, vs, rfl, hlp, hop, hrows, hb3⟩))
 have hsp := Sl.own hop (by omega)
 rw [List.length_map] at hlp
 have Hlp := Lib.hid hlp
 have hnp6 : np ≤ 6 := by omega
 clear hlp
 go_loopw [4, 17] (fun o i wr => ∃ (k : Nat) (Ar : Option Addr) (cr : Nat), k ≤ np ∧ i = .int .i64 k ∧ o = .slice Ar k cr ∧ TailG (RArgW W) 2 wr w3.heap.size 166 Ar k cr (numbered 0 (T.args.take k)) ∧ Below w3.heap.size w3 wr ∧ (∀ a, Ar = some a → w3.heap.size ≤ a.block ∧ a.block < wr.heap.size)) (fun _ i _ => np - (intOf i).toNat)
 case atStart => exact ⟨0, none, 0, Nat.zero_le _, rfl, rfl, TailG.nil _ _ _ _, Below.refl _ _, fun a ha => by cases ha⟩
 case round =>
  obtain ⟨k, Ar, cr, hk, rfl, rfl, hrow, hbr, hAlt⟩ := hrel
  by_cases hlt : k < np
  ·obtain ⟨t, ht⟩ : ∃ t, T.args[k]? = some t := ⟨_, List.getElem?_eq_getElem (by have := Hlp.out; omega)⟩
   obtain ⟨A', n', c', hv, hc⟩ := hrows.2 k t.flat (by rw [List.getElem?_map, ht]; rfl)
   obtain ⟨bp, op_, rfl, hbp, hcp⟩ := hsp.cells (by omega)
   have hcell := (hbr.cell (p := ⟨bp, op_ + k, none⟩) hbp).trans (hcp k _ hv)
   have hcap := hsp.hcap
   obtain ⟨us, u1, u2, htail, u4⟩ := hrow.rows
   have Ht := Lib.hid ht
   have hbw := hb3.size
   have hbs := hbr.size
   clear ht hv hcp
   go_wp2_with (first
    | (at_builtin; go_must (refine wpList_append_tail (xs := us.flatten) rfl (.tmp 22) (.tmp 26) 164 rfl w3.heap.size 166 Tryd.underlying164 infoArgC rfl (by omega) rfl (htail.below ((Below.refl _ _).alloc (Nat.le_refl _) _)) rfl (Sl.blk (cs := #[.slice A' n' c', .int .i64 k]) (t := 166) (alloc_at rfl) rfl (by simp [maxLen])) (by simp [Value.oneCell']) (by omega) (by omega) (by omega) (by simp; omega) ?_); intro A1 cap1 w1 hc1 ht1 hb1 hap))
   have hb4 : Below w3.heap.size w3 w1 := (hbr.alloc hbs _).trans hb1
   go_roundw
   case rel =>
    refine ⟨k + 1, A1, cap1, by omega, by go_num, rfl, ?_, hb4, fun a ha => ?_⟩
    rotate_left
    ·have h1 := hap.blk a ha
     refine ⟨?_, h1.1⟩
     rcases h1.2 with ⟨a0, h2, h3⟩ | h2
     ·rw [h3]; exact (hAlt a0 h2).1
     ·simp at h2; omega
    rw [take_snoc Ht.out, numbered_snoc]
    have hlen : (T.args.take k).length = k := by rw [List.length_take]; have := Hlp.out; omega
    rw [hlen, Nat.zero_add]
    exact TailG.snoc ht1 hrow.len u1 u2 rfl u4 ⟨A', n', c', rfl, hc⟩
   case measure => simp [intOf]; omega
  ·have hkn : k = np := by omega
   subst hkn
   have hrow0 : TailG (RArgW W) 2 wr w3.heap.size 166 Ar k cr (numbered 0 T.args) := by
    have := hrow
    rwa [List.take_of_length_le (by have := Hlp.out; omega)] at this
   clear hrow hlt hrows hsp hop
   have hbw3 : Below w.heap.size w wr := hb3.trans (hbr.mono hb3.size)
   have hM3 := hM.keep hbw3
   have hK3 : Kept w wr bm bq := Kept.below hbw3 hbase.2.1
   have hbs := hb3.size
   have hbs2 := hbr.size
   have hfree0 : ∀ a, Ar = some a → Free wr bm bq a.block := fun a ha => by
    have := hAlt a ha
    refine ⟨this.2, by omega, by omega, ?_⟩
    rw [cblk_same (hbw3.block bm hbase.2.1)]
    exact hM.cblk_lt (by omega)
   have hnum : Hid (headsF (sizes T.args) s (numbered 0 T.args) = headsF (sizes T.args) s (numbered 0 T.args)) := rfl
   have hrok : RowOk (numbered 0 T.args) := fun p hp => by
    obtain ⟨h1, h2, h3⟩ := numbered_mem hp
    have := size_mem h1
    exact ⟨ok_mem hok h1, by omega, h2, by omega⟩
   have hwt := rwt_numbered T.args 0
   have hrs := rsz_numbered T.args 0
   have Hwt := Lib.hid hwt
   have Hrs := Lib.hid hrs
   have Hrok := Lib.hid hrok
   clear hwt hrs hrok
   have hnpr := hrow0.len
   obtain ⟨tot, htot⟩ : ∃ tot, headsF (sizes T.args) s (numbered 0 T.args) = tot := ⟨_, rfl⟩
   have hr' : s.room (rwt (numbered 0 T.args)) := hr.le Hwt.out
   have Hr' := Lib.hid hr'
   have Htot := Lib.hid htot
   clear htot hr' hnum
   go_wp2
   go_loopw [4] (fun o wr => ∃ (fuel : Nat) (row : List (Tm × Int)) (st : St) (Ar : Option Addr) (nr cr : Nat), o = .slice Ar nr cr ∧ TailG (RArgW W) 2 wr w3.heap.size 166 Ar nr cr row ∧ Mk wr base bm bq st ∧ Hid (RowOk row) ∧ Hid (headsF fuel st row = tot) ∧ Hid (rsz row ≤ fuel) ∧ Hid (st.room (rwt row)) ∧ Below base w wr ∧ Kept w wr bm bq ∧ w3.heap.size ≤ wr.heap.size ∧ (∀ a, Ar = some a → Free wr bm bq a.block)) (fun _ wr => 100000 - clen wr bm)
   case atStart => exact ⟨_, _, _, _, _, _, rfl, hrow0, hM3, Hrok, Htot, Lib.hid (Nat.le_of_eq Hrs.out), Hr', hbw3.mono (by omega), hK3, hbs2, hfree0⟩
   case round =>
    clear hrow0 hM3 Hrok Hrs Hr' hbw3 hK3 hfree0 hnpr Hwt hAlt
    obtain ⟨fuel, row, st, Ar, nr, cr, rfl, hrow, hM, hrok, hres, hfuel, hroom, hb, hK, hw3, hfree⟩ := hrel
    have hlen := hrow.len
    cases row with
    | nil =>
     have hn0 : nr = 0 := by simpa using hlen.symm
     subst hn0
     go_wp2
     go_end0
     have := hres.out
     rw [headsF_nil] at this
     exact ⟨rfl, by rw [Htot.out, ← this]; exact hM, hb, hK⟩
    | cons p row =>
     obtain ⟨t, reg⟩ := p
     obtain ⟨ht1, ht2, hrg0, hrg1⟩ := hrok.out (t, reg) (by simp)
     simp only at ht1 ht2 hrg0 hrg1
     obtain ⟨b, off, v, rfl, hbb, hv2, ⟨A', n', c', rfl, hcW⟩, hcells⟩ := (hrow.is (by omega)).at_ (i := 0) rfl
     have d0 := hcells 0 _ rfl
     have d1 := hcells 1 _ rfl
     simp only [Nat.zero_mul, Nat.add_zero] at d0 d1
     obtain ⟨b', off', rfl, hb', e0, e1, e2, hn'⟩ := hcW.tm
     have hWr : Below W.heap.size W wr := hbW.trans ((hb.mono hWb).mono (Nat.le_refl _))
     obtain ⟨hcW', hfW'⟩ := bcell hWr
     have e0' := (hcW' b' off' hb').trans e0
     have e1' := (hcW' b' (off' + 1) hb').trans e1
     have e2' := (hcW' b' (off' + 2) hb').trans e2
     have hlt' : b' < wr.heap.size := Nat.lt_of_lt_of_le hb' hWr.size
     have hnr : nr = row.length + 1 := by simpa using hlen.symm
     have hcapr := (hrow.is (by omega)).cap_le
     have hn0 : (0 : Int) < (nr : Int) := by omega
     have hn0' : (0 : Int) < (n' : Int) := by omega
     simp only at d0 d1 e0' e1' e2' hcW
     clear hcells hcW' hfW' e0 e1 e2 hv2
     go_upto_region 10 with fail
     refine wp_world (Φ := fun X => Below wr.heap.size wr X ∧ wr.heap.size + 2 ≤ X.heap.size ∧ X.heap[wr.heap.size]? = some (.cells #[.slice (some ⟨b', off', none⟩) n' c', .int .i64 reg] 166 (0, 0)) ∧ X.heap[wr.heap.size + 1]? = some (.cells #[.int .i64 t.c0.kind, .string t.c0.name, .int .i64 t.c0.n] 66 (0, 0)))
      ⟨((Below.refl _ _).alloc (Nat.le_refl _) _).alloc (by simp) _, by simp, (alloc_past (by simp)).trans (alloc_at rfl), alloc_at (by simp)⟩ ?_
     rintro X ⟨hbX, hsX, x7, x8⟩
     have hMlt := hM.lt
     have hMX := hM.keep hbX
     have hKX := hK.trans (Kept.below (bm := bm) (bq := bq) hbX hMlt.2.1)
     have hbase2 : base ≤ wr.heap.size := by omega
     have f7 : Free X bm bq wr.heap.size := ⟨by omega, by omega, by omega, by rw [cblk_same (hbX.block bm hMlt.2.1)]; exact hM.cblk_lt (Nat.le_refl _)⟩
     have f8 : Free X bm bq (wr.heap.size + 1) := ⟨by omega, by omega, by omega, by rw [cblk_same (hbX.block bm hMlt.2.1)]; exact hM.cblk_lt (by omega)⟩
     have hrowX := hrow.below (keepsArgW W) hbX
     have hfreeX : ∀ a, some (⟨b, off, none⟩ : Addr) = some a → Free X bm bq a.block := fun a ha => by
      have hf := hfree a ha
      exact ⟨Nat.lt_of_lt_of_le hf.lt hbX.size, hf.m, hf.q, by rw [cblk_same (hbX.block bm hMlt.2.1)]; exact hf.c⟩
     have y71 := cells_of x7 1
     have y70 := cells_of x7 0
     have y80 := cells_of x8 0
     have y81 := cells_of x8 1
     have y82 := cells_of x8 2
     simp at y70 y71 y80 y81 y82
     have hcut := hrowX.cut1
     have hbWX := hb.trans (hbX.mono hbase2)
     have hrm := hroom.out
     obtain ⟨fuel, rfl⟩ : ∃ f, fuel = f + 1 := ⟨fuel - 1, by have := hfuel.out; simp only [rsz] at this; have := t.size_pos; omega⟩
     have hst : st.room (1 + 2 * sizes t.args + rwt row) := hrm.le (by simp only [rwt]; omega)
     have hrok2 := headF_ok ht1 ht2 (hst.le (by simp only; omega)) (s := st) (p := (t, reg))
     have hroom2 := headF_room (s := st) (p := (t, reg)) hst
     have hres2 := hres.out
     rw [headsF_cons] at hres2
     have hfu2 : rsz (row ++ (headF st (t, reg)).2) ≤ fuel := by
      have h1 := hfuel.out
      have h2 := headF_rsz st (t, reg)
      rw [rsz_append]
      simp only [rsz] at h1
      simp only at h2
      omega
     have hrow2 : RowOk row := fun p hp => hrok.out p (by simp [hp])
     have Hhead := Lib.hid (And.intro hrok2 (And.intro hroom2 (And.intro hres2 (And.intro hfu2 hrow2))))
     clear hrok2 hroom2 hres2 hfu2 hrow2 hrm hrok hroom hfuel hres
     have hclen := hM.clen
     have hcode := hst.code
     have hnext := hst.next
     have hvars := hst.vars
     have hfit := hM.fit
     have hnr5 : nr ≤ 100001 := by have := rwt_len row; omega
     have hcutA : (if cr = 1 then (some ⟨b, off, none⟩ : Option Addr) else (some (⟨b, off, none⟩ : Addr)).map (·.add (1 * 2))) = if cr = 1 then some ⟨b, off, none⟩ else some ⟨b, off + 2, none⟩ := by split <;> simp [Addr.add]
     have hblk' : ∀ a : Addr, (if cr = 1 then (some ⟨b, off, none⟩ : Option Addr) else some ⟨b, off + 2, none⟩) = some a → b = a.block := fun a ha => by split at ha <;> cases ha <;> rfl
     have hblk : ∀ a : Addr, (if cr = 1 then (some ⟨b, off, none⟩ : Option Addr) else (some (⟨b, off, none⟩ : Addr)).map (·.add (1 * 2))) = some a → b = a.block := fun a ha => by rw [hcutA] at ha; exact hblk' a ha
     cases t with
     | v m =>
      have hvm : i64 m := (c0_wf ht1).n
      have hvar := mVariable_any base bm bq st m 1 2 X hMX hvm (by omega) (by omega)
      have hreg := regF_reg hfit m (by omega)
      have hcd := regF_code st m
      have hhead : headF st (.v m, reg) = ((regF st m).1.emit { op := if (regF st m).2.2 then 1 else 2, x := (regF st m).2.1, a := reg }, []) := rfl
      have hop : i64 (if (regF st m).2.2 then 1 else 2) := by split <;> exact i64_small (by decide) (by decide)
      rw [hhead] at Hhead
      clear hhead
      generalize (if (regF st m).2.2 then (1 : Int) else 2) = op at *
      generalize (regF st m).2.1 = rg at *
      generalize (regF st m).1 = s1 at *
      simp only [Tm.c0] at y80 y81 y82
      go_wp2_with (first
       | (go_at_call 103; go_must (refine hvar.mono ?_); rintro e w1 ⟨rfl, hM1, hb1, hk1⟩; have y71' := cells_of ((hk1.free _ f7).1.trans x7) 1; simp at y71')
       | (go_at_call 84; go_must (refine (mEmit_any base bm bq s1 { op := op, x := rg, a := reg } _ hM1 (wfI hop (i64_small (by omega) (by omega)) (i64_small (by omega) (by omega)) i64_0 empty_size) (by rw [hcd]; omega)).mono ?_); rintro e w2 ⟨rfl, hM2, hb2, hk2⟩))
      have hkk := hk1.trans hk2
      have hbb2 := hb1.trans hb2
      have hlen2 : (s1.emit { op := op, x := rg, a := reg }).code.length = st.code.length + 1 := by simp [St.emit, hcd]
      go_roundw
      case rel => exact ⟨fuel, row, _, _, row.length, cr - 1, rfl, (by have := hcut.at_ (fun _ _ _ _ h => h) (w' := w2) (fun a ha => (hkk.free a.block (hblk a ha ▸ hfreeX _ rfl)).1); rw [hcutA, hnr] at this; exact this), hM2, Lib.hid Hhead.out.2.2.2.2, Lib.hid (by have := Hhead.out.2.2.1; simpa using this), Lib.hid (by have := Hhead.out.2.2.2.1; simpa using this), Lib.hid (by have := Hhead.out.2.1; simpa [rwt] using this), hbWX.trans hbb2, hKX.trans hkk, (by have := hbX.size; have := hbb2.size; omega), fun a ha => (hkk.free a.block (hblk' a ha ▸ hfreeX _ rfl)).2⟩
      case measure => have h1 := hM2.clen; have h2 := hM2.fit.code; rw [h1, hclen]; omega
     | i m =>
      have hvm : i64 m := (c0_wf ht1).n
      have hhead : headF st (.i m, reg) = (st.emit { op := 3, a := reg, n := m }, []) := rfl
      rw [hhead] at Hhead
      clear hhead
      simp only [Tm.c0] at y80 y81 y82
      go_wp2_with (first
       | (go_at_call 84; go_must (refine (mEmit_any base bm bq st { op := 3, a := reg, n := m } _ hMX (wfI (i64_small (by decide) (by decide)) i64_0 (i64_small (by omega) (by omega)) hvm empty_size) (by omega)).mono ?_); rintro e w2 ⟨rfl, hM2, hbb2, hkk⟩))
      have hlen2 : (st.emit { op := 3, a := reg, n := m }).code.length = st.code.length + 1 := by simp [St.emit]
      go_roundw
      case rel => exact ⟨fuel, row, _, _, row.length, cr - 1, rfl, (by have := hcut.at_ (fun _ _ _ _ h => h) (w' := w2) (fun a ha => (hkk.free a.block (hblk a ha ▸ hfreeX _ rfl)).1); rw [hcutA, hnr] at this; exact this), hM2, Lib.hid Hhead.out.2.2.2.2, Lib.hid (by have := Hhead.out.2.2.1; simpa using this), Lib.hid (by have := Hhead.out.2.2.2.1; simpa using this), Lib.hid (by have := Hhead.out.2.1; simpa [rwt] using this), hbWX.trans hbb2, hKX.trans hkk, (by have := hbX.size; have := hbb2.size; omega), fun a ha => (hkk.free a.block (hblk' a ha ▸ hfreeX _ rfl)).2⟩
      case measure => have h1 := hM2.clen; have h2 := hM2.fit.code; rw [h1, hclen]; omega
     | f nm us =>
      have hk3 : (Tm.f nm us).c0.kind = 3 := rfl
      have hhead := headF_fun st (.f nm us) reg hk3
      have hw := c0_wf ht1
      have hpf := parts_flat ht1 ht2
      have hright := right_flat ht1 ht2
      have h6' := args_len ht1
      have hoku := args_ok ht1
      have hsz' := size_args (Tm.f nm us)
      simp only [Tm.c0, Tm.args] at hhead hpf h6' hoku hsz' hst
      obtain ⟨st1, hst1⟩ : ∃ st1, st.emit { op := 4, a := reg, name := nm, n := us.length } = st1 := ⟨_, rfl⟩
      rw [hst1] at hhead
      rw [hhead] at Hhead
      have hroom1 : st1.room (2 * sizes us) := by rw [← hst1]; exact room_emit _ (hst.le (by omega))
      have hc1 : st1.code.length = st.code.length + 1 := by rw [← hst1]; simp [St.emit]
      have Hroom1 := Lib.hid hroom1
      clear hhead hroom1
      simp only [Tm.c0] at y80 y81 y82
      go_wp2_with (first
       | (go_at_call 84; go_must (refine (mEmit_any base bm bq st { op := 4, a := reg, name := nm, n := us.length } _ hMX (wfI (i64_small (by decide) (by decide)) i64_0 (i64_small (by omega) (by omega)) hw.n hw.name) (by omega)).mono ?_); rw [hst1]; rintro e w1 ⟨rfl, hM1, hb1, hk1⟩; have y70' := cells_of ((hk1.free _ f7).1.trans x7) 0; simp at y70'; have hb5 := hbWX.trans hb1)
       | (go_at_call 101; go_must (refine (tParts_w W _ n' c' (Tm.f nm us).flat w1 hcW (hbW.trans (hb5.mono hWb)) hright).mono ?_); rw [hpf]; rintro e w4 ⟨Ap2, np2, cp2, vs2, rfl, hlp2, hop2, hrows2, hb4⟩))
      rw [List.length_map] at hlp2
      have Hlp2 := Lib.hid hlp2
      have hnp26 : np2 ≤ 6 := by omega
      have hM1lt := hM1.lt
      have hM4 := hM1.keep hb4
      have hK4 := (hKX.trans hk1).trans (Kept.below (bm := bm) (bq := bq) hb4 hM1lt.2.1)
      have hsp2 := Sl.own hop2 (by omega)
      have hrow4 := ((hrowX.at_ (fun _ _ _ _ h => h) (w' := w1) (fun a ha => (hk1.free a.block (hfreeX a ha)).1)).below (keepsArgW W) hb4)
      have hfree4 : ∀ a, some (⟨b, off, none⟩ : Addr) = some a → Free w4 bm bq a.block := fun a ha => ((Kept.below (bm := bm) (bq := bq) hb4 hM1lt.2.1).free _ (hk1.free _ (hfreeX a ha)).2).2
      have hfp : ∀ a, Ap2 = some a → w1.heap.size ≤ a.block ∧ Free w4 bm bq a.block := fun a ha => by
       have hl := Own0.lt hop2 a ha
       exact ⟨hl.1, hl.2, by omega, by omega, by rw [cblk_same (hb4.block bm hM1lt.2.1)]; exact hM1.cblk_lt hl.1⟩
      have hbb1 : b < w1.heap.size := Nat.lt_of_lt_of_le hbb (Nat.le_trans hbX.size hb1.size)
      have hb6 := hb5.trans (hb4.mono (by omega))
      have hsz4 : w3.heap.size ≤ w4.heap.size := by have := hbX.size; have := hb1.size; have := hb4.size; omega
      have hlow : ∀ a, some (⟨b, off, none⟩ : Addr) = some a → w3.heap.size ≤ a.block ∧ a.block < w1.heap.size := fun a ha => by
       cases ha
       obtain ⟨us', _, _, htl, _⟩ := hrow.rows
       exact ⟨(htl.lt (by omega) _ rfl).1, hbb1⟩
      clear hlp2 hop2 hrowX hfreeX hM1 hk1 hcut hblk hblk' hcutA hMX hKX x7 x8 f7 f8 hfree
      obtain ⟨UX, hUX⟩ : ∃ UX, unisF st1 us = UX := ⟨_, rfl⟩
      rw [hUX] at Hhead
      have hstart : (unisF st1 (us.drop 0)).1 = UX.1 ∧ ((.f nm us, reg) :: row) ++ (unisF st1 (us.drop 0)).2 = ((.f nm us, reg) :: row) ++ UX.2 := by rw [List.drop_zero, hUX]; exact ⟨rfl, rfl⟩
      have Hstart := Lib.hid hstart
      clear hstart hUX
      go_loopw [4, 56] (fun o i wr => ∃ (j : Nat) (st2 : St) (Ar2 : Option Addr) (nr2 cr2 : Nat) (rw2 : List (Tm × Int)), j ≤ np2 ∧ i = .int .i64 j ∧ o = .slice Ar2 nr2 cr2 ∧ nr2 ≤ nr + j ∧ TailG (RArgW W) 2 wr w3.heap.size 166 Ar2 nr2 cr2 rw2 ∧ Mk wr base bm bq st2 ∧
       Hid ((unisF st2 (us.drop j)).1 = UX.1 ∧ rw2 ++ (unisF st2 (us.drop j)).2 = ((.f nm us, reg) :: row) ++ UX.2) ∧ Hid (st2.room (2 * sizes (us.drop j))) ∧ st.code.length + 1 ≤ st2.code.length ∧ Below base w wr ∧ Kept w wr bm bq ∧ w4.heap.size ≤ wr.heap.size ∧
       (∀ a, Ar2 = some a → Free wr bm bq a.block ∧ w3.heap.size ≤ a.block ∧ ∀ a', Ap2 = some a' → a.block ≠ a'.block) ∧ (∀ a, Ap2 = some a → wr.heap[a.block]? = w4.heap[a.block]? ∧ Free wr bm bq a.block)) (fun _ i _ => np2 - (intOf i).toNat)
      case atStart => exact ⟨0, st1, _, row.length + 1, _, _, Nat.zero_le _, rfl, rfl, by omega, by rw [← hnr]; exact hrow4, hM4, Hstart, by simpa using Hroom1, by omega, hb6, hK4, Nat.le_refl _, fun a ha => ⟨hfree4 a ha, (hlow a ha).1, fun a' ha' => by have := (hlow a ha).2; have := (hfp a' ha').1; omega⟩, fun a ha => ⟨rfl, (hfp a ha).2⟩⟩
      case round =>
       clear hrow hrow4 hM4 hM1lt hb6 hK4 hfree4 hlow Hstart hM Hroom1
       obtain ⟨j, st2, Ar2, nr2, cr2, rw2, hj, rfl, rfl, hnr2, hrow2, hM2, hres2, hroom2, hcl2, hb2, hK2, hsz2, hfree2, hfp2⟩ := hrel
       by_cases hlt2 : j < np2
       ·obtain ⟨t2, ht2'⟩ : ∃ t2, us[j]? = some t2 := ⟨_, List.getElem?_eq_getElem (by have := Hlp2.out; omega)⟩
        have hd := drop_get ht2'
        have hok2 := ok_mem hoku (List.mem_of_getElem? ht2')
        have hsz2' := size_mem (List.mem_of_getElem? ht2')
        obtain ⟨A5, n5, c5, hv5, hc5⟩ := hrows2.2 j t2.flat (by rw [List.getElem?_map, ht2']; rfl)
        obtain ⟨bp, op_, rfl, hbp, hcp⟩ := hsp2.cells (by omega)
        have hcell5 := (World.cell?_of_block (a := ⟨bp, op_ + j, none⟩) (hfp2 _ rfl).1).trans (hcp j _ hv5)
        have hbp2 := (hfp2 _ rfl).2.lt
        have hcap5 := hsp2.hcap
        obtain ⟨b5, off5, rfl, hb5', g0, g1, g2, hn5⟩ := hc5.tm
        have hWr2 : Below W.heap.size W wr := hbW.trans (hb2.mono hWb)
        obtain ⟨hcW5, _⟩ := bcell hWr2
        have g0' := (hcW5 b5 off5 hb5').trans g0
        have g1' := (hcW5 b5 (off5 + 1) hb5').trans g1
        have g2' := (hcW5 b5 (off5 + 2) hb5').trans g2
        have hlt5 : b5 < wr.heap.size := Nat.lt_of_lt_of_le hb5' hWr2.size
        have hn05 : (0 : Int) < (n5 : Int) := by omega
        have Hd := Lib.hid hd
        clear hd ht2' hcp hcW5 g0 g1 g2 hv5
        simp only at hbp2
        have hM2lt := hM2.lt
        have hbw2 : base ≤ wr.heap.size := by omega
        by_cases hk : t2.c0.kind = 3
        ·have hbk : (t2.c0.kind != 3) = false := by simp [hk]
         have hun := unisF_fun st2 t2 (us.drop (j + 1)) hk
         have hr2 := hroom2.out
         rw [Hd.out, sizes_cons, size_args] at hr2
         have hr2n := hr2.next
         have hr2c := hr2.code
         have hsame : (st2.bump.emit { op := 5, x := st2.next }) = (st2.emit { op := 5, x := st2.next }).bump := rfl
         obtain ⟨st3, hst3⟩ : ∃ st3, (st2.emit { op := 5, x := st2.next }).bump = st3 := ⟨_, rfl⟩
         have hroom3 : st3.room (2 * sizes (us.drop (j + 1))) := by rw [← hst3]; exact room_fresh _ (hr2.le (by omega))
         have hcl3 : st3.code.length = st2.code.length + 1 := by rw [← hst3]; simp [St.emit, St.bump]
         rw [hst3] at hun hsame
         have Hroom3 := Lib.hid hroom3
         have Hun := Lib.hid hun
         obtain ⟨vs6, v61, v62, htl6, v64⟩ := hrow2.rows
         have hnx : (st2.next : Int) ≤ 100000 := by omega
         clear hroom3 hun hr2
         go_wp2_with (first
          | (go_at_call 105; go_must (refine (mFresh_any base bm bq st2 wr hM2 (by omega)).mono ?_); rintro e w5 ⟨rfl, hM5, hb5, hk5⟩)
          | (go_at_call 84; go_must (refine (mEmit_any base bm bq st2.bump { op := 5, x := st2.next } w5 hM5 (wfI (i64_small (by decide) (by decide)) (i64_small (by omega) (by omega)) i64_0 i64_0 empty_size) (by simp [St.bump]; omega)).mono ?_); rw [hsame]; rintro e w6 ⟨rfl, hM6, hb6, hk6⟩; have hk56 := hk5.trans hk6; have htl6' := htl6.at_ (w' := w6) (fun a ha => (hk56.free a.block (hfree2 a ha).1).1))
          | (at_builtin; go_must (refine wpList_append_tail (xs := vs6.flatten) rfl (.tmp 76) (.tmp 80) 164 rfl w3.heap.size 166 Tryd.underlying164 infoArgC rfl (by omega) rfl (htl6'.below ((Below.refl _ _).alloc (Nat.le_refl _) _)) rfl (Sl.blk (cs := #[.slice (some ⟨b5, off5, none⟩) n5 c5, .int .i64 st2.next]) (t := 166) (alloc_at rfl) rfl (by simp [maxLen])) (by simp [Value.oneCell']) (by omega) (by omega) (by omega) (by have := hb5.size; have := hb6.size; simp; omega) ?_); intro A7 cap7 w7 hc7 ht7 hb7 hap7))
         have hfree6 : ∀ a, Ar2 = some a → Free w6 bm bq a.block := fun a ha => (hk56.free a.block (hfree2 a ha).1).2
         have hM6' := hM6.keep ((Below.refl _ _).alloc (Nat.le_refl _) (.cells #[.slice (some ⟨b5, off5, none⟩) n5 c5, .int .i64 st2.next] 166))
         have hKal : Kept w6 (w6.alloc (.cells #[.slice (some ⟨b5, off5, none⟩) n5 c5, .int .i64 st2.next] 166)) bm bq := Kept.below ((Below.refl _ _).alloc (Nat.le_refl _) _) hM6.lt.2.1
         have hfree6' : ∀ a, Ar2 = some a → Free (w6.alloc (.cells #[.slice (some ⟨b5, off5, none⟩) n5 c5, .int .i64 st2.next] 166)) bm bq a.block := fun a ha => (hKal.free _ (hfree6 a ha)).2
         have hM7 := (hM6'.apart hap7 hfree6').1
         have hfree7 := free_apart hM6' hap7 hfree6'
         have hlow7 : ∀ a, Ar2 = some a → w.heap.size ≤ a.block := fun a ha => by have := (hfree2 a ha).2.1; omega
         have hK7 := Kept.apart ((hK2.trans hk56).trans hKal) hM6' hap7 hfree6' hlow7
         have hs6 : wr.heap.size ≤ w6.heap.size := Nat.le_trans hb5.size hb6.size
         have hb8 : Below base w w7 := (hb2.trans (hb5.trans hb6)).trans (Below.trans ((Below.refl _ _).alloc (by omega) _) (hb7.mono (by omega)))
         have hs7 := hap7.size
         simp at hs7
         go_roundw
         case rel =>
          refine ⟨j + 1, st3, A7, nr2 + 1, cap7, rw2 ++ [(t2, (st2.next : Int))], by omega, by go_num, rfl, by omega, TailG.snoc ht7 hrow2.len v61 v62 rfl (fun i x v hx hv => v64 i x v hx hv) ⟨_, _, _, rfl, hc5⟩, hM7, Lib.hid ?_, Hroom3, by omega, hb8, hK7, by omega, fun a ha => ⟨hfree7 a ha, ?_, fun a' ha' => ?_⟩, fun a ha => ?_⟩
          ·have h1 := hres2.out
           rw [Hd.out, Hun.out] at h1
           exact ⟨h1.1, by rw [← h1.2]; simp⟩
          ·rcases (hap7.blk a ha).2 with ⟨a0, h0, he⟩ | h2
           ·rw [he]; exact (hfree2 a0 h0).2.1
           ·simp at h2; omega
          ·have hp := hfp2 a' ha'
           rcases (hap7.blk a ha).2 with ⟨a0, h0, he⟩ | h2
           ·rw [he]; exact (hfree2 a0 h0).2.2 a' ha'
           ·have := hp.2.lt; simp at h2; omega
          ·have hp := hfp2 a ha
           have h3 := hk56.free _ hp.2
           have h4 := hKal.free _ h3.2
           have hne : ∀ a0, Ar2 = some a0 → a0.block ≠ a.block := fun a0 h0 => (hfree2 a0 h0).2.2 a ha
           have h5 := hap7.old _ h4.2.lt hne
           refine ⟨h5.trans (h4.1.trans (h3.1.trans hp.1)), ⟨Nat.lt_of_lt_of_le h4.2.lt hap7.size, h4.2.m, h4.2.q, by rw [(hM6'.apart hap7 hfree6').2]; exact h4.2.c⟩⟩
         case measure => simp [intOf]; omega
        ·have hbk : (t2.c0.kind != 3) = true := by simp [hk]
         have hun := unisF_one st2 t2 (us.drop (j + 1)) hk
         have hr2 := hroom2.out
         rw [Hd.out, sizes_cons, size_args] at hr2
         obtain ⟨st3, hst3⟩ : ∃ st3, oneF 5 6 7 st2 t2 = st3 := ⟨_, rfl⟩
         have hroom3 : st3.room (2 * sizes (us.drop (j + 1))) := by rw [← hst3]; exact room_one _ _ _ _ (hr2.le (by omega))
         have hcl3 : st2.code.length ≤ st3.code.length := by rw [← hst3]; exact oneF_code _ _ _ _ _
         rw [hst3] at hun
         have Hroom3 := Lib.hid hroom3
         have Hun := Lib.hid hun
         have hone := mOne_any base bm bq st2 t2 5 6 7 wr hM2 hok2 hk (hr2.le (by omega)) (i64_small (by decide) (by decide)) (i64_small (by decide) (by decide)) (i64_small (by decide) (by decide))
         rw [hst3] at hone
         have Hone := Lib.hid hone
         clear hroom3 hun hr2 hone hst3
         go_wp2_with (first
          | (go_at_call 104; go_must (refine Hone.out.mono ?_); rintro e w5 ⟨rfl, hM5, hb5, hk5⟩))
         go_roundw
         case rel =>
          refine ⟨j + 1, st3, Ar2, nr2, cr2, rw2, by omega, by go_num, rfl, by omega, hrow2.at_ (fun _ _ _ _ h => h) (fun a ha => (hk5.free a.block (hfree2 a ha).1).1), hM5, Lib.hid ?_, Hroom3, by omega, hb2.trans hb5, hK2.trans hk5, by have := hb5.size; omega, fun a ha => ⟨(hk5.free _ (hfree2 a ha).1).2, (hfree2 a ha).2⟩, fun a ha => ?_⟩
          ·have h1 := hres2.out
           rw [Hd.out, Hun.out] at h1
           exact h1
          ·have hp := hfp2 a ha
           have h3 := hk5.free _ hp.2
           exact ⟨h3.1.trans hp.1, h3.2⟩
         case measure => simp [intOf]; omega
       ·have hend : (unisF st2 (us.drop j)) = (st2, []) := by rw [drop_end Hlp2.out hlt2]; rfl
        have h1 := hres2.out
        rw [hend] at h1
        obtain ⟨e1, e2⟩ := h1
        simp only [List.append_nil] at e1 e2
        have hlen9 := hrow2.len
        have hn29 : nr2 = row.length + UX.2.length + 1 := by rw [← hlen9, e2]; simp
        subst e1
        have hrow9 : TailG (RArgW W) 2 wr w3.heap.size 166 Ar2 nr2 cr2 ((.f nm us, reg) :: (row ++ UX.2)) := by rw [e2] at hrow2; exact hrow2
        have hcut9 := hrow9.cut1
        obtain ⟨b9, off9, v9, rfl, hb9, hv9, _, _⟩ := (hrow9.is (by omega)).at_ (i := 0) rfl
        have hcap9 := (hrow9.is (by omega)).cap_le
        have hcutA : (if cr2 = 1 then (some ⟨b9, off9, none⟩ : Option Addr) else (some (⟨b9, off9, none⟩ : Addr)).map (·.add (1 * 2))) = if cr2 = 1 then some ⟨b9, off9, none⟩ else some ⟨b9, off9 + 2, none⟩ := by split <;> simp [Addr.add]
        have hblk' : ∀ a : Addr, (if cr2 = 1 then (some ⟨b9, off9, none⟩ : Option Addr) else some ⟨b9, off9 + 2, none⟩) = some a → b9 = a.block := fun a ha => by split at ha <;> cases ha <;> rfl
        have hf9 := hfree2 _ rfl
        have hcl9 := hM2.clen
        have hfc9 := hM2.fit.code
        have hn9 : (1 : Int) ≤ (nr2 : Int) := by omega
        have Hn29 := Lib.hid hn29
        clear hrow2 hres2 hrow9 hlen9 hend hv9
        go_wp2
        go_roundw
        case rel =>
         refine ⟨fuel, row ++ UX.2, UX.1, _, nr2 - 1, cr2 - 1, ?_, by rw [hcutA] at hcut9; exact hcut9, hM2, Lib.hid (RowOk.append Hhead.out.2.2.2.2 Hhead.out.1), Lib.hid Hhead.out.2.2.1, Lib.hid Hhead.out.2.2.2.1, Lib.hid ?_, hb2, hK2, by omega, fun a ha => by have := hblk' a ha; subst this; exact hf9.1⟩
         ·first | rfl | (congr 1; omega) | (simp; omega)
         ·have := Hhead.out.2.1
          exact this.le (by rw [rwt_append]; omega)
        case measure => rw [hcl9, hclen]; omega
end Go.Proofs.YtgipiplklaeplaaDoor
