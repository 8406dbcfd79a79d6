/- Texts of this proof that belong together: words of memory, plain laws, walks. -/
import Derived.Deep.DeepCutAuto
import Derived.Laws.EntriesVeiled
import Derived.StillTailTactics
import Derived.Test.YtgipiplklaeplaaDoorB30
import Derived.Test.YtgipiplklaeplaaDoorB32
set_option linter.unusedVariables false
set_option linter.unusedSimpArgs false
namespace Go.Proofs.YtgipiplklaeplaaDoor
open Go.RowKit
structure Caught (w : World) (bm bq bt bp : Nat) : Prop where
 ft : Free w bm bq bt
 fp : Free w bm bq bp
 ct : w.cell? ⟨bt, 0, none⟩ = some (.func (.func 106) #[] #[.pointer (some ⟨bt, 0, none⟩), .pointer (some ⟨bp, 0, none⟩)])
 cp : w.cell? ⟨bp, 0, none⟩ = some (.pointer (some ⟨bm, 0, none⟩))
theorem Caught.kept {w w' : World} {bm bq bt bp : Nat} (h : Caught w bm bq bt bp) (hk : Kept w w' bm bq) : Caught w' bm bq bt bp := by
 have h1 := hk.free _ h.ft
 have h2 := hk.free _ h.fp
 exact ⟨h1.2, h2.2, (World.cell?_of_block (a := ⟨bt, 0, none⟩) h1.1).trans h.ct, (World.cell?_of_block (a := ⟨bp, 0, none⟩) h2.1).trans h.cp⟩
def RetBd (W w : World) (base bm bq : Nat) (st : St) (t : Tm) (e : Ending) (w' : World) : Prop := RetMkV w base bm bq (buildF st t).1 (.int .i64 (buildF st t).2) e w'
theorem Kept.put {w w' : World} {base bm bq b : Nat} {s : St} (h : Mk w base bm bq s) (hf : Free w bm bq b) (hg : w.grownBy w' (some b)) : Mk w' base bm bq s ∧ (∀ g, g ≠ b → Free w bm bq g → w'.heap[g]? = w.heap[g]? ∧ Free w' bm bq g) ∧ Free w' bm bq b := by
 have hap := Apart.one hg
 have hfr : ∀ a, some (⟨b, 0, none⟩ : Addr) = some a → Free w bm bq a.block := fun a ha => by cases ha; exact hf
 have hm := h.apart hap hfr
 refine ⟨hm.1, fun g hne hgf => ⟨hg.block g hgf.lt (by simpa using hne), ⟨Nat.lt_of_lt_of_le hgf.lt hg.size, hgf.m, hgf.q, by rw [hm.2]; exact hgf.c⟩⟩, ⟨Nat.lt_of_lt_of_le hf.lt hg.size, hf.m, hf.q, by rw [hm.2]; exact hf.c⟩⟩
set_option maxRecDepth 100000 in
set_option maxHeartbeats 8000000 in
theorem mBuild_any (W : World) (base bm bq bt bp : Nat) (hWb : W.heap.size ≤ base) (N : Nat) : ∀ (st : St) (T : Tm) (A : Option Addr) (n cap : Nat) (w : World), T.size ≤ N → T.c0.kind = 3 → IsC W A n cap T.flat → Below W.heap.size W w →
  Mk w base bm bq st → T.ok = true → T.size ≤ 200 → st.room (bwt T) → Caught w bm bq bt bp →
  Calls Tryd.prog 106 #[.slice A n cap, .pointer (some ⟨bt, 0, none⟩), .pointer (some ⟨bp, 0, none⟩)] w (RetBd W w base bm bq st T) := by
 induction N with
 | zero => intro st T A n cap w hN; have := T.size_pos; omega
 | succ N ih =>
  intro st T A n cap w hN hk3 hW hbW hM hT hTs hr hC
  have Ih := Lib.hid ih
  clear ih
  have hmm := @run_makeMap Tryd.prog
  have hMlt := hM.lt
  have hpf := parts_flat hT hTs
  have hright := right_flat hT hTs
  have h6 := args_len hT
  have hok := args_ok hT
  have hsz := size_args T
  have hw0 := c0_wf hT
  have hal : Below w.heap.size w (w.alloc (.map #[] 0)) := (Below.refl _ _).alloc (Nat.le_refl _) _
  have hparts := tParts_w W A n cap T.flat (w.alloc (.map #[] 0)) hW (hbW.trans (hal.mono hbW.size)) hright
  rw [hpf] at hparts
  have Hparts := Lib.hid hparts
  have hbu := buildF_fun st T hk3
  have hbw : bwt T = 1 + 2 * sizes T.args := by simp [bwt, hk3]
  rw [hbw] at hr
  have Hr := Lib.hid hr
  have Hbu := Lib.hid hbu
  obtain ⟨b0, off0, rfl, hb0, e0, e1, e2, hn0⟩ := hW.tm
  have hn0' : (0 : Int) < (n : Int) := by omega
  clear hparts hpf hright hbu hr
  go_enter Tryd.func106, Tryd.ntmps106
  go_wp2_with (first
   | (go_at_call 101; go_must (refine Hparts.out.mono ?_); rintro e w3 ⟨Ap, np, cp, vs, rfl, hlp, hop, hrows, hb3⟩))
  have hsp := Sl.own hop (by omega)
  rw [List.length_map] at hlp
  have Hlp := Lib.hid hlp
  have hnp6 : np ≤ 6 := by omega
  have hmade := (MapI.made w Tryd.prog 3).below hb3
  have hb4 : Below w.heap.size w w3 := hal.trans (hb3.mono hal.size)
  have hM3 := hM.keep hb4
  have hK3 : Kept w w3 bm bq := Kept.below hb4 hMlt.2.1
  have hsz3 : w.heap.size + 1 ≤ w3.heap.size := by have := hb3.size; simpa using this
  have hfb : Free w3 bm bq w.heap.size := ⟨by omega, by omega, by omega, by rw [cblk_same (hb4.block bm hMlt.2.1)]; exact hM.cblk_lt (Nat.le_refl _)⟩
  have hfp : ∀ a, Ap = some a → a.block ≠ w.heap.size ∧ Free w3 bm bq a.block := fun a ha => by
   have hl := Own0.lt hop a ha
   simp at hl
   exact ⟨by omega, hl.2, by omega, by omega, by rw [cblk_same (hb4.block bm hMlt.2.1)]; exact hM.cblk_lt (by omega)⟩
  have hstart : (argsF st (T.args.drop 0)).1 = (argsF st T.args).1 ∧ [] ++ (argsF st (T.args.drop 0)).2 = (argsF st T.args).2 := by simp
  have Hstart := Lib.hid hstart
  have hwts := bwts_le T.args
  clear hlp hop hstart
  go_loopw [19] (fun i wr => ∃ (j : Nat) (s2 : St) (acc : List Int), j ≤ np ∧ i = .int .i64 j ∧ acc.length = j ∧ (∀ x ∈ acc, i64 x) ∧ Mk wr base bm bq s2 ∧ MapI Tryd.prog 3 wr w.heap.size (belowL 0 (T.args.take j) acc) ∧
   Hid ((argsF s2 (T.args.drop j)).1 = (argsF st T.args).1 ∧ acc ++ (argsF s2 (T.args.drop j)).2 = (argsF st T.args).2) ∧ Hid (s2.room (bwts (T.args.drop j) + (T.args.length + 1))) ∧ Below base w wr ∧ Kept w wr bm bq ∧ w3.heap.size ≤ wr.heap.size ∧ Free wr bm bq w.heap.size ∧
   (∀ a, Ap = some a → wr.heap[a.block]? = w3.heap[a.block]? ∧ Free wr bm bq a.block)) (fun i _ => np - (intOf i).toNat)
  case atStart => exact ⟨0, st, [], Nat.zero_le _, rfl, rfl, by simp, hM3, hmade, Hstart, Lib.hid (Hr.out.le (by simp; omega)), hb4.mono (by omega), hK3, Nat.le_refl _, hfb, fun a ha => ⟨rfl, (hfp a ha).2⟩⟩
  case round =>
   clear hM3 hmade Hstart hK3 hfb
   obtain ⟨j, s2, acc, hj, rfl, hacc, haw, hM2, hmap, hres, hroom, hb2, hK2, hs2, hfb2, hfp2⟩ := hrel
   by_cases hlt : j < np
   ·obtain ⟨t2, ht2⟩ : ∃ t2, T.args[j]? = some t2 := ⟨_, List.getElem?_eq_getElem (by have := Hlp.out; omega)⟩
    have hd := drop_get ht2
    have hok2 := ok_mem hok (List.mem_of_getElem? ht2)
    have hsz2 := size_mem (List.mem_of_getElem? ht2)
    obtain ⟨A5, n5, c5, hv5, hc5⟩ := hrows.2 j t2.flat (by rw [List.getElem?_map, ht2]; rfl)
    obtain ⟨bpp, op_, rfl, hbp, hcp⟩ := hsp.cells (by omega)
    have hcell5 := (World.cell?_of_block (a := ⟨bpp, op_ + j, none⟩) (hfp2 _ rfl).1).trans (hcp j _ hv5)
    have hbp2 := (hfp2 _ rfl).2.lt
    have hcap5 := hsp.hcap
    obtain ⟨b5, off5, rfl, hb5', g0, g1, g2, hn5⟩ := hc5.tm
    have hWr2 : Below W.heap.size W wr := hbW.trans (hb2.mono hWb)
    obtain ⟨hcW5, _⟩ := bcell hWr2
    have g0' := (hcW5 b5 off5 hb5').trans g0
    have hlt5 : b5 < wr.heap.size := Nat.lt_of_lt_of_le hb5' hWr2.size
    have hn05 : (0 : Int) < (n5 : Int) := by omega
    have Hd := Lib.hid hd
    have Ht2 := Lib.hid ht2
    have hlt1 : (T.args.take j).length = j := by rw [List.length_take]; have := Hlp.out; omega
    have hbl := belowL_len (T.args.take j) acc 0
    clear hd ht2 hcp hcW5 g0 g1 g2 hv5
    simp only at hbp2
    have hM2lt := hM2.lt
    by_cases hk : t2.c0.kind = 3
    ·have hbk : (t2.c0.kind == 3) = true := by simp [hk]
     have hr2 := hroom.out
     rw [Hd.out] at hr2
     have hC2 := hC.kept hK2
     have hrec := Ih.out s2 t2 _ n5 c5 wr (by omega) hk hc5 hWr2 hM2 hok2 (by omega) (hr2.le (by simp only [bwts]; omega)) hC2
     have Hrec := Lib.hid hrec
     have ct := hC2.ct
     have cp := hC2.cp
     have hft := hC2.ft.lt
     have hsmall := buildF_small s2 t2 (hr2.le (by simp only [bwts]; omega))
     have hroom3 := buildF_room t2 s2 (bwts (T.args.drop (j + 1)) + (T.args.length + 1)) (hr2.le (by simp only [bwts]; omega))
     have Hroom3 := Lib.hid hroom3
     have hj64 : i64 (j : Int) := i64_small (by omega) (by omega)
     have hlook : look (belowL 0 (T.args.take j) acc) (j : Int) = none := by
      have := belowL_look (T.args.take j) acc 0 j (by omega)
      rw [Nat.zero_add] at this
      rw [this, List.getElem?_eq_none (by omega)]
     have Hlook := Lib.hid hlook
     clear hrec hr2 hroom3 hlook
     go_wp2_with (first
      | (go_at_call 106; go_must (refine Hrec.out.mono ?_); rintro e w5 ⟨rfl, hM5, hb5, hk5⟩; have hmap5 := hmap.block (hk5.free _ hfb2).1)
      | (at_mapUpdate; go_must (refine wpList_map_put rfl (.tmp 29) (.tmp 30) (.tmp 33) 143 rfl 3 Tryd.underlying3 Tryd.underlying143 rfl hmap5 (by omega) rfl rfl hj64 ?_); intro w6 hq6 hg6))
     obtain ⟨hM6, hkf6, hfb6⟩ := Kept.put hM5 (hk5.free _ hfb2).2 hg6
     have hb6 : Below base w w6 := (hb2.trans hb5).grown hg6 (by have := hb5.size; omega) (by intro q hq; cases hq; omega)
     have hK6 : Kept w w6 bm bq := ⟨fun g hg => by
      have h1 := (hK2.trans hk5).free g hg
      have h2 := hkf6 g (by have := hg.lt; omega) h1.2
      exact ⟨h2.1.trans h1.1, h2.2⟩⟩
     have hs6 : w3.heap.size ≤ w6.heap.size := by have := hb5.size; have := hg6.size; omega
     go_roundw
     case rel =>
      refine ⟨j + 1, (buildF s2 t2).1, acc ++ [(buildF s2 t2).2], by omega, by go_num, by simp [hacc], fun x hx => (List.mem_append.1 hx).elim (haw x) (fun hx => by simp at hx; subst hx; exact i64_small (by omega) (by omega)), hM6, ?_, Lib.hid ?_, Hroom3, hb6, hK6, hs6, hfb6, fun a ha => ?_⟩
      ·rw [take_snoc Ht2.out, belowL_snoc t2 _ _ _ _ (by omega), if_pos hk, hlt1, Nat.zero_add, ← putA_new Hlook.out]
       exact hq6
      ·have h1 := hres.out
       rw [Hd.out, argsF_cons] at h1
       exact ⟨h1.1, by rw [← h1.2]; simp⟩
      ·have h1 := hfp2 a ha
       have h2 := hk5.free _ h1.2
       have h3 := hkf6 a.block (by have := (hfp a ha).1; exact this) h2.2
       exact ⟨h3.1.trans (h2.1.trans h1.1), h3.2⟩
     case measure => simp [intOf]; omega
    ·have hbk : (t2.c0.kind == 3) = false := by simp [hk]
     have hone := buildF_one s2 t2 hk
     have Hone := Lib.hid hone
     clear hone
     go_wp2
     go_roundw
     case rel =>
      refine ⟨j + 1, s2, acc ++ [-1], by omega, by go_num, by simp [hacc], fun x hx => (List.mem_append.1 hx).elim (haw x) (fun hx => by simp at hx; subst hx; exact i64_small (by decide) (by decide)), hM2, ?_, Lib.hid ?_, Lib.hid ?_, hb2, hK2, hs2, hfb2, hfp2⟩
      ·rw [take_snoc Ht2.out, belowL_snoc t2 _ _ _ _ (by omega), if_neg hk, List.append_nil]
       exact hmap
      ·have h1 := hres.out
       rw [Hd.out, argsF_cons, Hone.out] at h1
       exact ⟨h1.1, by rw [← h1.2]; simp⟩
      ·have h1 := hroom.out
       rw [Hd.out] at h1
       exact h1.le (by simp only [bwts]; omega)
     case measure => simp [intOf]; omega
   ·have hjn : j = np := by omega
    subst hjn
    have hrs := hres.out
    rw [drop_end Hlp.out hlt, argsF_nil] at hrs
    have hrm := hroom.out
    rw [drop_end Hlp.out hlt] at hrm
    have hmap9 : MapI Tryd.prog 3 wr w.heap.size (belowL 0 T.args acc) := by
     have := hmap
     rwa [List.take_of_length_le (by have := Hlp.out; omega)] at this
    obtain ⟨q1, q2⟩ := hrs
    simp only [List.append_nil] at q2
    obtain ⟨s3, hs3⟩ : ∃ s3, s2.bump.emit { op := 8, a := s2.next, name := T.c0.name, n := T.c0.n } = s3 := ⟨_, rfl⟩
    have hB : buildF st T = (setsF s3 T.args acc, (s2.next : Int)) := by rw [Hbu.out, ← q1, ← q2, hs3]
    have hr3 : s3.room T.args.length := by
     rw [← hs3]
     exact ⟨by have := hrm.code; simp [St.emit, St.bump, bwts] at *; omega, by have := hrm.next; simp [St.emit, St.bump, bwts] at *; omega, by have := hrm.vars; simp [St.emit, St.bump, bwts] at *; omega⟩
    have hrc := hrm.code
    have hrn := hrm.next
    have HB := Lib.hid hB
    have Hr3 := Lib.hid hr3
    have hC2 := hC.kept hK2
    have ct := hC2.ct
    have cp := hC2.cp
    have hpl := hC2.fp.lt
    have hM2lt := hM2.lt
    have hWr2 : Below W.heap.size W wr := hbW.trans (hb2.mono hWb)
    obtain ⟨hcW5, _⟩ := bcell hWr2
    have e1' := (hcW5 b0 (off0 + 1) hb0).trans e1
    have e2' := (hcW5 b0 (off0 + 2) hb0).trans e2
    have hb0r : b0 < wr.heap.size := Nat.lt_of_lt_of_le hb0 hWr2.size
    have E1 := Lib.hid e1
    have E2 := Lib.hid e2
    clear hres hroom hmap q1 q2 hB hr3 hcW5 hrm e0 e1 e2 e1' e2'
    go_wp2_with (first
     | (go_at_call 105; go_must (refine (mFresh_any base bm bq s2 wr hM2 (by omega)).mono ?_); rintro e w5 ⟨rfl, hM5, hb5, hk5⟩; have hC5 := hC2.kept hk5; have cp5 := hC5.cp))
    have hWr5 := hbW.trans ((hb2.trans hb5).mono hWb)
    have hcW6 := (bcell hWr5).1
    have e15 := (hcW6 b0 (off0 + 1) hb0).trans E1.out
    have e25 := (hcW6 b0 (off0 + 2) hb0).trans E2.out
    have hpl5 := hC5.fp.lt
    have hb05 : b0 < w5.heap.size := Nat.lt_of_lt_of_le hb0 hWr5.size
    have hM5d := hM5.keep (Below.refl _ _).drew
    have hk5d : Kept w5 w5.drew bm bq := Kept.below (Below.refl _ _).drew hM5.lt.2.1
    have hwn : T.c0.name.size ≤ maxLen := hw0.name
    have hs2n : (s2.next : Int) ≤ 100000 := by omega
    clear hcW6
    go_still_tail 11, (by kernel_rfl)
    change wpList _ _ _ _ _ w5.drew
    generalize hwd : w5.drew = w5d at *
    go_wp2_with (first
     | (go_at_call 84; go_must (refine (mEmit_any base bm bq s2.bump { op := 8, a := s2.next, name := T.c0.name, n := T.c0.n } w5d hM5d (wfI (i64_small (by decide) (by decide)) i64_0 (i64_small (by omega) (by omega)) hw0.n hwn) (by simp [St.bump]; omega)).mono ?_); rw [hs3]; rintro e w7 ⟨rfl, hM7, hb7, hk7⟩))
    have hb7' : Below base wr w7 := hb5.trans (Below.trans (by rw [← hwd]; exact (Below.refl _ _).drew) hb7)
    have hk7' : Kept wr w7 bm bq := (hk5.trans hk5d).trans hk7
    have hC7 := hC2.kept hk7'
    have hmap7 := hmap9.block (hk7'.free _ hfb2).1
    have hfb7 := (hk7'.free _ hfb2).2
    have hfp7 : ∀ a, Ap = some a → w7.heap[a.block]? = w3.heap[a.block]? ∧ Free w7 bm bq a.block := fun a ha => by
     have h1 := hfp2 a ha
     have h2 := hk7'.free _ h1.2
     exact ⟨h2.1.trans h1.1, h2.2⟩
    have hb9 := hb2.trans hb7'
    have hK9 := hK2.trans hk7'
    clear hM5 hb5 hk5 hC5 cp5 e15 e25 hpl5 hM5d hk5d hb7 hk7 hWr5 hb05 hwd hb7' hk7' hC2 ct cp hpl hmap9 hfb2 hfp2 hM2 hb2 hK2 hM2lt hWr2 hb0r E1 E2
    go_loopw [51] (fun i wr => ∃ (j : Nat) (s4 : St), j ≤ T.args.length ∧ i = .int .i64 j ∧ Mk wr base bm bq s4 ∧ Hid (setsF s4 (T.args.drop j) (acc.drop j) = setsF s3 T.args acc) ∧ Hid (s4.room (T.args.length - j)) ∧ Below base w wr ∧ Kept w wr bm bq ∧ Caught wr bm bq bt bp ∧
     MapI Tryd.prog 3 wr w.heap.size (belowL 0 T.args acc) ∧ Free wr bm bq w.heap.size ∧ (∀ a, Ap = some a → wr.heap[a.block]? = w3.heap[a.block]? ∧ Free wr bm bq a.block)) (fun i _ => T.args.length - (intOf i).toNat)
    case atStart => exact ⟨0, s3, Nat.zero_le _, rfl, hM7, Lib.hid (by simp), Lib.hid (by simpa using Hr3.out), hb9, hK9, hC7, hmap7, hfb7, hfp7⟩
    case round =>
     clear hM7 hC7 hmap7 hfb7 hfp7 hb9 hK9 Hr3
     obtain ⟨k, s4, hk, rfl, hM4, hres, hroom, hb4, hK4, hC4, hmap4, hfb4, hfp4⟩ := hrel
     have hlpj := Hlp.out
     by_cases hlt2 : k < T.args.length
     ·obtain ⟨t2, ht2⟩ : ∃ t2, T.args[k]? = some t2 := ⟨_, List.getElem?_eq_getElem hlt2⟩
      obtain ⟨x2, hx2⟩ : ∃ x2, acc[k]? = some x2 := ⟨_, List.getElem?_eq_getElem (by omega)⟩
      have hd := drop_get ht2
      have hdx := drop_get hx2
      have hok2 := ok_mem hok (List.mem_of_getElem? ht2)
      have hsz2 := size_mem (List.mem_of_getElem? ht2)
      obtain ⟨A5, n5, c5, hv5, hc5⟩ := hrows.2 k t2.flat (by rw [List.getElem?_map, ht2]; rfl)
      obtain ⟨bpp, op_, rfl, hbp, hcp⟩ := hsp.cells (by omega)
      have hcell5 := (World.cell?_of_block (a := ⟨bpp, op_ + k, none⟩) (hfp4 _ rfl).1).trans (hcp k _ hv5)
      have hbp2 := (hfp4 _ rfl).2.lt
      have hcap5 := hsp.hcap
      obtain ⟨b5, off5, rfl, hb5', g0, g1, g2, hn5⟩ := hc5.tm
      have hWr4 : Below W.heap.size W wr := hbW.trans (hb4.mono hWb)
      obtain ⟨hcW5, _⟩ := bcell hWr4
      have g0' := (hcW5 b5 off5 hb5').trans g0
      have g1' := (hcW5 b5 (off5 + 1) hb5').trans g1
      have g2' := (hcW5 b5 (off5 + 2) hb5').trans g2
      have hlt5 : b5 < wr.heap.size := Nat.lt_of_lt_of_le hb5' hWr4.size
      have hn05 : (0 : Int) < (n5 : Int) := by omega
      have hj64 : i64 (k : Int) := i64_small (by omega) (by omega)
      have hlook := belowL_look T.args acc 0 k (by omega)
      rw [Nat.zero_add, ht2, hx2] at hlook
      have Hd := Lib.hid hd
      have Hdx := Lib.hid hdx
      have hr4 := hroom.out
      have hr4c := hr4.code
      have cp := hC4.cp
      have hplt := hC4.fp.lt
      have hM4lt := hM4.lt
      clear hd hdx ht2 hcp hcW5 g0 g1 g2 hv5
      simp only at hbp2 hlook
      by_cases hk3 : t2.c0.kind = 3
      ·rw [if_pos hk3] at hlook
       have hset := setsF_fun s4 t2 (T.args.drop (k + 1)) x2 (acc.drop (k + 1)) hk3
       have Hset := Lib.hid hset
       have hx64 : i64 x2 := haw x2 (List.mem_of_getElem? hx2)
       have hroom5 : (s4.emit { op := 10, x := x2 }).room (T.args.length - (k + 1)) := room_emit _ (hr4.le (by omega))
       have Hroom5 := Lib.hid hroom5
       clear hset hroom5
       go_wp2_with (first
        | (at_lookup; go_must (refine wpList_map_ok rfl (.tmp 57) (.tmp 58) 143 rfl 3 Tryd.underlying3 Tryd.underlying143 (zeroI _) rfl hmap4 rfl hj64 ?_); rw [hlook]; simp only [Option.getD, Option.isSome])
        | (go_at_call 84; go_must (refine (mEmit_any base bm bq s4 { op := 10, x := x2 } wr hM4 (wfI (i64_small (by decide) (by decide)) hx64 i64_0 i64_0 empty_size) (by omega)).mono ?_); rintro e w8 ⟨rfl, hM8, hb8, hk8⟩))
       go_roundw
       case rel =>
        refine ⟨k + 1, _, by omega, by go_num, hM8, Lib.hid ?_, Hroom5, hb4.trans hb8, hK4.trans hk8, hC4.kept hk8, hmap4.block (hk8.free _ hfb4).1, (hk8.free _ hfb4).2, fun a ha => ?_⟩
        ·have h1 := hres.out
         rw [Hd.out, Hdx.out, Hset.out] at h1
         exact h1
        ·have h1 := hfp4 a ha
         have h2 := hk8.free _ h1.2
         exact ⟨h2.1.trans h1.1, h2.2⟩
       case measure => simp [intOf]; omega
      ·rw [if_neg hk3] at hlook
       have hset := setsF_one s4 t2 (T.args.drop (k + 1)) x2 (acc.drop (k + 1)) hk3
       have hroom5 : (oneF 9 10 11 s4 t2).room (T.args.length - (k + 1)) := room_one _ _ _ _ (hr4.le (by omega))
       have Hroom5 := Lib.hid hroom5
       have Hset := Lib.hid hset
       have hMd := hM4.keep (Below.refl _ _).drew
       have hone := mOne_any base bm bq s4 t2 9 10 11 wr.drew hMd hok2 hk3 (hr4.le (by omega)) (i64_small (by decide) (by decide)) (i64_small (by decide) (by decide)) (i64_small (by decide) (by decide))
       have Hone := Lib.hid hone
       clear hset hroom5 hone
       go_wp2_with (first
        | (at_lookup; go_must (refine wpList_map_ok rfl (.tmp 57) (.tmp 58) 143 rfl 3 Tryd.underlying3 Tryd.underlying143 (zeroI _) rfl hmap4 rfl hj64 ?_); rw [hlook]; simp only [Option.getD, Option.isSome]))
       go_still_tail 4, (by kernel_rfl)
       change wpList _ _ _ _ _ wr.drew
       go_wp2_with (first
        | (go_at_call 104; go_must (refine Hone.out.mono ?_); rintro e w8 ⟨rfl, hM8, hb8', hk8'⟩))
       have hb8 : Below base wr w8 := Below.trans (Below.refl _ _).drew hb8'
       have hk8 : Kept wr w8 bm bq := (Kept.below (Below.refl _ _).drew hM4lt.2.1).trans hk8'
       go_roundw
       case rel =>
        refine ⟨k + 1, _, by omega, by go_num, hM8, Lib.hid ?_, Hroom5, hb4.trans hb8, hK4.trans hk8, hC4.kept hk8, hmap4.block (hk8.free _ hfb4).1, (hk8.free _ hfb4).2, fun a ha => ?_⟩
        ·have h1 := hres.out
         rw [Hd.out, Hdx.out, Hset.out] at h1
         exact h1
        ·have h1 := hfp4 a ha
         have h2 := hk8.free _ h1.2
         exact ⟨h2.1.trans h1.1, h2.2⟩
       case measure => simp [intOf]; omega
     ·go_wp2
      go_ret
      have hfin := hres.out
      rw [List.drop_of_length_le (by omega)] at hfin
      have hnil : setsF s4 [] (acc.drop k) = s4 := by cases acc.drop k <;> rfl
      rw [hnil] at hfin
      unfold RetBd
      rw [HB.out]
      exact ⟨rfl, by rw [← hfin]; exact hM4, hb4, hK4⟩
end Go.Proofs.YtgipiplklaeplaaDoor
namespace Go.Proofs.YtgipiplklaeplaaDoor
open Go.RowKit
def litF (s : St) (l : Ltl) : St := (buildF s l.t).1.emit { op := 12, a := (buildF s l.t).2, neg := l.neg }
theorem bodyF_cons (s : St) (l : Ltl) (ls : List Ltl) : bodyF s (l :: ls) = bodyF (litF s l) ls := rfl
theorem litF_room {s : St} {l : Ltl} {k : Nat} (h : s.room (bwt l.t + (k + 1))) : (litF s l).room k := room_emit _ (buildF_room _ _ _ h)
set_option maxRecDepth 100000 in
set_option maxHeartbeats 8000000 in
theorem mLiteral_any (W : World) (base bm bq : Nat) (hWb : W.heap.size ≤ base) (st : St) (l : Ltl) (A : Option Addr) (n cap : Nat) (w : World) (hk3 : l.t.c0.kind = 3) (hW : IsC W A n cap l.t.flat) (hbW : Below W.heap.size W w)
  (hM : Mk w base bm bq st) (hT : l.t.ok = true) (hTs : l.t.size ≤ 200) (hr : st.room (bwt l.t + 1)) :
  Calls Tryd.prog 83 #[.pointer (some ⟨bm, 0, none⟩), .agg #[.bool l.neg, .slice A n cap]] w (RetMk w base bm bq (litF st l)) := by
 have hmf : ∀ (fn : Fn) (first cap : Array Value) (w : World), (Instr.makeFunc fn first cap).run Tryd.prog w = .ok (.func fn first cap) w := fun _ _ _ _ => rfl
 have hMlt := hM.lt
 have hsmall := buildF_small st l.t (hr.le (by omega))
 have hroom := buildF_room l.t st 1 hr
 have hrc := hroom.code
 go_enter Tryd.func83, Tryd.ntmps83
 go_wp2_with fail
 refine wp_world (Φ := fun X => Below w.heap.size w X ∧ w.heap.size + 3 ≤ X.heap.size ∧ X.heap[w.heap.size]? = some (.cells #[.pointer (some ⟨bm, 0, none⟩)] 142 (0, 0)) ∧ X.heap[w.heap.size + 1]? = some (.cells #[.bool l.neg, .slice A n cap] 36 (0, 0)) ∧
   X.heap[w.heap.size + 2]? = some (.cells #[.func (.func 106) #[] #[.pointer (some ⟨w.heap.size + 2, 0, none⟩), .pointer (some ⟨w.heap.size, 0, none⟩)]] 137 (0, 0)))
  ⟨(((Below.refl _ _).alloc (Nat.le_refl _) _).alloc (by simp) _).alloc (by simp; omega) _, by simp, (alloc_past (by simp; omega)).trans ((alloc_past (by simp)).trans (alloc_at rfl)), (alloc_past (by simp)).trans (alloc_at (by simp)), alloc_at (by simp)⟩ ?_
 rintro X ⟨hbX, hsX, x0, x1, x2⟩
 have hMX := hM.keep hbX
 have hMd := hMX.keep (Below.refl _ _).drew
 have hKX : Kept w X.drew bm bq := (Kept.below (bm := bm) (bq := bq) hbX hMlt.2.1).trans (Kept.below (Below.refl _ _).drew hMX.lt.2.1)
 have f0 : Free X.drew bm bq w.heap.size := ⟨by simp; omega, by omega, by omega, by rw [cblk_same (show X.drew.heap[bm]? = w.heap[bm]? from hbX.block bm hMlt.2.1)]; exact hM.cblk_lt (Nat.le_refl _)⟩
 have f1 : Free X.drew bm bq (w.heap.size + 1) := ⟨by simp; omega, by omega, by omega, by rw [cblk_same (show X.drew.heap[bm]? = w.heap[bm]? from hbX.block bm hMlt.2.1)]; exact hM.cblk_lt (by omega)⟩
 have f2 : Free X.drew bm bq (w.heap.size + 2) := ⟨by simp; omega, by omega, by omega, by rw [cblk_same (show X.drew.heap[bm]? = w.heap[bm]? from hbX.block bm hMlt.2.1)]; exact hM.cblk_lt (by omega)⟩
 have y0 := cells_of x0 0
 have y10 := cells_of x1 0
 have y11 := cells_of x1 1
 have y2 := cells_of x2 0
 simp at y0 y10 y11 y2
 have hC : Caught X.drew bm bq (w.heap.size + 2) w.heap.size := ⟨f2, f0, y2, y0⟩
 have hbb : Below base w X.drew := (hbX.mono (by omega)).drew
 have hrec := mBuild_any W base bm bq (w.heap.size + 2) w.heap.size hWb l.t.size st l.t A n cap X.drew (Nat.le_refl _) hk3 hW ((hbW.trans (hbX.mono hbW.size)).drew) hMd hT hTs (hr.le (by omega)) hC
 have Hrec := Lib.hid hrec
 have hC5 : ∀ w5, Kept X.drew w5 bm bq → w5.cell? ⟨w.heap.size + 2, 0, none⟩ = some (.func (.func 106) #[] #[.pointer (some ⟨w.heap.size + 2, 0, none⟩), .pointer (some ⟨w.heap.size, 0, none⟩)]) := fun w5 hk => (hC.kept hk).ct
 clear hrec hC
 go_region_held3 (fun w' => w'.cell? ⟨w.heap.size, 0, none⟩ = some (.pointer (some ⟨bm, 0, none⟩)) ∧ w'.cell? ⟨w.heap.size + 1, 0, none⟩ = some (.bool l.neg) ∧ w'.cell? ⟨w.heap.size + 1, 1, none⟩ = some (.slice A n cap) ∧
   (w'.cell? ⟨w.heap.size + 2, 0, none⟩ = some (.func (.func 106) #[] #[.pointer (some ⟨w.heap.size + 2, 0, none⟩), .pointer (some ⟨w.heap.size, 0, none⟩)])))
  (go_keep)
  (first
   | (go_at_call 106; refine Hrec.out.mono ?_; rintro e w5 ⟨rfl, hM5, hb5, hk5⟩; (have q0 := (World.cell?_of_block (a := ⟨w.heap.size, 0, none⟩) (hk5.free _ f0).1).trans y0); (have q10 := (World.cell?_of_block (a := ⟨w.heap.size + 1, 0, none⟩) (hk5.free _ f1).1).trans y10); (have q11 := (World.cell?_of_block (a := ⟨w.heap.size + 1, 1, none⟩) (hk5.free _ f1).1).trans y11); have q2 := hC5 w5 hk5)
   | (go_at_call 84; refine (mEmit_any base bm bq (buildF st l.t).1 { op := 12, a := (buildF st l.t).2, neg := l.neg } w5 hM5 (wfI (i64_small (by decide) (by decide)) i64_0 (i64_small (by omega) (by omega)) i64_0 empty_size) (by omega)).mono ?_; rintro e w7 ⟨rfl, hM7, hb7, hk7⟩; have hk57 := hk5.trans hk7; (have p0 := (World.cell?_of_block (a := ⟨w.heap.size, 0, none⟩) (hk57.free _ f0).1).trans y0); (have p10 := (World.cell?_of_block (a := ⟨w.heap.size + 1, 0, none⟩) (hk57.free _ f1).1).trans y10); (have p11 := (World.cell?_of_block (a := ⟨w.heap.size + 1, 1, none⟩) (hk57.free _ f1).1).trans y11); have p2 := hC5 w7 hk57)
   | fail)
 go_end0
 exact ⟨rfl, hM7, hbb.trans (hb5.trans hb7), hKX.trans (hk5.trans hk7)⟩
end Go.Proofs.YtgipiplklaeplaaDoor
namespace Go.Proofs.YtgipiplklaeplaaDoor
open Go.RowKit
def atomB (t : List C) : Bool := rightB t && (match t with | c :: _ => c.kind == 3 | [] => false)
abbrev Raw := List C × List (Bool × List C)
def mayB (c : Raw) : Bool := atomB c.1 && (decide (c.2.length ≤ 8) && c.2.all fun l => atomB l.2)
theorem atomB_tree {t : List C} (h : atomB t = true) : ∃ T : Tm, T.ok = true ∧ T.flat = t ∧ T.size ≤ 200 ∧ T.c0.kind = 3 := by
 unfold atomB at h
 rw [Bool.and_eq_true] at h
 obtain ⟨T, h1, h2, h3⟩ := right_tree h.1
 refine ⟨T, h1, h2, h3, ?_⟩
 rw [← h2, flat_cons] at h
 simpa using h.2
structure IsCls (c : Cls) (r : Raw) : Prop where
 head : c.head.flat = r.1
 hok : c.head.ok = true ∧ c.head.size ≤ 200 ∧ c.head.c0.kind = 3
 body : c.body.map (fun l => (l.neg, l.t.flat)) = r.2
 bok : ∀ l ∈ c.body, l.t.ok = true ∧ l.t.size ≤ 200 ∧ l.t.c0.kind = 3
 len : c.body.length ≤ 8
theorem mayB_cls {r : Raw} (h : mayB r = true) : ∃ c, IsCls c r := by
 obtain ⟨t, b⟩ := r
 simp only [mayB, Bool.and_eq_true, decide_eq_true_eq, List.all_eq_true] at h
 obtain ⟨h1, h2, h3⟩ := h
 obtain ⟨T, t1, t2, t3, t4⟩ := atomB_tree h1
 have key : ∀ b : List (Bool × List C), (∀ l ∈ b, atomB l.2 = true) → ∃ ls : List Ltl, ls.map (fun l => (l.neg, l.t.flat)) = b ∧ ∀ l ∈ ls, l.t.ok = true ∧ l.t.size ≤ 200 ∧ l.t.c0.kind = 3 := by
  intro b
  induction b with
  | nil => intro _; exact ⟨[], rfl, by simp⟩
  | cons x b ih =>
   intro hb
   obtain ⟨ls, l1, l2⟩ := ih (fun l hl => hb l (by simp [hl]))
   obtain ⟨U, u1, u2, u3, u4⟩ := atomB_tree (hb x (by simp))
   refine ⟨⟨x.1, U⟩ :: ls, by simp [l1, u2], fun l hl => ?_⟩
   rcases List.mem_cons.1 hl with rfl | hl
   ·exact ⟨u1, u3, u4⟩
   ·exact l2 l hl
 obtain ⟨ls, l1, l2⟩ := key b h3
 exact ⟨⟨T, ls⟩, t2, ⟨t1, t3, t4⟩, l1, l2, by have := congrArg List.length l1; simp at this; simp; omega⟩
theorem tRight_all (A : Option Addr) (n cap : Nat) (t : List C) (w : World) (h : IsC w A n cap t) : Calls Tryd.prog 94 #[.slice A n cap] w (RetV w (.bool (rightB t))) := by
 by_cases hr : n ≤ 100000
 ·exact tRight_any A n cap t w h hr
 ·have Hl := Lib.hid h.len
  have h1 : (n : Int) < 1 ∨ 200 < (n : Int) := by omega
  go_enter Tryd.func94, Tryd.ntmps94
  go_wp2_with (first
   | (go_at_call 111; go_must (refine (in_no _ 1 200 _ h1).mono ?_); rintro e w1 ⟨rfl, rfl⟩))
  go_ret
  exact ⟨ret_bool (right_no t n Hl.out (by omega)).symm, Below.refl _ _⟩
theorem atom_any (A : Option Addr) (n cap : Nat) (t : List C) (w : World) (h : IsC w A n cap t) (hn : n ≤ 1000000000000) :
  Calls Tryd.prog 80 #[.slice A n cap] w (RetV w (.bool (atomB t))) := by
 cases hr : rightB t
 ·have ha : atomB t = false := by simp [atomB, hr]
  have Ha := Lib.hid ha
  have hR := tRight_all A n cap t w h
  rw [hr] at hR
  have HR := Lib.hid hR
  clear ha hR hr
  go_enter Tryd.func80, Tryd.ntmps80
  go_wp2_with (first | (go_at_call 94; go_must (refine HR.out.mono ?_); rintro e w1 ⟨rfl, hb⟩))
  go_ret
  exact ⟨ret_bool Ha.out.symm, hb⟩
 ·obtain ⟨hsk, hl1, _⟩ := right_skip hr
  match t, hl1 with
  | c :: cs, _ =>
   have hc0 : (c :: cs)[0]? = some c := rfl
   obtain ⟨b, off, rfl, hbb, _, h0, h1, h2⟩ := h.at_ hc0
   simp only [Nat.zero_mul, Nat.add_zero] at h0 h1 h2
   have hl := h.len
   have hn0 : (0 : Int) < (n : Int) := by simp at hl; omega
   have ha : atomB (c :: cs) = (c.kind == 3) := by simp [atomB, hr]
   have Ha := Lib.hid ha
   have hR := tRight_all _ n cap (c :: cs) w h
   rw [hr] at hR
   have HR := Lib.hid hR
   clear ha hR hr hl hc0 hsk
   go_enter Tryd.func80, Tryd.ntmps80
   go_wp2_with (first | (go_at_call 94; go_must (refine HR.out.mono ?_); rintro e w1 ⟨rfl, hb⟩; have q0 := ((bcell hb).1 b off hbb).trans h0; have hlt := Nat.lt_of_lt_of_le hbb hb.size))
   go_ret
   exact ⟨ret_bool Ha.out.symm, hb⟩
theorem rAtom_any (A : Option Addr) (n cap : Nat) (t : List C) (w : World) (h : IsC w A n cap t) (hn : n ≤ 100000) :
  Calls Tryd.prog 38 #[.slice A n cap] w (RetV w (.bool (atomB t))) := by
 cases hr : rightB t
 ·have ha : atomB t = false := by simp [atomB, hr]
  have Ha := Lib.hid ha
  have hR := rRight_any A n cap t w h hn
  rw [hr] at hR
  have HR := Lib.hid hR
  clear ha hR hr
  go_enter Tryd.func38, Tryd.ntmps38
  go_wp2_with (first | (go_at_call 75; go_must (refine HR.out.mono ?_); rintro e w1 ⟨rfl, hb⟩))
  go_ret
  exact ⟨ret_bool Ha.out.symm, hb⟩
 ·obtain ⟨hsk, hl1, _⟩ := right_skip hr
  match t, hl1 with
  | c :: cs, _ =>
   have hc0 : (c :: cs)[0]? = some c := rfl
   obtain ⟨b, off, rfl, hbb, _, h0, h1, h2⟩ := h.at_ hc0
   simp only [Nat.zero_mul, Nat.add_zero] at h0 h1 h2
   have hl := h.len
   have hn0 : (0 : Int) < (n : Int) := by simp at hl; omega
   have ha : atomB (c :: cs) = (c.kind == 3) := by simp [atomB, hr]
   have Ha := Lib.hid ha
   have hR := rRight_any _ n cap (c :: cs) w h hn
   rw [hr] at hR
   have HR := Lib.hid hR
   clear ha hR hr hl hc0 hsk
   go_enter Tryd.func38, Tryd.ntmps38
   go_wp2_with (first | (go_at_call 75; go_must (refine HR.out.mono ?_); rintro e w1 ⟨rfl, hb⟩; have q0 := ((bcell hb).1 b off hbb).trans h0; have hlt := Nat.lt_of_lt_of_le hbb hb.size))
   go_ret
   exact ⟨ret_bool Ha.out.symm, hb⟩
theorem odd_any (neg : Bool) (A : Option Addr) (n cap : Nat) (t : List C) (w : World) (h : IsC w A n cap t) (hn : n ≤ 1000000000000) :
  Calls Tryd.prog 79 #[.agg #[.bool neg, .slice A n cap]] w (RetV w (.bool (!atomB t))) := by
 have hal : Below w.heap.size w (w.alloc (.cells #[.bool neg, .slice A n cap] 36)) := (Below.refl _ _).alloc (Nat.le_refl _) _
 go_enter Tryd.func79, Tryd.ntmps79
 go_wp2_with (first | (go_at_call 80; go_must (refine (atom_any A n cap t _ (h.below hal) hn).mono ?_); rintro e w1 ⟨rfl, hb⟩))
 go_ret
 exact ⟨rfl, hal.trans (hb.mono hal.size)⟩
set_option maxHeartbeats 400000 in
theorem indexLit_any (A : Option Addr) (n cap : Nat) (l : List (Bool × List C)) (w : World) (h : IsLs w A n cap l) (hn : n ≤ 100000) (hs : ∀ x ∈ l, x.2.length ≤ 1000000000000) :
  Calls Tryd.prog 102 #[.slice A n cap, .func (.func 79) #[] #[]] w (RetV w (.int .i64 (idxF (fun x : Bool × List C => !atomB x.2) 0 l))) := by
 go_enter Tryd.func102, Tryd.ntmps102
 go_wp2
 go_loopw [8] (fun i wr => ∃ k : Nat, k ≤ n ∧ i = .int .i64 k ∧ Hid (idxF (fun x : Bool × List C => !atomB x.2) k (l.drop k) = idxF (fun x : Bool × List C => !atomB x.2) 0 l) ∧ Below w.heap.size w wr) (fun i _ => n - (intOf i).toNat)
 case atStart => exact ⟨0, Nat.zero_le _, rfl, rfl, Below.refl _ _⟩
 case round =>
  obtain ⟨k, hk, rfl, hres, hb⟩ := hrel
  by_cases hlt : k < n
  ·obtain ⟨x, hxk⟩ := h.get hlt
   obtain ⟨b, off, v, rfl, hbb, _, ⟨A', n', c', rfl, hx⟩, hcells⟩ := h.at_ hxk
   have h0 := hcells 0 _ rfl
   have h1 := hcells 1 _ rfl
   have hd := drop_get hxk
   have hxs := hs x (List.mem_of_getElem? hxk)
   have hx' := hx.below hb
   have hxl := hx.len
   have Hd := Lib.hid hd
   obtain ⟨hc, hf⟩ := bcell hb
   have g0 := (hc b _ hbb).trans h0
   have g1 := (hc b _ hbb).trans h1
   simp only [Nat.add_zero] at g0
   have hcap := h.cap_le
   clear hxk hd hcells h0 h1 hc hf
   cases ho : atomB x.2
   all_goals
    have hg := odd_any x.1 A' n' c' x.2 wr hx' (by omega)
    rw [ho] at hg
    have Ho := Lib.hid ho
    have Hg := Lib.hid hg
    clear ho hg
    go_wp2_with (first | (go_at_call 79; go_must (refine Hg.out.mono ?_); rintro e w1 ⟨rfl, hb1⟩))
   ·go_ret
    exact ⟨ret_int (by have := hres.out; rw [Hd.out, idxF, if_pos (by simp [Ho.out])] at this; exact this), hb.trans (hb1.mono hb.size)⟩
   ·go_roundw
    case rel => exact ⟨k + 1, by omega, by go_num, by have := hres.out; rw [Hd.out, idxF, if_neg (by simp [Ho.out])] at this; exact this, hb.trans (hb1.mono hb.size)⟩
    case measure => simp [intOf]; omega
  ·go_wp2
   go_ret
   exact ⟨ret_int (by have := hres.out; rw [drop_end h.len hlt] at this; simpa [idxF] using this), hb⟩
theorem containsLit_any (A : Option Addr) (n cap : Nat) (l : List (Bool × List C)) (w : World) (h : IsLs w A n cap l) (hn : n ≤ 100000) (hs : ∀ x ∈ l, x.2.length ≤ 1000000000000) :
  Calls Tryd.prog 81 #[.slice A n cap, .func (.func 79) #[] #[]] w (RetV w (.bool (!(l.all fun x => atomB x.2)))) := by
 have hi := idxF_any (fun x : Bool × List C => !atomB x.2) l 0
 have ha : (l.any fun x => !atomB x.2) = !(l.all fun x => atomB x.2) := by rw [← List.not_all_eq_any_not]
 rw [ha] at hi
 have Hi := Lib.hid hi
 clear hi ha
 go_enter Tryd.func81, Tryd.ntmps81
 go_wp2_with (go_at_call 102; go_must (refine (indexLit_any A n cap l _ h hn hs).mono ?_); rintro e w1 ⟨rfl, hb⟩)
 go_ret
 exact ⟨ret_bool Hi.out, hb⟩
end Go.Proofs.YtgipiplklaeplaaDoor
