/- Texts of this proof that belong together: words of memory, plain laws, walks. -/
import Derived.Deep.RegionLaw
import Derived.Test.YtgipiplklaeplaaDoorA20
import Derived.Test.YtgipiplklaeplaaDoorA22
import Derived.Test.YtgipiplklaeplaaDoorA28
import Derived.Test.YtgipiplklaeplaaDoorA30
import Derived.Test.YtgipiplklaeplaaDoorA32
import Derived.Test.YtgipiplklaeplaaDoorA33
import Derived.Test.YtgipiplklaeplaaDoorA34
import Derived.Test.YtgipiplklaeplaaDoorA38
set_option linter.unusedVariables false
set_option linter.unusedSimpArgs false
namespace Go.Proofs.YtgipiplklaeplaaDoor
open Go.RowKit
theorem headsF_room : ∀ (f : Nat) (s : St) (row : List (Tm × Int)) (k : Nat), s.room (rwt row + k) → (headsF f s row).room k
  | 0, s, row, k, h => h.le (by omega)
  | f + 1, s, [], k, h => h.le (by omega)
  | f + 1, s, p :: row, k, h => by
    rw [headsF_cons]
    refine headsF_room f _ _ k ?_
    have := headF_room (s := s) (p := p) (k := rwt row + k) (h.le (by simp only [rwt]; omega))
    exact this.le (by rw [rwt_append]; omega)
def lwt : List Ltl → Nat
  | [] => 0
  | l :: ls => (bwt l.t + 1) + lwt ls
theorem lwt_le : ∀ ls : List Ltl, (∀ l ∈ ls, l.t.size ≤ 200) → lwt ls ≤ 401 * ls.length
  | [], _ => by simp [lwt]
  | l :: ls, h => by
    have h1 := lwt_le ls (fun x hx => h x (by simp [hx]))
    have h2 := h l (by simp)
    rw [size_args] at h2
    have : bwt l.t ≤ 400 := by unfold bwt; split <;> omega
    simp only [lwt, List.length_cons]
    omega
theorem start_fit (t : Tm) (h : t.args.length ≤ 6) : (startF t).fit 100000 := ⟨by simp [startF], by simp [startF]; omega, by simp [startF], rfl, by simp [startF], by simp [startF], by simp [startF]⟩
theorem Mk.code_is {w : World} {base bm bq : Nat} {s : St} (h : Mk w base bm bq s) : ∃ A n cap, w.cell? ⟨bm, 0, none⟩ = some (.slice A n cap) ∧ IsK w A n cap s.code ∧ bm < w.heap.size := by
  obtain ⟨A, n, cap, hb1, hb2, hm, hcode, hmap⟩ := h.has
  exact ⟨A, n, cap, cells_of hm 0, hcode.is (by omega), block_lt hm⟩
def RetK (w : World) (l : List In) (e : Ending) (w' : World) : Prop := ∃ A n cap, e = .returned (.tuple #[.slice A n cap, .int .i64 0]) ∧ IsK w' A n cap l ∧ Below w.heap.size w w'
set_option maxRecDepth 100000 in
set_option maxHeartbeats 8000000 in
theorem compile_no (A : Option Addr) (n cap : Nat) (t : List C) (B : Option Addr) (m d : Nat) (b : List (Bool × List C)) (w : World) (h : IsC w A n cap t) (hB : IsLs w B m d b) (hn : n ≤ 1000000000000) (hm : m ≤ 100000) (hs : ∀ x ∈ b, x.2.length ≤ 1000000000000) (hno : mayB (t, b) = false) :
    Calls Tryd.prog 42 #[.agg #[.slice A n cap, .slice B m d]] w (RetV w (.tuple #[.slice none 0 0, .int .i64 1])) := by
  have hal : Below w.heap.size w (w.alloc (.cells #[.slice A n cap, .slice B m d] 25)) := (Below.refl _ _).alloc (Nat.le_refl _) _
  have hat := atom_any A n cap t _ (h.below hal) (by omega)
  have hml := hB.len
  by_cases h1 : atomB t = false
  · rw [h1] at hat
    have Hat := Lib.hid hat
    clear hat
    go_enter Tryd.func42, Tryd.ntmps42
    go_wp2_with (first | (go_at_call 80; go_must (refine Hat.out.mono ?_); rintro e w1 ⟨rfl, hb1⟩))
    go_ret2
    exact ⟨rfl, hal.trans (hb1.mono hal.size)⟩
  · have h1 : atomB t = true := by simpa using h1
    rw [h1] at hat
    have Hat := Lib.hid hat
    clear hat
    have hw1 : ∀ w1, Below (w.alloc (.cells #[.slice A n cap, .slice B m d] 25)).heap.size (w.alloc (.cells #[.slice A n cap, .slice B m d] 25)) w1 → w1.cell? ⟨w.heap.size, 1, none⟩ = some (.slice B m d) := fun w1 hb1 =>
      (hb1.cell (p := ⟨w.heap.size, 1, none⟩) (by simp)).trans (World.cell?_alloc_mark w #[.slice A n cap, .slice B m d] 25 (0, 0) 1)
    have Hw1 := Lib.hid hw1
    clear hw1
    by_cases h2 : 8 < m
    · have hd2 : decide ((8 : Int) < (m : Int)) = true := by simp; omega
      go_enter Tryd.func42, Tryd.ntmps42
      go_wp2_with (first | (go_at_call 80; go_must (refine Hat.out.mono ?_); rintro e w1 ⟨rfl, hb1⟩; have q1 := Hw1.out w1 hb1))
      go_ret2
      exact ⟨rfl, hal.trans (hb1.mono hal.size)⟩
    · have hall : (b.all fun x => atomB x.2) = false := by
        simp only [mayB, h1, Bool.true_and] at hno
        rw [hml, show decide (m ≤ 8) = true by simp; omega, Bool.true_and] at hno
        exact hno
      have hcon := fun w1 (hb : Below w.heap.size w w1) => containsLit_any B m d b w1 (IsG.below keepsLit hB hb) (by omega) (fun x hx => by have := hs x hx; omega)
      rw [hall] at hcon
      have Hcon := Lib.hid hcon
      clear hcon
      go_enter Tryd.func42, Tryd.ntmps42
      go_wp2_with (first
        | (go_at_call 80; go_must (refine Hat.out.mono ?_); rintro e w1 ⟨rfl, hb1⟩; have q1 := Hw1.out w1 hb1; have hbb := hal.trans (hb1.mono hal.size))
        | (go_at_call 81; go_must (refine (Hcon.out _ hbb).mono ?_); rintro e w2 ⟨rfl, hb2⟩))
      go_ret2
      exact ⟨rfl, hbb.trans (hb2.mono hbb.size)⟩
set_option maxRecDepth 100000 in
set_option maxHeartbeats 8000000 in
theorem compile_yes (c : Cls) (A : Option Addr) (n cap : Nat) (t : List C) (B : Option Addr) (m d : Nat) (b : List (Bool × List C)) (w : World) (h : IsC w A n cap t) (hB : IsLs w B m d b) (hc : IsCls c (t, b)) (hmay : mayB (t, b) = true) :
    Calls Tryd.prog 42 #[.agg #[.slice A n cap, .slice B m d]] w (RetK w (compF c)) := by
  have hmm := @run_makeMap Tryd.prog
  obtain ⟨hh, ⟨hok, hsz, hk3⟩, hbody, hbok, hblen⟩ := hc
  simp only at hh hbody
  subst hh
  have hmay' := hmay
  simp only [mayB, Bool.and_eq_true, decide_eq_true_eq] at hmay'
  obtain ⟨h1, h2, h3⟩ := hmay'
  have hal : Below w.heap.size w (w.alloc (.cells #[.slice A n cap, .slice B m d] 25)) := (Below.refl _ _).alloc (Nat.le_refl _) _
  have hnl := h.len
  rw [flat_size] at hnl
  have hat := atom_any A n cap _ _ (h.below hal) (by omega)
  have hml := hB.len
  rw [h1] at hat
  have Hat := Lib.hid hat
  have hm8 : ¬ ((8 : Int) < (m : Int)) := by omega
  have hbs : ∀ x ∈ b, x.2.length ≤ 200 := by
    rw [← hbody]
    intro x hx
    obtain ⟨l, hl, rfl⟩ := List.mem_map.1 hx
    have := (hbok l hl).2.1
    simp [flat_size]; omega
  have hcon := fun w1 (hb : Below w.heap.size w w1) => containsLit_any B m d b w1 (IsG.below keepsLit hB hb) (by omega) (fun x hx => by have := hbs x hx; omega)
  rw [h3] at hcon
  have Hcon := Lib.hid hcon
  obtain ⟨b0, off0, rfl, hb0, e0, e1, e2, hn0⟩ := h.tm
  have hn0' : (0 : Int) < (n : Int) := by omega
  have E1 := Lib.hid e1
  have E2 := Lib.hid e2
  have Hbody := Lib.hid hbody
  have Hbok := Lib.hid hbok
  have h6 := args_len hok
  have hw0 := c0_wf hok
  have hc0n : c.head.c0.n = (startF c.head).next := by
    obtain ⟨nm, us, he⟩ := (c0_kind3 c.head).1 hk3
    rw [he]; rfl
  clear hat hcon h1 h2 h3 hmay e0 hbody hbok
  go_enter Tryd.func42, Tryd.ntmps42
  go_upto_region 5 with (first
    | (go_at_call 80; go_must (refine Hat.out.mono ?_); rintro e w1 ⟨rfl, hb1⟩; have x1 := ((hb1.block w.heap.size (by simp)).trans (alloc_at (w := w) (g := w.heap.size) rfl)); have q1 := cells_of x1 1; have q0 := cells_of x1 0; simp at q0 q1; have hbb := hal.trans (hb1.mono hal.size))
    | (go_at_call 81; go_must (refine (Hcon.out _ hbb).mono ?_); rintro e w2 ⟨rfl, hb2⟩; have hs12 := hb1.size; simp at hs12; have x2 := (hb2.block w.heap.size (by omega)).trans x1; have p0 := cells_of x2 0; have p1 := cells_of x2 1; simp at p0 p1; have hbb2 := hbb.trans (hb2.mono hbb.size); have r2 := ((bcell hbb2).1 b0 (off0 + 2) hb0).trans E2.out; have r1 := ((bcell hbb2).1 b0 (off0 + 1) hb0).trans E1.out; have hb02 := Nat.lt_of_lt_of_le hb0 hbb2.size; have hs2 := hb2.size))
  refine wp_world (Φ := fun X => Below w2.heap.size w2 X ∧ w2.heap.size + 2 ≤ X.heap.size ∧ MapI Tryd.prog 3 X w2.heap.size [] ∧ X.heap[w2.heap.size + 1]? = some (.cells #[.slice none 0 0, .int .i64 (startF c.head).next, .map (some w2.heap.size)] 145 (0, 0)))
    ⟨((Below.refl _ _).alloc (Nat.le_refl _) _).alloc (by simp) _, by simp, (MapI.made w2 _ _).block (alloc_past (by simp)), alloc_at (by simp)⟩ ?_
  rintro X ⟨hbX, hsX, hmX, hxm⟩
  obtain ⟨bm, hbm⟩ : ∃ bm, bm = w2.heap.size + 1 := ⟨_, rfl⟩
  obtain ⟨bq, hbq⟩ : ∃ bq, bq = w2.heap.size := ⟨_, rfl⟩
  rw [← hbm] at hxm ⊢
  rw [← hbq] at hxm hmX
  have hws := hbb2.size
  have hM : Mk X w.heap.size bm bq (startF c.head) := ⟨⟨none, 0, 0, by omega, by omega, hxm, OwnG.nil _ _ _, hmX⟩, start_fit _ h6⟩
  have hbwX := hbb2.trans (hbX.mono hbb2.size)
  have hcb : cblk X bm = none := cblk_of hxm
  have fc : Free X bm bq w.heap.size := ⟨by omega, by omega, by omega, by rw [hcb]; simp⟩
  have hsw2 : w.heap.size < w2.heap.size := by omega
  have xc := (hbX.block w.heap.size hsw2).trans x2
  have hroom0 : (startF c.head).room (rwt (numbered 0 c.head.args) + (lwt c.body + 1)) := by
    have h1 := rwt_numbered c.head.args 0
    have h2 := lwt_le c.body (fun l hl => (Hbok.out l hl).2.1)
    have h3 := size_args c.head
    exact ⟨by simp [startF]; omega, by simp [startF]; omega, by simp [startF]; omega⟩
  have hroomh : (startF c.head).room (2 * sizes c.head.args) := by
    have h3 := size_args c.head
    exact ⟨by simp [startF]; omega, by simp [startF]; omega, by simp [startF]; omega⟩
  have hroom1 := headsF_room (sizes c.head.args) _ _ _ hroom0
  have Hroom1 := Lib.hid hroom1
  have z0 := cells_of xc 0
  have z1 := cells_of xc 1
  simp at z0 z1
  have hhd := mHead_any w w.heap.size bm bq (startF c.head) c.head _ n cap X h hbwX (Nat.le_refl _) hM hok hsz hroomh
  have Hhd := Lib.hid hhd
  clear hhd hroom0 hroomh hroom1 hM hcb hxm hmX q0 q1 p0 p1 r1 r2 x1 x2 Hcon Hat hbm hbq
  have Hc0n := Lib.hid hc0n
  clear hc0n
  go_wp2_with (first
    | (go_at_call 82; go_must (refine Hhd.out.mono ?_); rintro e w3 ⟨rfl, hM3, hb3, hk3'⟩; have f3 := hk3'.free _ fc; have z13 := cells_of (f3.1.trans xc) 1; have z03 := cells_of (f3.1.trans xc) 0; simp at z13 z03; have hb30 := hbwX.trans hb3))
  obtain ⟨tot, htot⟩ : ∃ tot, bodyF (headsF (sizes c.head.args) (startF c.head) (numbered 0 c.head.args)) c.body = tot := ⟨_, rfl⟩
  have Htot := Lib.hid htot
  obtain ⟨sh, hsh⟩ : ∃ sh, headsF (sizes c.head.args) (startF c.head) (numbered 0 c.head.args) = sh := ⟨_, rfl⟩
  rw [hsh] at hM3 Hroom1
  have htot1 : bodyF sh (c.body.drop 0) = tot := by rw [← hsh]; exact htot
  have Htot1 := Lib.hid htot1
  have hbl : c.body.length = m := by rw [← hml, ← Hbody.out, List.length_map]
  have f3f := f3.2
  have xc3 := f3.1.trans xc
  clear htot htot1
  go_loopw [39] (fun i wr => ∃ (j : Nat) (st : St), j ≤ m ∧ i = .int .i64 j ∧ Mk wr w.heap.size bm bq st ∧ Hid (bodyF st (c.body.drop j) = tot) ∧ Hid (st.room (lwt (c.body.drop j) + 1)) ∧ Below w.heap.size w wr ∧ Free wr bm bq w.heap.size ∧ wr.heap[w.heap.size]? = some (.cells #[.slice (some ⟨b0, off0, none⟩) n cap, .slice B m d] 25 (0, 0))) (fun i _ => m - (intOf i).toNat)
  case atStart => exact ⟨0, sh, Nat.zero_le _, rfl, hM3, Htot1, by simpa using Hroom1, hb30, f3f, xc3⟩
  case round =>
    clear hM3 Htot1 Hroom1 hb30 f3f xc3 z13 z03 f3 hk3' hb3 Hhd hbwX hbX
    obtain ⟨j, st, hj, rfl, hM4, hres, hroom, hb4, hf4, hx4⟩ := hrel
    have hM4lt := hM4.lt
    by_cases hlt : j < m
    · obtain ⟨l, hl⟩ : ∃ l, c.body[j]? = some l := ⟨_, List.getElem?_eq_getElem (by omega)⟩
      have hlb : b[j]? = some (l.neg, l.t.flat) := by rw [← Hbody.out, List.getElem?_map, hl]; rfl
      obtain ⟨l1, l2, l3⟩ := Hbok.out l (List.mem_of_getElem? hl)
      have hd := drop_get hl
      obtain ⟨b5, off5, v5, rfl, hb5, _, ⟨A', n', c', rfl, hcl⟩, hcells⟩ := hB.at_ hlb
      have g0 := ((bcell hb4).1 b5 _ hb5).trans (hcells 0 _ rfl)
      have g1 := ((bcell hb4).1 b5 _ hb5).trans (hcells 1 _ rfl)
      simp only [Nat.add_zero] at g0
      have hb5' := Nat.lt_of_lt_of_le hb5 hb4.size
      have hcap := hB.cap_le
      have hr := hroom.out
      rw [hd] at hr
      simp only [lwt] at hr
      have Hd := Lib.hid hd
      have hroom5 := litF_room (s := st) (l := l) (k := lwt (c.body.drop (j + 1)) + 1) (hr.le (by omega))
      have Hroom5 := Lib.hid hroom5
      have hal5 : Below wr.heap.size wr (wr.alloc (.cells #[.bool l.neg, .slice A' n' c'] 36)) := (Below.refl _ _).alloc (Nat.le_refl _) _
      have hKal : Kept wr (wr.alloc (.cells #[.bool l.neg, .slice A' n' c'] 36)) bm bq := Kept.below hal5 hM4lt.2.1
      have hlit := mLiteral_any w w.heap.size bm bq (Nat.le_refl _) st l A' n' c' (wr.alloc (.cells #[.bool l.neg, .slice A' n' c'] 36)) l3 hcl (hb4.trans (hal5.mono hb4.size)) (hM4.keep hal5) l1 l2 (hr.le (by omega))
      have Hlit := Lib.hid hlit
      clear hlit hroom5 hr hd hcells hlb hl
      go_wp2_with (first
        | (go_at_call 83; go_must (refine Hlit.out.mono ?_); rintro e w5 ⟨rfl, hM5, hb5', hk5⟩))
      have hkk := hKal.trans hk5
      go_roundw
      case rel =>
        refine ⟨j + 1, litF st l, by omega, by go_num, hM5, Lib.hid ?_, Hroom5, hb4.trans (Below.trans (hal5.mono hb4.size) hb5'), (hkk.free _ hf4).2, (hkk.free _ hf4).1.trans hx4⟩
        have := hres.out
        rw [Hd.out, bodyF_cons] at this
        exact this
      case measure => simp [intOf]; omega
    · have hres' := hres.out
      rw [drop_end hbl hlt] at hres'
      have hroom' := hroom.out
      rw [drop_end hbl hlt] at hroom'
      have hst : st = tot := hres'
      subst hst
      have hfin : compF c = (st.emit (lastI c.head)).code := by
        unfold compF
        rw [Htot.out]
        rfl
      have Hfin := Lib.hid hfin
      have hrc := hroom'.code
      simp only [lwt] at hrc
      have y0 := cells_of hx4 0
      have y1 := cells_of hx4 1
      simp at y0 y1
      have r2 := ((bcell hb4).1 b0 (off0 + 2) hb0).trans E2.out
      have r1 := ((bcell hb4).1 b0 (off0 + 1) hb0).trans E1.out
      have hb04 := Nat.lt_of_lt_of_le hb0 hb4.size
      have hlt4 := hf4.lt
      have hMd := hM4.keep (Below.refl _ _).drew
      have hwn : c.head.c0.name.size ≤ maxLen := hw0.name
      have hwn2 : i64 c.head.c0.n := hw0.n
      clear hres hroom hres' hroom' hfin hx4
      go_wp2
      go_still_tail 12, (by kernel_rfl)
      change wpList _ _ _ _ _ wr.drew
      have hbd : Below w.heap.size w wr.drew := hb4.drew
      clear r1 r2 y0 y1 hb4 hM4 hM4lt hf4 hlt4 hb04 hj hlt xc z0 z1
      generalize wr.drew = wd at *
      go_wp2_with (first
        | (go_at_call 84; go_must (refine (mEmit_any w.heap.size bm bq st { op := 13, name := c.head.c0.name, n := c.head.c0.n } wd hMd (wfI (i64_small (by decide) (by decide)) i64_0 i64_0 hwn2 hwn) (by omega)).mono ?_); rintro e w7 ⟨rfl, hM7, hb7, hk7⟩; obtain ⟨A9, n9, cap9, c9, hk9, hm9lt⟩ := hM7.code_is))
      go_ret2
      refine ⟨A9, n9, cap9, rfl, ?_, hbd.trans hb7⟩
      rw [Hfin.out]
      exact hk9
end Go.Proofs.YtgipiplklaeplaaDoor
namespace Go.Proofs.YtgipiplklaeplaaDoor
open Go.RowKit
theorem funsC_le2 : ∀ l : List C, funsC l ≤ l.length
  | [] => Nat.le_refl _
  | c :: l => by
    have := funsC_le2 l
    rw [funsC, List.length_cons]
    split <;> omega
theorem lwtC_le2 : ∀ ls : List Ltl, (∀ l ∈ ls, l.t.size ≤ 200) → lwtC ls ≤ 400 * ls.length
  | [], _ => by simp [lwtC]
  | l :: ls, h => by
    have h1 := lwtC_le2 ls (fun x hx => h x (by simp [hx]))
    have h2 := h l (by simp)
    have h3 := size_args l.t
    have h4 := funsC_le2 l.t.flat
    have h5 := flat_size l.t
    rw [lwtC, List.length_cons]
    omega
/-- a clause's code is short -/
theorem compF_len4 {c : Cls} {r : Raw} (h : IsCls c r) : (compF c).length ≤ 4000 := by
  have h1 := code_many c fun l hl => (h.bok l hl).2.2
  have h2 := lwtC_le2 c.body fun l hl => (h.bok l hl).2.1
  have h3 := size_args c.head
  have h4 := funsC_le2 (flats c.head.args)
  have h5 := flats_size c.head.args
  have h6 := h.hok.2.1
  have h7 := h.len
  omega
theorem cls_may {c : Cls} {r : Raw} (h : IsCls c r) : mayB r = true := by
  have key : ∀ T : Tm, T.ok = true → T.size ≤ 200 → T.c0.kind = 3 → atomB T.flat = true := fun T h1 h2 h3 => by
    unfold atomB
    rw [right_flat h1 h2, flat_cons]
    simp [h3]
  obtain ⟨t, b⟩ := r
  obtain ⟨hh, ⟨hok, hsz, hk3⟩, hbody, hbok, hblen⟩ := h
  simp only at hh hbody
  subst hh hbody
  simp only [mayB, Bool.and_eq_true, decide_eq_true_eq, List.all_eq_true]
  refine ⟨key _ hok hsz hk3, by simpa using hblen, ?_⟩
  intro l hl
  obtain ⟨l', hl', rfl⟩ := List.mem_map.1 hl
  obtain ⟨h1, h2, h3⟩ := hbok l' hl'
  exact key _ h1 h2 h3
end Go.Proofs.YtgipiplklaeplaaDoor
namespace Go.Proofs.YtgipiplklaeplaaDoor
open Go.RowKit
/-- the terms at goals' places -/
def getsL (l : List C) : List (Bool × Int) → Option (List (Bool × List C))
  | [] => some []
  | g :: gs => match getZ l g.2, getsL l gs with
    | some t, some b => some ((g.1, t) :: b)
    | _, _ => none
def getsZ (l : List C) (p : Int) (gs : List (Bool × Int)) : Option Raw := match getZ l p, getsL l gs with
  | some t, some b => some (t, b)
  | _, _ => none
/-- what Resolve hands back: a clause, or an error -/
noncomputable def resZ (A : Tm) (c : Cls) (room : Int) : Raw ⊕ Int :=
  if A.c0.beq c.head.c0 = false then .inr 3
  else if ((putA [] A []).1.length : Int) ≤ newF room then
    (match out (resM A (newF room)) (compF c) with
    | .ok m _ => (match getsZ m.l 0 m.goals with | some r => .inl (numR r) | none => .inr 2)
    | .err e _ => .inr e
    | .bad => .inr 0)
  else .inr 80
def RetRz (w : World) (o : Raw ⊕ Int) (e : Ending) (w' : World) : Prop := match o with
  | .inl r => ∃ A n c B m d, e = .returned (.tuple #[.slice A n c, .slice B m d, .int .i64 0]) ∧ IsC w' A n c r.1 ∧ IsLs w' B m d r.2 ∧ Below w.heap.size w w'
  | .inr x => e = .returned (.tuple #[.slice none 0 0, .slice none 0 0, .int .i64 x]) ∧ Below w.heap.size w w'
theorem getsL_snoc (l : List C) (g : Bool × Int) : ∀ gs : List (Bool × Int), getsL l (gs ++ [g]) = match getsL l gs, getZ l g.2 with
    | some b, some t => some (b ++ [(g.1, t)])
    | _, _ => none
  | [] => by
    simp only [List.nil_append, getsL]
    cases getZ l g.2 <;> rfl
  | g' :: gs => by
    rw [List.cons_append, getsL, getsL_snoc l g gs, getsL]
    cases getZ l g'.2 <;> cases getsL l gs <;> cases getZ l g.2 <;> rfl
theorem getsL_len {l : List C} : ∀ {gs : List (Bool × Int)} {b : List (Bool × List C)}, getsL l gs = some b → b.length = gs.length
  | [], b, h => by simp [getsL] at h; subst h; rfl
  | g :: gs, b, h => by
    rw [getsL] at h
    cases h1 : getZ l g.2 with
    | none => rw [h1] at h; simp at h
    | some t =>
      rw [h1] at h
      cases h2 : getsL l gs with
      | none => rw [h2] at h; simp at h
      | some b2 =>
        rw [h2] at h
        simp at h
        subst h
        simp [getsL_len h2]
/-- numbered by more names, a term stays -/
theorem turn_more {ns zs : List Int} {t : List C} (hn : (ns ++ zs).Nodup) (ht : ∀ x ∈ varsF t, x ∈ ns) : turnF (placeI (ns ++ zs)) t = turnF (placeI ns) t := by
  unfold turnF
  apply List.map_congr_left
  intro c hc
  by_cases hk : c.kind = 1
  · rw [if_pos hk, if_pos hk, place_ext hn (ht _ (mem_vars.2 ⟨c, hc, hk, rfl⟩))]
  · rw [if_neg hk, if_neg hk]
end Go.Proofs.YtgipiplklaeplaaDoor
namespace Go.Proofs.YtgipiplklaeplaaDoor
open Go.RowKit
/-- a literal whose cells are the call's own -/
def RLo (w : World) (base : Nat) (p : Bool × List C) (v : List Value) : Prop := ∃ A c, v = [.bool p.1, .slice A p.2.length c] ∧ w.ownsRow base 66 3 (.slice A p.2.length c) p.2.length (flatC p.2) ∧ (∀ c ∈ p.2, c.wf)
theorem RLo.kt {T : List TypeId} {w w' : World} {base : Nat} {p : Bool × List C} {v : List Value} (h : RLo w base p v) (hk : KT T w w') (ht : 66 ∉ T) : RLo w' base p v := by
  obtain ⟨A, c, h1, h2, h3⟩ := h
  exact ⟨A, c, h1, hk.own ht h2, h3⟩
structure RvY (w : World) (base : Nat) (l : List C) (p0 : Int) (gs : List (Bool × Int)) (ns : List Int) (o : Value) (vs : List (List Value)) (t : List C) (b : List (Bool × List C)) : Prop where
  top : getZ l p0 = some t
  body : getsL l gs = some b
  names : ns = varsLr (varsF t) b
  out : ∃ A c, o = .slice A t.length c ∧ w.ownsRow base 66 3 (.slice A t.length c) t.length (flatC (turnF (placeI ns) t))
  wf : ∀ c ∈ turnF (placeI ns) t, c.wf
  len : vs.length = b.length
  lits : ∀ (i : Nat) (q : Bool × List C) (v : List Value), b[i]? = some q → vs[i]? = some v → RLo w base (q.1, turnF (placeI ns) q.2) v
/-- what was found, or that something is not there -/
def RvZ (w : World) (base : Nat) (l : List C) (p0 : Int) (gs : List (Bool × Int)) (x : Int) (ns : List Int) (o : Value) (vs : List (List Value)) : Prop :=
  (x = 0 ∧ ∃ t b, RvY w base l p0 gs ns o vs t b) ∨ (x = 2 ∧ getsZ l p0 gs = none)
theorem RvY.kt {T : List TypeId} {w w' : World} {base : Nat} {l : List C} {p0 : Int} {gs : List (Bool × Int)} {ns : List Int} {o : Value} {vs : List (List Value)} {t : List C} {b : List (Bool × List C)} (h : RvY w base l p0 gs ns o vs t b) (hk : KT T w w') (ht : 66 ∉ T) : RvY w' base l p0 gs ns o vs t b := by
  obtain ⟨A, c, h1, h2⟩ := h.out
  exact ⟨h.top, h.body, h.names, ⟨A, c, h1, hk.own ht h2⟩, h.wf, h.len, fun i q v hq hv => (h.lits i q v hq hv).kt hk ht⟩
theorem RvZ.kt {T : List TypeId} {w w' : World} {base : Nat} {l : List C} {p0 : Int} {gs : List (Bool × Int)} {x : Int} {ns : List Int} {o : Value} {vs : List (List Value)} (h : RvZ w base l p0 gs x ns o vs) (hk : KT T w w') (ht : 66 ∉ T) : RvZ w' base l p0 gs x ns o vs := by
  rcases h with ⟨h1, t, b, h2⟩ | h
  · exact .inl ⟨h1, t, b, h2.kt hk ht⟩
  · exact .inr h
theorem mergeV_mem (l : List Int) : ∀ (acc : List Int) (x : Int), x ∈ mergeV acc l ↔ x ∈ acc ∨ x ∈ l := by
  induction l with
  | nil => intro acc x; simp [mergeV]
  | cons y l ih =>
    intro acc x
    rw [mergeV_step]
    split
    · rename_i h
      rw [ih]
      rw [inI_iff] at h
      constructor
      · rintro (h1 | h1)
        · exact .inl h1
        · exact .inr (List.mem_cons_of_mem _ h1)
      · rintro (h1 | h1)
        · exact .inl h1
        · rcases List.mem_cons.1 h1 with rfl | h1
          · exact .inl h
          · exact .inr h1
    · rw [ih, List.mem_append, List.mem_singleton, List.mem_cons]
      constructor
      · rintro ((h1 | h1) | h1)
        · exact .inl h1
        · exact .inr (.inl h1)
        · exact .inr (.inr h1)
      · rintro (h1 | h1 | h1)
        · exact .inl (.inl h1)
        · exact .inl (.inr h1)
        · exact .inr h1
theorem mergeV_nodup (l : List Int) : ∀ acc : List Int, acc.Nodup → (mergeV acc l).Nodup := by
  induction l with
  | nil => intro acc h; simpa [mergeV] using h
  | cons y l ih =>
    intro acc h
    rw [mergeV_step]
    split
    · exact ih acc h
    · rename_i hy
      refine ih _ ?_
      rw [inI_iff] at hy
      rw [List.nodup_append]
      refine ⟨h, by simp, ?_⟩
      intro a ha c hc
      simp at hc
      subst hc
      exact fun e => hy (e ▸ ha)
theorem varsLr_nodup : ∀ (b : List (Bool × List C)) (acc : List Int), acc.Nodup → (varsLr acc b).Nodup
  | [], acc, h => h
  | p :: b, acc, h => by
    rw [varsLr, varsA_part]
    exact varsLr_nodup b _ (mergeV_nodup _ _ h)
theorem varsLr_mem : ∀ (b : List (Bool × List C)) (acc : List Int) (x : Int), x ∈ varsLr acc b ↔ x ∈ acc ∨ ∃ p ∈ b, x ∈ varsF p.2
  | [], acc, x => by simp [varsLr]
  | p :: b, acc, x => by
    rw [varsLr, varsLr_mem b, varsA_part, mergeV_mem]
    constructor
    · rintro ((h | h) | ⟨q, h1, h2⟩)
      · exact .inl h
      · exact .inr ⟨p, by simp, h⟩
      · exact .inr ⟨q, by simp [h1], h2⟩
    · rintro (h | ⟨q, h1, h2⟩)
      · exact .inl (.inl h)
      · rcases List.mem_cons.1 h1 with rfl | h1
        · exact .inl (.inr h2)
        · exact .inr ⟨q, h1, h2⟩
theorem mergeV_own {t : List C} : mergeV [] (varsF t) = varsF t := (varsA_part [] t).symm
/-- the head was there -/
theorem RvY.start {w : World} {base : Nat} {l : List C} {p0 : Int} {t : List C} {A : Option Addr} {c : Nat} (h : getZ l p0 = some t) (ho : w.ownsRow base 66 3 (.slice A t.length c) t.length (flatC (turnF (placeI (mergeV [] (varsF t))) t))) (hw : ∀ c ∈ turnF (placeI (mergeV [] (varsF t))) t, c.wf) : RvY w base l p0 [] (mergeV [] (varsF t)) (.slice A t.length c) [] t [] :=
  ⟨h, rfl, mergeV_own, ⟨A, c, rfl, ho⟩, hw, rfl, fun i q v hq => by simp at hq⟩
/-- a goal was there -/
theorem RvY.step {w : World} {base : Nat} {l : List C} {p0 : Int} {gs : List (Bool × Int)} {ns : List Int} {o : Value} {vs : List (List Value)} {t : List C} {b : List (Bool × List C)} (h : RvY w base l p0 gs ns o vs t b) {g : Bool × Int} {u : List C} (hg : getZ l g.2 = some u) {A : Option Addr} {c : Nat} (ho : w.ownsRow base 66 3 (.slice A u.length c) u.length (flatC (turnF (placeI (mergeV ns (varsF u))) u))) (hw : ∀ c ∈ turnF (placeI (mergeV ns (varsF u))) u, c.wf) :
    RvY w base l p0 (gs ++ [g]) (mergeV ns (varsF u)) o (vs ++ [[.bool g.1, .slice A u.length c]]) t (b ++ [(g.1, u)]) := by
  have hnd : ns.Nodup := by rw [h.names]; exact varsLr_nodup b _ (varsF_nodup t)
  obtain ⟨zs, hz⟩ := mergeV_ext (varsF u) ns
  have hnd2 : (ns ++ zs).Nodup := by rw [← hz]; exact mergeV_nodup _ _ hnd
  have htop : ∀ x ∈ varsF t, x ∈ ns := fun x hx => by rw [h.names, varsLr_mem]; exact .inl hx
  have hb : ∀ q ∈ b, ∀ x ∈ varsF q.2, x ∈ ns := fun q hq x hx => by rw [h.names, varsLr_mem]; exact .inr ⟨q, hq, hx⟩
  have et : turnF (placeI (mergeV ns (varsF u))) t = turnF (placeI ns) t := by rw [hz]; exact turn_more hnd2 htop
  obtain ⟨A0, c0, h1, h2⟩ := h.out
  refine ⟨h.top, ?_, ?_, ⟨A0, c0, h1, by rw [et]; exact h2⟩, by rw [et]; exact h.wf, by simp [h.len], fun i q v hq hv => ?_⟩
  · rw [getsL_snoc, h.body, hg]
  · rw [varsLr_append, ← h.names]
    simp only [varsLr, varsA_part]
  · by_cases hi : i < b.length
    · rw [List.getElem?_append_left hi] at hq
      rw [List.getElem?_append_left (by rw [h.len]; exact hi)] at hv
      have := h.lits i q v hq hv
      rw [show turnF (placeI (mergeV ns (varsF u))) q.2 = turnF (placeI ns) q.2 by rw [hz]; exact turn_more hnd2 (hb q (List.mem_of_getElem? hq))]
      exact this
    · rw [List.getElem?_append_right (by omega)] at hq
      rw [List.getElem?_append_right (by rw [h.len]; omega)] at hv
      have hl := h.len
      by_cases hi2 : i = b.length
      · subst hi2
        rw [hl] at hv
        simp at hq hv
        subst hq hv
        refine ⟨A, c, ?_, ?_, hw⟩
        · simp [turnF]
        · have e : (turnF (placeI (mergeV ns (varsF u))) u).length = u.length := by simp [turnF]
          simp only
          rw [e]
          exact ho
      · rw [List.getElem?_eq_none (by simp; omega)] at hq
        cases hq
theorem getsZ_none {l : List C} {p0 : Int} {gs : List (Bool × Int)} (g : List (Bool × Int)) (h : getsZ l p0 gs = none) : getsZ l p0 (gs ++ g) = none := by
  unfold getsZ at h ⊢
  cases h1 : getZ l p0 with
  | none => rfl
  | some t =>
    rw [h1] at h
    have h2 : getsL l gs = none := by
      cases h2 : getsL l gs with
      | none => rfl
      | some b => rw [h2] at h; cases h
    have h3 : ∀ gs : List (Bool × Int), getsL l gs = none → getsL l (gs ++ g) = none := by
      intro gs
      induction gs with
      | nil => intro h; cases h
      | cons y gs ih =>
        intro h
        rw [getsL] at h
        rw [List.cons_append, getsL]
        cases h4 : getZ l y.2 with
        | none => rfl
        | some u =>
          rw [h4] at h
          cases h5 : getsL l gs with
          | none => rw [ih h5]
          | some b => rw [h5] at h; cases h
    rw [h3 _ h2]
theorem getsZ_fail {l : List C} {p0 : Int} {gs : List (Bool × Int)} {g : Bool × Int} (h : getZ l g.2 = none) : getsZ l p0 (gs ++ [g]) = none := by
  unfold getsZ
  rw [getsL_snoc, h]
  cases getZ l p0 <;> cases getsL l gs <;> rfl
end Go.Proofs.YtgipiplklaeplaaDoor
