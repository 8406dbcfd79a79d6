/- The walk of the document's Compile. -/
import Derived.Test.YtdeaeiolehglaaaHeads
import Derived.Test.YtdeaeiolehglaaaRB
import Derived.Test.YtdeaeiolehglaaaComp
import Derived.Test.YtdeaeiolehglaaaMay2
set_option linter.unusedVariables false
set_option linter.unusedSimpArgs false
namespace Go.Proofs.Ytdeaeiolehglaaa
open Go.RowKit

set_option maxRecDepth 100000 in
set_option maxHeartbeats 2000000 in
theorem rcompile_no (A : Option Addr) (n cap : Nat) (t : List C) (B : Option Addr) (m d : Nat) (b : List (Bool × List C)) (w : World) (h : IsC w A n cap t) (hB : IsLs w B m d b) (hn : n ≤ 1000) (hm : m ≤ 100) (hs : ∀ x ∈ b, x.2.length ≤ 1000) (hno : mayB (t, b) = false) :
    Calls Try.prog 16 #[.agg #[.slice A n cap, .slice B m d]] w (RetV w (.tuple #[.slice none 0 0, .int .i64 1])) := by
  have hal : Below w.heap.size w (w.alloc (.cells #[.slice A n cap, .slice B m d] 25)) := (Below.refl _ _).alloc (Nat.le_refl _) _
  have hmay := rMay_any A n cap t B m d b _ (h.below hal) (IsG.below keepsLit hB hal) hn hm hs
  rw [hno] at hmay
  have Hmay := Lib.hid hmay
  clear hmay
  go_enter Try.func16, Try.ntmps16
  go_wp2_with (first | (go_at_call 23; go_must (refine Hmay.out.mono ?_); rintro e w1 ⟨rfl, hb1⟩))
  go_ret2
  exact ⟨rfl, hal.trans (hb1.mono hal.size)⟩
theorem fit_heads : ∀ (f : Nat) (s : St) (row : List (Tm × Int)), s.fit 100000 → s.room (rwt row) → RowOk row → (headsF f s row).fit 100000
  | 0, s, row, h, _, _ => h
  | f + 1, s, [], h, _, _ => h
  | f + 1, s, (t, r) :: row, h, hr, ho => by
    rw [headsF_cons]
    obtain ⟨h1, h2, h3, h4⟩ := ho (t, r) (by simp)
    simp only at h1 h2 h3 h4
    have hst : s.room (1 + 2 * sizes t.args + rwt row) := hr.le (by simp only [rwt]; omega)
    have hroom2 := headF_room (s := s) (p := (t, r)) hst
    have hok2 := headF_ok h1 h2 (hst.le (by simp only; omega)) (s := s) (p := (t, r))
    refine fit_heads f _ _ ?_ (by rw [rwt_append]; exact hroom2.le (by omega)) (RowOk.append (fun p hp => ho p (by simp [hp])) hok2)
    have hc := hst.code
    have hx := hst.next
    have hv := hst.vars
    cases t with
    | v x =>
      have hg := regF_reg h x (by omega)
      exact fit_emit (fit_reg h ⟨by omega, by omega, by omega⟩ (c0_wf h1).n) (by rw [regF_code]; omega) (wfI (by split <;> exact i64_small (by decide) (by decide)) (i64_small (by omega) (by omega)) (i64_small (by omega) (by omega)) i64_0 empty_size)
    | i x => exact fit_emit h (by omega) (wfI (i64_small (by decide) (by decide)) i64_0 (i64_small (by omega) (by omega)) (c0_wf h1).n empty_size)
    | f nm us =>
      have hw := c0_wf h1
      rw [headF_fun s _ r rfl]
      exact fit_unis _ _ (fit_emit h (by omega) (wfI (i64_small (by decide) (by decide)) i64_0 (i64_small (by omega) (by omega)) hw.n hw.name)) (room_emit _ (hst.le (by omega))) (args_ok h1)
/-- a state with no code yet -/
theorem start_at (w : World) (t : Tm) : StAt w none 0 0 none 0 0 none 0 0 (startF t) := by
  have hnil : Sl w 1 none 0 0 [] := ⟨by simp, Nat.le_refl _, by simp [maxLen], fun h => absurd h (by omega)⟩
  exact ⟨IsG.nil (by simp [maxLen]), ⟨by simpa [startF] using hnil, by simp [startF]⟩, ⟨by simpa [startF] using hnil, by simp [startF]⟩⟩

set_option maxRecDepth 100000 in
set_option maxHeartbeats 8000000 in
theorem rcompile_yes (c : Cls) (A : Option Addr) (n cap : Nat) (t : List C) (B : Option Addr) (m d : Nat) (b : List (Bool × List C)) (w : World) (h : IsC w A n cap t) (hB : IsLs w B m d b) (hc : IsCls c (t, b)) (hmay : mayB (t, b) = true) :
    Calls Try.prog 16 #[.agg #[.slice A n cap, .slice B m d]] w (RetK w (compF c)) := by
  obtain ⟨hh, ⟨hok, hsz, hk3⟩, hbody, hbok, hblen⟩ := hc
  simp only at hh hbody
  subst hh
  have hal : Below w.heap.size w (w.alloc (.cells #[.slice A n cap, .slice B m d] 25)) := (Below.refl _ _).alloc (Nat.le_refl _) _
  have hnl := h.len
  rw [flat_size] at hnl
  have hml := hB.len
  have hm8 : m ≤ 8 := by have := congrArg List.length hbody; simp at this; omega
  have hbs : ∀ x ∈ b, x.2.length ≤ 200 := by
    rw [← hbody]
    intro x hx
    obtain ⟨l, hl, rfl⟩ := List.mem_map.1 hx
    have := (hbok l hl).2.1
    simp [flat_size]; omega
  have hmy := rMay_any A n cap _ B m d b _ (h.below hal) (IsG.below keepsLit hB hal) (by omega) (by omega) (fun x hx => by have := hbs x hx; omega)
  rw [hmay] at hmy
  have Hmay := Lib.hid hmy
  obtain ⟨b0, off0, rfl, hb0, e0, e1, e2, hn0⟩ := h.tm
  have hn0' : (0 : Int) < (n : Int) := by omega
  have Hbody := Lib.hid hbody
  have Hbok := Lib.hid hbok
  have Hml := Lib.hid hml
  have h6 := args_len hok
  have hw0 := c0_wf hok
  have hpf := parts_flat hok hsz
  have hright := right_flat hok hsz
  have hparts := fun X (hb : Below w.heap.size w X) => rParts_w w (some ⟨b0, off0, none⟩) n cap c.head.flat X h hb hright
  rw [hpf] at hparts
  have Hparts := Lib.hid hparts
  clear hmy hmay hbody hbok hml hpf hright hparts e0
  go_enter Try.func16, Try.ntmps16
  go_wp2_with (first
    | (go_at_call 23; go_must (refine Hmay.out.mono ?_); rintro e w1 ⟨rfl, hb1⟩; have x1 := ((hb1.block w.heap.size (by simp)).trans (alloc_at (w := w) (g := w.heap.size) rfl)); have q1 := cells_of x1 1; have q0 := cells_of x1 0; simp at q0 q1; have hbb := hal.trans (hb1.mono hal.size); have hx1 := block_lt x1)
    | (go_at_call 27; go_must (refine (Hparts.out _ hbb).mono ?_); rintro e w3 ⟨Ap, np, cp, vs, rfl, hlp, hop, hrows, hb3⟩))
  have hsp := Sl.own hop (by omega)
  rw [List.length_map] at hlp
  have Hlp := Lib.hid hlp
  have hnp6 : np ≤ 6 := by omega
  have x3 := (hb3.block w.heap.size hx1).trans x1
  have hb4 : Below w.heap.size w w3 := hbb.trans (hb3.mono hbb.size)
  obtain ⟨g, hg⟩ : ∃ g, g = w.heap.size := ⟨_, rfl⟩
  rw [← hg] at x3 ⊢
  have hgw : w.heap.size ≤ g := by omega
  have hg3 := block_lt x3
  clear hlp x1 q0 q1 hx1 hg
  go_loopw [5, 6] (fun o i wr => ∃ (k : Nat) (Ar : Option Addr) (cr : Nat), k ≤ np ∧ i = .int .i64 k ∧ o = .slice Ar k cr ∧ TailG (RArgW w) 2 wr w3.heap.size 69 Ar k cr (numbered 0 (c.head.args.take k)) ∧ Below w3.heap.size w3 wr) (fun _ i _ => np - (intOf i).toNat)
  case atStart => exact ⟨0, _, 0, Nat.zero_le _, rfl, rfl, TailG.nil _ _ _ _, (Below.refl _ _).alloc (Nat.le_refl _) _⟩
  case round =>
    obtain ⟨k, Ar, cr, hk, rfl, rfl, hrow, hbr⟩ := hrel
    by_cases hlt : k < np
    · obtain ⟨t, ht⟩ : ∃ t, c.head.args[k]? = some t := ⟨_, List.getElem?_eq_getElem (by have := Hlp.out; omega)⟩
      obtain ⟨A', n', c', hv, hc⟩ := hrows.2 k t.flat (by rw [List.getElem?_map, ht]; rfl)
      obtain ⟨bp, op_, rfl, hbp, hcp⟩ := hsp.cells (by omega)
      have hcell := (hbr.cell (p := ⟨bp, op_ + k, none⟩) hbp).trans (hcp k _ hv)
      have hcap := hsp.hcap
      obtain ⟨us, u1, u2, htail, u4⟩ := hrow.rows
      have Ht := Lib.hid ht
      have hbw := hb3.size
      have hbs := hbr.size
      clear ht hv hcp
      go_wp2_with (first
        | (at_builtin; go_must (refine wpList_append_tail (xs := us.flatten) rfl (.tmp 24) (.tmp 31) 67 rfl w3.heap.size 69 Try.underlying67 infoArgR rfl (by omega) rfl (htail.below ((Below.refl _ _).alloc (Nat.le_refl _) _)) rfl (Sl.blk (cs := #[.slice A' n' c', .int .i64 k]) (t := 69) (alloc_at rfl) rfl (by simp [maxLen])) (by simp [Value.oneCell']) (by omega) (by omega) (by omega) (by simp; omega) ?_); intro A1 cap1 w1 hc1 ht1 hb1 hap))
      have hb4 : Below w3.heap.size w3 w1 := (hbr.alloc hbs _).trans hb1
      go_roundw
      case rel =>
        refine ⟨k + 1, A1, cap1, by omega, by go_num, rfl, ?_, hb4⟩
        rw [take_snoc Ht.out, numbered_snoc]
        have hlen : (c.head.args.take k).length = k := by rw [List.length_take]; have := Hlp.out; omega
        rw [hlen, Nat.zero_add]
        exact TailG.snoc ht1 hrow.len u1 u2 rfl u4 ⟨A', n', c', rfl, hc⟩
      case measure => simp [intOf]; omega
    · have hkn : np = k := by omega
      subst hkn
      have hrow0 : IsG (RArgW w) 2 wr Ar np cr (numbered 0 c.head.args) := by
        have := hrow.is (by omega)
        rwa [List.take_of_length_le (by have := Hlp.out; omega)] at this
      clear hrow hlt hrows hsp hop
      have hbw3 : Below w.heap.size w wr := hb4.trans (hbr.mono hb4.size)
      have hroom0 : (startF c.head).room (rwt (numbered 0 c.head.args) + (lwt c.body + 1)) := by
        have h1 := rwt_numbered c.head.args 0
        have h2 := lwt_le c.body (fun l hl => (Hbok.out l hl).2.1)
        have h3 := size_args c.head
        exact ⟨by simp [startF]; omega, by simp [startF]; omega, by simp [startF]; omega⟩
      have hrok : RowOk (numbered 0 c.head.args) := fun p hp => by
        obtain ⟨h1, h2, h3⟩ := numbered_mem hp
        have := size_mem h1
        have := size_args c.head
        exact ⟨ok_mem (args_ok hok) h1, by omega, h2, by omega⟩
      have hheads := heads_any w (sizes c.head.args) (startF c.head) (numbered 0 c.head.args) none 0 0 none 0 0 none 0 0 Ar np cr wr (start_at wr c.head) (start_fit _ h6) (hroom0.le (by omega)) hrok (Nat.le_of_eq (rsz_numbered _ _)) hrow0 hbw3
      obtain ⟨s2, hs2⟩ : ∃ s2, headsF (sizes c.head.args) (startF c.head) (numbered 0 c.head.args) = s2 := ⟨_, rfl⟩
      have hroom2 : s2.room (lwt c.body + 1) := by rw [← hs2]; exact headsF_room _ _ _ _ hroom0
      have hfit2 : s2.fit 100000 := by rw [← hs2]; exact fit_heads _ _ _ (start_fit _ h6) (hroom0.le (by omega)) hrok
      have hcompF : compF c = (bodyF s2 c.body).code ++ [lastI c.head] := by rw [compF, hs2]
      rw [hs2] at hheads
      have hstn : (startF c.head).next = np := by simp [startF]; exact Hlp.out
      unfold stVal at hheads
      rw [hstn] at hheads
      have Hheads := Lib.hid hheads
      have HcompF := Lib.hid hcompF
      have Hroom2 := Lib.hid hroom2
      clear hroom0 hrok hheads hs2 hcompF hroom2 hstn hrow0
      go_wp2_with (first
        | (go_at_call 34; go_must (refine Hheads.out.mono ?_); rintro e w5 ⟨A2, n2, c2, B2, m2, d2, D2, p2, q2, rfl, hst5, hb5⟩; simp only [stVal]))
      have hbw5 : Below w.heap.size w w5 := hbw3.trans (hb5.mono hbw3.size)
      have x5 := (hb5.block g (by have := hbr.size; omega)).trans ((hbr.block g hg3).trans x3)
      have hg5 := block_lt x5
      refine wp_world' (Φ := fun V => Below w.heap.size w V ∧ V.heap[w5.heap.size]? = some (.cells #[.slice A2 n2 c2, .int .i64 s2.next, .slice B2 m2 d2, .slice D2 p2 q2] 72 (0, 0)) ∧ StAt V A2 n2 c2 B2 m2 d2 D2 p2 q2 s2 ∧ V.heap[g]? = some (.cells #[.slice (some ⟨b0, off0, none⟩) n cap, .slice B m d] 25 (0, 0)))
        ⟨hbw5.alloc hbw5.size _, alloc_at rfl, hst5.below ((Below.refl _ _).alloc (Nat.le_refl _) _), (alloc_past hg5).trans x5⟩ ?_
      rintro V ⟨hbV, v0, hstV, vg⟩
      obtain ⟨b7, hb7e⟩ : ∃ b7, b7 = w5.heap.size := ⟨_, rfl⟩
      rw [← hb7e] at v0 ⊢
      have hoff := hst5.off (b := b7) (by omega)
      have hg7 : ¬ g = b7 := by omega
      have hg7' : ¬ b7 = g := by omega
      have hl7 := block_lt v0
      have hlg := block_lt vg
      have hw7 : w.heap.size ≤ b7 := by have := hbw5.size; omega
      clear hb7e x5 hg5 hst5 hb5 hbw5 hbw3 hbr x3 hg3 hb4 hb3 hbb hb1 hal
      obtain ⟨tot, htot⟩ : ∃ tot, bodyF s2 c.body = tot := ⟨_, rfl⟩
      have Htot := Lib.hid htot
      have hstart : bodyF s2 (c.body.drop 0) = tot := by simpa using htot
      have Hstart := Lib.hid hstart
      clear htot hstart
      go_loopw [8] (fun i wr => ∃ (k : Nat) (st : St) (A2 : Option Addr) (n2 c2 : Nat) (B2 : Option Addr) (m2 d2 : Nat) (D2 : Option Addr) (p2 q2 : Nat), k ≤ m ∧ i = .int .i64 k ∧
          wr.heap[b7]? = some (.cells #[.slice A2 n2 c2, .int .i64 st.next, .slice B2 m2 d2, .slice D2 p2 q2] 72 (0, 0)) ∧ StAt wr A2 n2 c2 B2 m2 d2 D2 p2 q2 st ∧ (Off A2 n2 b7 ∧ Off B2 m2 b7 ∧ Off D2 p2 b7) ∧ st.fit 100000 ∧
          Hid (bodyF st (c.body.drop k) = tot) ∧ Hid (st.room (lwt (c.body.drop k) + 1)) ∧ But V wr b7) (fun i _ => m - (intOf i).toNat)
      case atStart => exact ⟨0, s2, A2, n2, c2, B2, m2, d2, D2, p2, q2, Nat.zero_le _, rfl, v0, hstV, hoff, hfit2, Hstart, by simpa using Hroom2, But.refl _ _⟩
      case round =>
        clear v0 hstV hoff hfit2 Hstart Hroom2
        obtain ⟨k, st, A2, n2, c2, B2, m2, d2, D2, p2, q2, hk, rfl, hx0, h2, ⟨hoA, hoB, hoD⟩, hfit, hres, hroom, hbut⟩ := hrel
        have hxg := (hbut.block g hlg hg7).trans vg
        obtain ⟨u0, u1, ul⟩ := open2 hxg
        obtain ⟨y0, y1, y2, y3, f0, f1, f2, f3, hlb0⟩ := open4 hx0
        have hWr : Below w.heap.size w wr := hbV.trans (hbut.below hw7 hbV.size)
        by_cases hlt : k < m
        · obtain ⟨l, hl⟩ : ∃ l, c.body[k]? = some l := ⟨_, List.getElem?_eq_getElem (by have h1 := congrArg List.length Hbody.out; have := Hml.out; simp at h1; omega)⟩
          obtain ⟨hlok, hlsz, hlk⟩ := Hbok.out l (List.mem_of_getElem? hl)
          have hxl : b[k]? = some (l.neg, l.t.flat) := by rw [← Hbody.out, List.getElem?_map, hl]; rfl
          obtain ⟨bl, off, v, rfl, hbl, _, ⟨A', n', c', rfl, hcx⟩, hcells⟩ := hB.at_ hxl
          have g0 := hcells 0 _ rfl
          have g1 := hcells 1 _ rfl
          simp only [Nat.add_zero] at g0
          obtain ⟨hcW, _⟩ := bcell hWr
          have l0 := (hcW bl _ hbl).trans g0
          have l1 := (hcW bl _ hbl).trans g1
          have hbl2 : bl < wr.heap.size := Nat.lt_of_lt_of_le hbl hWr.size
          have hcap := hB.cap_le
          have hd := drop_get hl
          have hrm := hroom.out
          rw [hd] at hrm
          have e9 : lwt (l :: c.body.drop (k + 1)) = (bwt l.t + 1) + lwt (c.body.drop (k + 1)) := rfl
          rw [e9] at hrm
          obtain ⟨s5, hs5⟩ : ∃ s5, (buildF st l.t).1 = s5 := ⟨_, rfl⟩
          obtain ⟨r5, hr5⟩ : ∃ r5, (buildF st l.t).2 = r5 := ⟨_, rfl⟩
          have hfit5 : s5.fit 100000 := by rw [← hs5]; exact fit_build _ _ hfit (hrm.le (by omega)) hlok
          have hroom5 : s5.room (lwt (c.body.drop (k + 1)) + 2) := by rw [← hs5]; exact buildF_room _ _ _ (hrm.le (by omega))
          have hr5s : -1 ≤ r5 ∧ r5 ≤ 100000 := by rw [← hr5]; exact buildF_small _ _ (hrm.le (by omega))
          have hres5 : bodyF (s5.emit { op := 12, a := r5, neg := l.neg }) (c.body.drop (k + 1)) = tot := by
            have := hres.out
            rw [hd, bodyF_cons] at this
            rw [← hs5, ← hr5]
            exact this
          have Hres5 := Lib.hid hres5
          have Hroom5 := Lib.hid hroom5
          have hbuild := fun (w' : World) (hb' : Below wr.heap.size wr w') => rbuild_any w 200 st l.t A2 n2 c2 B2 m2 d2 D2 p2 q2 A' n' c' w' hlsz hlk (h2.below hb') hfit (hrm.le (by omega)) hcx (hWr.trans (hb'.mono hWr.size)) hlok hlsz
          rw [hs5, hr5] at hbuild
          have Hbuild := Lib.hid hbuild
          have nbl : ¬ bl = b7 := by omega
          have nbl' : ¬ b7 = bl := by omega
          clear hl hxl hcells g0 g1 hcW hd hrm hs5 hr5 hres5 hroom5 hbuild hres hroom
          have na1 : ¬ wr.heap.size = b7 := by omega
          have na2 : ¬ b7 = wr.heap.size := by omega
          have na3 : ¬ wr.heap.size = g := by omega
          have na4 : ¬ g = wr.heap.size := by omega
          have na5 : ¬ wr.heap.size = bl := by omega
          have na6 : ¬ bl = wr.heap.size := by omega
          go_upto_region 13 with fail
          go_cut [9, 10] (fun pt rt wx => ∃ (bN : Nat) (A5 : Option Addr) (n5 c5 : Nat) (B5 : Option Addr) (m5 d5 : Nat) (D5 : Option Addr) (p5 q5 : Nat), pt = .pointer (some ⟨bN, 0, none⟩) ∧ rt = .int .i64 r5 ∧ wx.heap[bN]? = some (.cells #[.slice A5 n5 c5, .int .i64 s5.next, .slice B5 m5 d5, .slice D5 p5 q5] 72 (0, 0)) ∧ wr.heap.size ≤ bN ∧
              StAt wx A5 n5 c5 B5 m5 d5 D5 p5 q5 s5 ∧ NewOr wr A2 n2 A5 n5 ∧ NewOr wr B2 m2 B5 m5 ∧ NewOr wr D2 p2 D5 p5 ∧ Below wr.heap.size wr wx)
          case first =>
            go_region_held3 (fun w' => w'.cell? ⟨b7, 0, none⟩ = some (.slice A2 n2 c2) ∧ w'.cell? ⟨b7, 1, none⟩ = some (.int .i64 st.next) ∧ w'.cell? ⟨b7, 2, none⟩ = some (.slice B2 m2 d2) ∧ w'.cell? ⟨b7, 3, none⟩ = some (.slice D2 p2 q2) ∧ w'.cell? ⟨g, 1, none⟩ = some (.slice (some ⟨bl, off, none⟩) m d) ∧ w'.cell? ⟨bl, off + k * 2 + 1, none⟩ = some (.slice A' n' c'))
              (go_keep)
              (first
                | (go_at_call 35; refine (Hbuild.out _ ?_).mono ?_; (focus (exact by repeat (first | exact Below.refl _ _ | refine Below.drew ?_ | refine Below.alloc ?_ ?_ _ | exact Nat.le_refl _ | (first | omega | (simp; done) | (simp; omega))))); rintro e w5 ⟨A5, n5, c5, B5, m5, d5, D5, p5, q5, rfl, hst5, hnA5, hnB5, hnD5, hbn5⟩; (have hb5w : Below wr.heap.size wr w5 := Below.trans (by repeat (first | exact Below.refl _ _ | refine Below.drew ?_ | refine Below.alloc ?_ ?_ _ | exact Nat.le_refl _ | (first | omega | (simp; done) | (simp; omega)))) (hbn5.mono (by first | exact Nat.le_refl _ | (simp; done) | (simp; omega)))); (have k0 := (hb5w.cell (p := ⟨b7, 0, none⟩) hlb0).trans y0); (have k1 := (hb5w.cell (p := ⟨b7, 1, none⟩) hlb0).trans y1); (have k2 := (hb5w.cell (p := ⟨b7, 2, none⟩) hlb0).trans y2); (have k3 := (hb5w.cell (p := ⟨b7, 3, none⟩) hlb0).trans y3); (have k4 := (hb5w.cell (p := ⟨g, 1, none⟩) ul).trans u1); (have k5 := (hb5w.cell (p := ⟨bl, off + k * 2 + 1, none⟩) hbl2).trans l1); (first | (have nb := (hbn5.block wr.heap.size (by simp)).trans (alloc_at (w := wr) (g := wr.heap.size) rfl); have nb0 := cells_of nb 0; have nb1 := cells_of nb 1; have nb2 := cells_of nb 2; have nb3 := cells_of nb 3; have nf0 := frozen_of nb 0; have nf1 := frozen_of nb 1; have nf2 := frozen_of nb 2; have nf3 := frozen_of nb 3; have nbl := block_lt nb; simp at nb0 nb1 nb2 nb3) | skip); have hs5w := hb5w.size; have nc1 : ¬ w5.heap.size = b7 := (by omega); have nc2 : ¬ b7 = w5.heap.size := (by omega); have nc3 : ¬ w5.heap.size = g := (by omega); have nc4 : ¬ g = w5.heap.size := (by omega); have nc5 : ¬ w5.heap.size = bl := (by omega); have nc6 : ¬ bl = w5.heap.size := (by omega); simp only [stVal])
                | fail)
            all_goals
              go_wp2_with fail
              go_meet
              first
                | exact ⟨wr.heap.size, A5, n5, c5, B5, m5, d5, D5, p5, q5, rfl, rfl, set4 nb _ _ _ _, Nat.le_refl _, hst5.but (but4 _ _ _ _ _ _) ((h2.off (Nat.le_refl _)).1.new (by simp) hnA5) (((h2.off (Nat.le_refl _)).2.1).new (by simp) hnB5) (((h2.off (Nat.le_refl _)).2.2).new (by simp) hnD5), hnA5.lower (by simp), hnB5.lower (by simp), hnD5.lower (by simp), Below.setCell (Below.setCell (Below.setCell (Below.setCell hb5w (p := ⟨wr.heap.size, 0, none⟩) (Nat.le_refl _) _) (p := ⟨wr.heap.size, 1, none⟩) (Nat.le_refl _) _) (p := ⟨wr.heap.size, 2, none⟩) (Nat.le_refl _) _) (p := ⟨wr.heap.size, 3, none⟩) (Nat.le_refl _) _⟩
                | exact ⟨w5.heap.size, A5, n5, c5, B5, m5, d5, D5, p5, q5, rfl, rfl, alloc_at rfl, hs5w, hst5.below ((Below.refl _ _).alloc (Nat.le_refl _) _), hnA5.lower (by simp), hnB5.lower (by simp), hnD5.lower (by simp), hb5w.alloc hs5w _⟩
          case rest =>
            obtain ⟨bN, A5, n5, c5, B5, m5, d5, D5, p5, q5, rfl, rfl, hxN, hNl, hst5, hnA5, hnB5, hnD5, hb5⟩ := hcut
            have hoA5 := hoA.new hlb0 hnA5
            have hoB5 := hoB.new hlb0 hnB5
            have hoD5 := hoD.new hlb0 hnD5
            have hx05 := (hb5.block b7 hlb0).trans hx0
            have hxg5 := (hb5.block g ul).trans hxg
            clear y0 y1 y2 y3 f0 f1 f2 f3 u0 u1 l1
            obtain ⟨fy0, fy1, fy2, fy3, ff0, ff1, ff2, ff3, fl0⟩ := open4 hx05
            obtain ⟨fn0, fn1, fn2, fn3, -, -, -, -, fnl⟩ := open4 hxN
            obtain ⟨u0, u1, ulc⟩ := open2 hxg5
            have l0c := (hb5.cell (p := ⟨bl, off + k * 2, none⟩) hbl2).trans l0
            have hblc := Nat.lt_of_lt_of_le hbl2 hb5.size
            have nN1 : ¬ bN = b7 := by omega
            have nN2 : ¬ b7 = bN := by omega
            have hwf12 : ({ op := 12, a := r5, neg := l.neg } : In).wf := wfI (i64_small (by decide) (by decide)) i64_0 (i64_small (by omega) (by omega)) i64_0 empty_size
            have hlen5 : n5 ≤ 100000 := by have := hst5.code.len; have := hfit5.code; omega
            clear l0
            go_upto_region 14 with fail
            go_region_held3 (fun w' => w'.cell? ⟨bN, 0, none⟩ = some (.slice A5 n5 c5) ∧ w'.cell? ⟨bN, 1, none⟩ = some (.int .i64 s5.next) ∧ w'.cell? ⟨bN, 2, none⟩ = some (.slice B5 m5 d5) ∧ w'.cell? ⟨bN, 3, none⟩ = some (.slice D5 p5 q5) ∧ w'.cell? ⟨g, 1, none⟩ = some (.slice (some ⟨bl, off, none⟩) m d) ∧ w'.cell? ⟨bl, off + k * 2, none⟩ = some (.bool l.neg))
              (go_keep)
              (first
                | (go_at_call 36; refine (remit_any s5 { op := 12, a := r5, neg := l.neg } A5 n5 c5 B5 m5 d5 D5 p5 q5 _ (hst5.below (Below.refl _ _).drew) hwf12 hlen5).mono ?_; rintro e w7 ⟨A7, n7, c7, rfl, hst7, hnA7, hb7⟩; (have hb7w : Below wc.heap.size wc w7 := Below.trans (Below.refl _ _).drew hb7); (have v07 := (hb7w.block b7 fl0).trans hx05); (obtain ⟨e0, e1, e2, e3, h0, h1, h2', h3, v7l⟩ := open4 v07); (have k0 := (hb7w.cell (p := ⟨bN, 0, none⟩) fnl).trans fn0); (have k1 := (hb7w.cell (p := ⟨bN, 1, none⟩) fnl).trans fn1); (have k2 := (hb7w.cell (p := ⟨bN, 2, none⟩) fnl).trans fn2); (have k3 := (hb7w.cell (p := ⟨bN, 3, none⟩) fnl).trans fn3); (have k4 := (hb7w.cell (p := ⟨g, 1, none⟩) ulc).trans u1); (have k5 := (hb7w.cell (p := ⟨bl, off + k * 2, none⟩) hblc).trans l0c); simp only [stVal])
                | fail)
            all_goals
              have hb7V := But.of (b := b7) hb7w
              have hoA7 := hoA5.new fl0 (hnA7.lower (w := wc) (by simp))
              go_wp2_with fail
              go_roundw
              case rel => exact ⟨k + 1, s5.emit _, A7, n7, c7, B5, m5, d5, D5, p5, q5, by omega, by go_num, set4 v07 _ _ _ _, hst7.but4 hoA7 hoB5 hoD5 _ _ _ _, ⟨hoA7, hoB5, hoD5⟩, fit_emit hfit5 (by have := Hroom5.out.code; omega) hwf12, Hres5, Lib.hid (room_emit _ (Hroom5.out.le (by omega))), hbut.trans ((But.of hb5).trans (hb7V.trans (but4 _ _ _ _ _ _)))⟩
              case measure => simp [intOf]; omega
        · have hdn : c.body.drop k = [] := List.drop_eq_nil_of_le (by have h1 := congrArg List.length Hbody.out; have := Hml.out; simp at h1; omega)
          have hfin := hres.out
          rw [hdn] at hfin
          have hfin1 : st = tot := hfin
          have hroom1 : st.room 1 := hroom.out.le (by omega)
          have hcd := hroom1.code
          have Hfin1 := Lib.hid hfin1
          obtain ⟨hcW, _⟩ := bcell hWr
          have j1 := (hcW b0 (off0 + 1) hb0).trans e1
          have j2 := (hcW b0 (off0 + 2) hb0).trans e2
          have hb02 : b0 < wr.heap.size := Nat.lt_of_lt_of_le hb0 hWr.size
          have nb1 : ¬ b0 = b7 := by omega
          have nb2 : ¬ b7 = b0 := by omega
          have hwf13 : (lastI c.head).wf := wfI (i64_small (by decide) (by decide)) i64_0 i64_0 hw0.n hw0.name
          have hlen2 : n2 ≤ 100000 := by have := h2.code.len; omega
          clear hdn hfin hfin1 hres hroom hroom1 hcW
          go_upto_region 15 with fail
          go_cut [78] (fun rv U => ∃ (A7 : Option Addr) (n7 c7 : Nat), But wr U b7 ∧ U.heap[b7]? = some (.cells #[.slice A7 n7 c7, .int .i64 (st.emit (lastI c.head)).next, .slice B2 m2 d2, .slice D2 p2 q2] 72 (0, 0)) ∧ StAt U A7 n7 c7 B2 m2 d2 D2 p2 q2 (st.emit (lastI c.head)))
          case first =>
            go_region_with (first
                | (go_at_call 36; refine (remit_any st (lastI c.head) A2 n2 c2 B2 m2 d2 D2 p2 q2 _ (h2.below (Below.refl _ _).drew) hwf13 hlen2).mono ?_; rintro e w7 ⟨A7, n7, c7, rfl, hst7, hnA7, hb7⟩; (have hb7w : Below wr.heap.size wr w7 := Below.trans (Below.refl _ _).drew hb7); (have v07 := (hb7w.block b7 hlb0).trans hx0); (obtain ⟨e0, e1, e2, e3, h0, h1, h2', h3, v7l⟩ := open4 v07); (have k0 := (hb7w.cell (p := ⟨g, 0, none⟩) ul).trans u0); (have k1 := (hb7w.cell (p := ⟨b0, off0 + 1, none⟩) hb02).trans j1); (have k2 := (hb7w.cell (p := ⟨b0, off0 + 2, none⟩) hb02).trans j2); simp only [stVal])
                | fail)
            all_goals
              have hoA7 := hoA.new (w := wr) hlb0 (hnA7.lower (by simp))
              go_wp2_with fail
              go_meet
              exact ⟨A7, n7, c7, (But.of hb7w).trans (but4 _ _ _ _ _ _), set4 v07 _ _ _ _, hst7.but4 hoA7 hoB hoD _ _ _ _⟩
          case rest =>
            obtain ⟨A7, n7, c7, hbU, z0, hstU⟩ := hcut
            generalize wc = U at *
            clear y0 y1 y2 y3 f0 f1 f2 f3
            obtain ⟨y0, y1, y2, y3, f0, f1, f2, f3, zl⟩ := open4 z0
            go_wp2
            refine bodyPost_ret (v := .tuple #[.slice A7 n7 c7, .int .i64 0]) (by simp [results, Try.results16, go_sem, *]) rfl ?_
            refine ⟨A7, n7, c7, rfl, ?_, hWr.trans (hbU.below hw7 hWr.size)⟩
            have hcF : compF c = (st.emit (lastI c.head)).code := by rw [HcompF.out, Htot.out, ← Hfin1.out]; rfl
            rw [hcF]
            exact hstU.code
end Go.Proofs.Ytdeaeiolehglaaa
