/- A clause's code asks for registers from 0 on. No program in sight. -/
import Derived.Test.YtdeaeiolehglaaaRComp
import Derived.Test.YtdeaeiolehglaaaRegs
set_option linter.unusedVariables false
set_option linter.unusedSimpArgs false
namespace Go.Proofs.Ytdeaeiolehglaaa
open Go.RowKit

def okReg (i : In) : Prop := 0 ≤ i.x ∧ i.x ≤ 1000000 ∧ 0 ≤ i.a ∧ i.a ≤ 1000000
theorem okr_emit {s : St} {i : In} (h : okRegs s.code) (hi : okReg i) : okRegs (s.emit i).code := fun x hx => by
  simp [St.emit] at hx
  rcases hx with hx | rfl
  · exact h x hx
  · exact hi
theorem okr_one {s : St} {a b c : Int} {T : Tm} (h : okRegs s.code) (hf : s.fit 100000) : okRegs (oneF a b c s T).code := by
  cases T with
  | v n =>
    have hg := regF_reg hf n (by omega)
    exact okr_emit (by rw [regF_code]; exact h) ⟨hg.1, by simp only; omega, by simp, by simp⟩
  | i n => exact okr_emit h ⟨by simp, by simp, by simp, by simp⟩
  | f nm us => exact h
theorem okr_unis : ∀ (ts : List Tm) (s : St), okRegs s.code → s.fit 100000 → s.room (2 * sizes ts) → oks ts = true → okRegs (unisF s ts).1.code
  | [], s, h, _, _, _ => h
  | t :: ts, s, h, hf, hr, ho => by
    rw [oks_cons, Bool.and_eq_true] at ho
    rw [sizes_cons, size_args] at hr
    by_cases hk : t.c0.kind = 3
    · rw [unisF_fun s t ts hk]
      have h1 := hr.next
      have h2 := hr.code
      have hf2 : (s.emit { op := 5, x := (s.next : Int) }).bump.fit 100000 := fit_bump (fit_emit hf (by omega) (wfI (i64_small (n := 5) (by decide) (by decide)) (i64_small (n := (s.next : Int)) (by omega) (by omega)) i64_0 i64_0 empty_size)) (by simp [St.emit]; omega)
      exact okr_unis ts _ (okr_emit (s := s) h ⟨by simp, by simp only; omega, by simp, by simp⟩) hf2 (room_fresh _ (hr.le (by omega))) ho.2
    · rw [unisF_one s t ts hk]
      exact okr_unis ts _ (okr_one h hf) (fit_one hf (hr.le (by omega)) ho.1 (i64_small (by decide) (by decide)) (i64_small (by decide) (by decide)) (i64_small (by decide) (by decide))) (room_one _ _ _ _ (hr.le (by omega))) ho.2
theorem fit_head {s : St} {t : Tm} {r : Int} (h : s.fit 100000) (hst : s.room (1 + 2 * sizes t.args)) (h1 : t.ok = true) (h3 : 0 ≤ r) (h4 : r ≤ 100000) : (headF s (t, r)).1.fit 100000 := by
  have hc := hst.code
  have hx := hst.next
  have hv := hst.vars
  cases t with
  | v x =>
    have hg := regF_reg h x (by omega)
    exact fit_emit (fit_reg h ⟨by omega, by omega, by omega⟩ (c0_wf h1).n) (by rw [regF_code]; omega) (wfI (by split <;> exact i64_small (by decide) (by decide)) (i64_small (by omega) (by omega)) (i64_small (by omega) (by omega)) i64_0 empty_size)
  | i x => exact fit_emit h (by omega) (wfI (i64_small (by decide) (by decide)) i64_0 (i64_small (by omega) (by omega)) (c0_wf h1).n empty_size)
  | f nm us =>
    have hw := c0_wf h1
    rw [headF_fun s (.f nm us) r rfl]
    exact fit_unis _ _ (fit_emit h (by omega) (wfI (i64_small (by decide) (by decide)) i64_0 (i64_small (by omega) (by omega)) hw.n hw.name)) (room_emit _ (hst.le (by omega))) (args_ok h1)
theorem okr_head {s : St} {t : Tm} {r : Int} (ho : okRegs s.code) (h : s.fit 100000) (hst : s.room (1 + 2 * sizes t.args)) (h1 : t.ok = true) (h3 : 0 ≤ r) (h4 : r ≤ 100000) : okRegs (headF s (t, r)).1.code := by
  have hc := hst.code
  cases t with
  | v x =>
    have hg := regF_reg h x (by omega)
    exact okr_emit (by rw [regF_code]; exact ho) ⟨hg.1, by simp only; omega, h3, by simp only; omega⟩
  | i x => exact okr_emit ho ⟨by simp, by simp, h3, by simp only; omega⟩
  | f nm us =>
    have hw := c0_wf h1
    rw [headF_fun s (.f nm us) r rfl]
    exact okr_unis _ _ (okr_emit ho ⟨by simp, by simp, h3, by simp only; omega⟩) (fit_emit h (by omega) (wfI (i64_small (n := 4) (by decide) (by decide)) i64_0 (i64_small (n := r) (by omega) (by omega)) hw.n hw.name)) (room_emit _ (hst.le (by omega))) (args_ok h1)
theorem okr_heads : ∀ (f : Nat) (s : St) (row : List (Tm × Int)), okRegs s.code → s.fit 100000 → s.room (rwt row) → RowOk row → okRegs (headsF f s row).code
  | 0, s, row, h, _, _, _ => h
  | f + 1, s, [], h, _, _, _ => h
  | f + 1, s, (t, r) :: row, hok, h, hr, ho => by
    rw [headsF_cons]
    obtain ⟨h1, h2, h3, h4⟩ := ho (t, r) (by simp)
    simp only at h1 h2 h3 h4
    have hst : s.room (1 + 2 * sizes t.args + rwt row) := hr.le (by simp only [rwt]; omega)
    have hst1 := hst.le (j := 1 + 2 * sizes t.args) (by omega)
    have hroom2 := headF_room (s := s) (p := (t, r)) hst
    have hok2 := headF_ok h1 h2 (hst.le (by simp only; omega)) (s := s) (p := (t, r))
    exact okr_heads f _ _ (okr_head hok h hst1 h1 h3 h4) (fit_head h hst1 h1 h3 h4) (by rw [rwt_append]; exact hroom2.le (by omega)) (RowOk.append (fun p hp => ho p (by simp [hp])) hok2)
/-- the registers of those arguments that are structures -/
def Okx : List Tm → List Int → Prop
  | t :: ts, x :: xs => (t.c0.kind = 3 → 0 ≤ x ∧ x ≤ 100000) ∧ (-1 ≤ x ∧ x ≤ 100000) ∧ Okx ts xs
  | _, _ => True
theorem okr_sets : ∀ (ts : List Tm) (xs : List Int) (s : St), okRegs s.code → s.fit 100000 → s.room ts.length → oks ts = true → Okx ts xs → okRegs (setsF s ts xs).code
  | [], xs, s, h, _, _, _, _ => by
    have : setsF s [] xs = s := by cases xs <;> rfl
    rw [this]; exact h
  | t :: ts, [], s, h, _, _, _, _ => by
    have : setsF s (t :: ts) [] = s := by cases t <;> rfl
    rw [this]; exact h
  | t :: ts, x :: xs, s, h, hf, hr, ho, hx => by
    rw [oks_cons, Bool.and_eq_true] at ho
    rw [List.length_cons] at hr
    have h1 := hr.code
    obtain ⟨q1, q2, q3⟩ := hx
    by_cases hk : t.c0.kind = 3
    · rw [setsF_fun _ _ _ _ _ hk]
      have := q1 hk
      exact okr_sets ts xs _ (okr_emit h ⟨this.1, by simp only; omega, by simp, by simp⟩) (fit_emit hf (by omega) (wfI (i64_small (n := 10) (by decide) (by decide)) (i64_small (n := x) (by omega) (by omega)) i64_0 i64_0 empty_size)) (room_emit _ hr) ho.2 q3
    · rw [setsF_one _ _ _ _ _ hk]
      exact okr_sets ts xs _ (okr_one h hf) (fit_one hf (hr.le (by omega)) ho.1 (i64_small (by decide) (by decide)) (i64_small (by decide) (by decide)) (i64_small (by decide) (by decide))) (room_one _ _ _ _ hr) ho.2 q3
theorem build_reg (s : St) (t : Tm) (h : s.room (bwt t)) (hk : t.c0.kind = 3) : 0 ≤ (buildF s t).2 ∧ (buildF s t).2 ≤ 100000 := by
  refine ⟨?_, (buildF_small s t h).2⟩
  rw [buildF_fun s t hk]
  simp
mutual
theorem okr_build : ∀ (t : Tm) (s : St), okRegs s.code → s.fit 100000 → s.room (bwt t) → t.ok = true → okRegs (buildF s t).1.code
  | .v n, s, h, _, _, _ => h
  | .i n, s, h, _, _, _ => h
  | .f nm us, s, h, hf, hr, ho => by
    have hw := c0_wf ho
    have ho2 := args_ok ho
    rw [buildF_fun s _ rfl]
    simp only [Tm.args]
    have hw2 : bwt (.f nm us) = 1 + 2 * sizes us := rfl
    have hle := bwts_le us
    rw [hw2] at hr
    have h1 := argsF_room us s (us.length + 1) (hr.le (by omega))
    obtain ⟨h2, h3⟩ := fit_args us s hf (hr.le (by omega)) ho2
    obtain ⟨h6, h7⟩ := okr_args us s h hf (hr.le (by omega)) ho2
    have h4 := h1.next
    have h5 := h1.code
    refine okr_sets us _ _ (okr_emit (s := (argsF s us).1.bump) h6 ⟨by simp, by simp, by simp, by simp only; omega⟩) (fit_emit (fit_bump h2 (by omega)) (by simp [St.bump]; omega) (wfI (i64_small (n := 8) (by decide) (by decide)) i64_0 (i64_small (n := ((argsF s us).1.next : Int)) (by omega) (by omega)) hw.n hw.name)) ?_ ho2 h7
    refine ⟨?_, ?_, ?_⟩
    · simp [Tm.args, St.emit, St.bump]; omega
    · simp [Tm.args, St.emit, St.bump]; omega
    · have := h1.vars; simp [Tm.args, St.emit, St.bump]; omega
theorem okr_args : ∀ (ts : List Tm) (s : St), okRegs s.code → s.fit 100000 → s.room (bwts ts) → oks ts = true → okRegs (argsF s ts).1.code ∧ Okx ts (argsF s ts).2
  | [], s, h, _, _, _ => ⟨h, trivial⟩
  | t :: ts, s, h, hf, hr, ho => by
    rw [oks_cons, Bool.and_eq_true] at ho
    rw [argsF_cons]
    have e : bwts (t :: ts) = bwt t + bwts ts := rfl
    rw [e] at hr
    have hr1 := hr.le (j := bwt t) (by omega)
    obtain ⟨h1, h2⟩ := okr_args ts _ (okr_build t s h hf hr1 ho.1) (fit_build t s hf hr1 ho.1) (buildF_room t s (bwts ts) hr) ho.2
    exact ⟨h1, fun hk => build_reg s t hr1 hk, buildF_small s t hr1, h2⟩
end
theorem okr_body : ∀ (ls : List Ltl) (s : St), okRegs s.code → s.fit 100000 → s.room (lwt ls + 1) → (∀ l ∈ ls, l.t.ok = true ∧ l.t.c0.kind = 3) → okRegs (bodyF s ls).code
  | [], s, h, _, _, _ => h
  | l :: ls, s, h, hf, hr, ho => by
    have e : lwt (l :: ls) = (bwt l.t + 1) + lwt ls := rfl
    rw [e] at hr
    obtain ⟨h1, h2⟩ := ho l (by simp)
    have hr1 := hr.le (j := bwt l.t) (by omega)
    have hb := build_reg s l.t hr1 h2
    have hrm := buildF_room l.t s (lwt ls + 2) (hr.le (by omega))
    have hcd := hrm.code
    rw [bodyF_cons]
    exact okr_body ls _ (okr_emit (okr_build l.t s h hf hr1 h1) ⟨by simp, by simp, hb.1, by simp only; omega⟩) (fit_emit (fit_build l.t s hf hr1 h1) (by omega) (wfI (i64_small (n := 12) (by decide) (by decide)) i64_0 (i64_small (n := (buildF s l.t).2) (by omega) (by omega)) i64_0 empty_size)) (room_emit _ (hrm.le (by omega))) (fun x hx => ho x (by simp [hx]))
theorem compF_okr {c : Cls} {r : Raw} (h : IsCls c r) : okRegs (compF c) := by
  obtain ⟨hh, ⟨hok, hsz, hk3⟩, hbody, hbok, hblen⟩ := h
  have h6 := args_len hok
  have h1 := rwt_numbered c.head.args 0
  have h2 := lwt_le c.body (fun l hl => (hbok l hl).2.1)
  have h3 := size_args c.head
  have hroom0 : (startF c.head).room (rwt (numbered 0 c.head.args) + (lwt c.body + 1)) := ⟨by simp [startF]; omega, by simp [startF]; omega, by simp [startF]; omega⟩
  have hrok : RowOk (numbered 0 c.head.args) := fun p hp => by
    obtain ⟨h1, h2, h3⟩ := numbered_mem hp
    have := size_mem h1
    have := size_args c.head
    exact ⟨ok_mem (args_ok hok) h1, by omega, h2, by omega⟩
  have hr0 := hroom0.le (j := rwt (numbered 0 c.head.args)) (by omega)
  have h4 := okr_heads (sizes c.head.args) (startF c.head) _ (fun i hi => by simp [startF] at hi) (start_fit _ h6) hr0 hrok
  have h5 := fit_heads (sizes c.head.args) (startF c.head) _ (start_fit _ h6) hr0 hrok
  have h7 := okr_body c.body _ h4 h5 (headsF_room _ _ _ _ hroom0) (fun l hl => ⟨(hbok l hl).1, (hbok l hl).2.2⟩)
  intro i hi
  simp only [compF, List.mem_append, List.mem_singleton] at hi
  rcases hi with hi | rfl
  · exact h7 i hi
  · exact ⟨by simp [lastI], by simp [lastI], by simp [lastI], by simp [lastI]⟩
end Go.Proofs.Ytdeaeiolehglaaa
