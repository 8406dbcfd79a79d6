/- The walk of layer 3's whole (the document's). -/
import Derived.Test.YtlndjooddkjnoaaU7
import Derived.Test.YtlndjooddkjnoaaB5
set_option linter.unusedVariables false
set_option linter.unusedSimpArgs false
namespace Go.Proofs.Ytlndjooddkjnoaa
open Go.RowKit

theorem Sl.same9 {w w' : World} {size n c : Nat} {A : Option Addr} {xs : List Value} (h : Sl w size A n c xs) (hs : w.heap.size ≤ w'.heap.size) (hb : n ≠ 0 → ∀ a, A = some a → w'.heap[a.block]? = w.heap[a.block]?) : Sl w' size A n c xs :=
  ⟨h.len, h.hcap, h.hmax, fun hp => by
    obtain ⟨b, off, hA, hlt, hc⟩ := h.cells hp
    exact ⟨b, off, hA, Nat.lt_of_lt_of_le hlt hs, fun i v hv => (World.cell?_of_block (a := ⟨b, off + i, none⟩) (show w'.heap[b]? = w.heap[b]? from hb (by omega) _ hA)).trans (hc i v hv)⟩⟩
theorem own_typ9 {w : World} {base size n cap : Nat} {e : TypeId} {a : Addr} {xs : List Value} (h : w.ownsRow base e size (.slice (some a) n cap) n xs) : ∃ cur, w.heap[a.block]? = some (.cells cur e (0, 0)) := by
  rcases h.2 with ⟨h1, _⟩ | ⟨g, cap', cur, h1, hb, h2, _⟩
  · cases h1
  · injection h1 with e1 e2 e3
    injection e1 with e1
    subst e1
    exact ⟨_, h2⟩
theorem IsI.from9 {w : World} {B : Option Addr} {m d mt : Nat} {tr : List Int} (h : IsI w B m d tr) (hmt : mt ≤ m) : IsI w (if d = mt then B else B.map (·.add mt)) (m - mt) (d - mt) (tr.drop mt) := by
  refine ⟨?_, fun x hx => h.wf x (List.mem_of_mem_drop hx)⟩
  have hl := h.len
  have := h.sl.cut hmt (Nat.le_refl _) (by omega)
  simp only [Nat.mul_one] at this
  rw [← List.map_drop, List.take_of_length_le (by rw [List.length_map, List.length_drop]; omega)] at this
  exact this
/-- a row of numbers in a block of numbers -/
def IT (w : World) (A : Option Addr) (n c : Nat) (l : List Int) : Prop := IsI w A n c l ∧ ∀ a, A = some a → ∃ cur, w.heap[a.block]? = some (.cells cur 3 (0, 0))
theorem IT.below {w w' : World} {A : Option Addr} {n c : Nat} {l : List Int} (h : IT w A n c l) (hb : Below w.heap.size w w') : IT w' A n c l :=
  ⟨h.1.below hb, fun a ha => by obtain ⟨cur, hc⟩ := h.2 a ha; exact ⟨cur, (hb.block a.block (block_lt hc)).trans hc⟩⟩
theorem IT.grown {w w' : World} {A As : Option Addr} {n c base n' c' : Nat} {l : List Int} {xs : List Value} (h : IT w A n c l) (ho : w.ownsRow base 54 3 (.slice As n' c') n' xs) (hg : w.grownBy w' (Value.slice As n' c').ownBlock) : IT w' A n c l := by
  have hk : ∀ a, A = some a → w'.heap[a.block]? = w.heap[a.block]? := fun a ha => by
    obtain ⟨cur, hc⟩ := h.2 a ha
    exact grown_block hg (block_lt hc) (own_ne ho hc (by intro cur' he; simp at he))
  exact ⟨⟨h.1.sl.same9 hg.size fun _ a ha => hk a ha, h.1.wf⟩, fun a ha => by obtain ⟨cur, hc⟩ := h.2 a ha; exact ⟨cur, (hk a ha).trans hc⟩⟩
theorem IT.own {w : World} {A : Option Addr} {n c base : Nat} {l : List Int} (h : w.ownsRow base 3 1 (.slice A n c) n (l.map (Value.int .i64))) (hw : ∀ x ∈ l, i64 x) : IT w A n c l :=
  ⟨⟨Sl.own h (by omega), hw⟩, fun a ha => by subst ha; exact own_typ9 h⟩
def RetWhole (T : Tm) (w : World) (e : Ending) (w' : World) : Prop := ∃ (A : Option Addr) (n c : Nat) (b : Bool), e = .returned (.tuple #[.slice A n c, .bool b]) ∧ Below w.heap.size w w' ∧ (b = true → w'.ownsRow w.heap.size 54 3 (.slice A n c) n (flatC T.flat) ∧ (∀ x ∈ T.flat, x.wf) ∧ T.size ≤ 200) ∧ (b = false → 200 < T.size)
theorem partsU_len {ts : List Tm} {j : Nat} {u : Tm} (h : subT ts j = some u) : (partsU j u).length ≤ sizes ts := by
  have h1 := subT_lt h
  cases u with
  | v n => simp [partsU]
  | i n => simp [partsU]
  | f s us =>
    simp only [partsU, List.length_map, List.length_range]
    simp only [Tm.size] at h1
    have := sizes_len9 us
    omega
section
variable {ts : List Tm} {cls : Nat → Nat} {rk : Nat → Nat}
theorem Fine.flat_none (h : Fine ts cls (doesF ts cls) (leaF ts cls) rk) {x : Nat} (hd : doesF ts cls x = none) : (tmC ts cls (doesF ts cls) (leaF ts cls) rk x).flat = [⟨1, ⟨#[]⟩, leaF ts cls x⟩] := by
  rw [h.tm_none hd]; rfl
theorem Fine.flat_some (h : Fine ts cls (doesF ts cls) (leaF ts cls) rk) {x j : Nat} {u : Tm} (hx : x < sizes ts) (hd : doesF ts cls x = some j) (hu : subT ts j = some u) (hv : u.isV = false) :
    (tmC ts cls (doesF ts cls) (leaF ts cls) rk x).flat = u.c0 :: flats ((partsU j u).map (tmC ts cls (doesF ts cls) (leaF ts cls) rk)) := by
  cases u with
  | v n => cases hv
  | i m => rw [h.tm_num hd hu]; rfl
  | f s us =>
    rw [h.tm_fun hx hd hu]
    simp only [Tm.flat, Tm.c0, partsU, List.map_map, List.length_map, List.length_range]
    rfl
end
set_option maxRecDepth 100000 in
set_option maxHeartbeats 8000000 in
theorem uwhole_any (A B : Option Addr) (n c d a : Nat) (ts : List Tm) (cl : List Nat) (rk : Nat → Nat) (w : World) (h : IsC w A n c (flats ts)) (hB : IsI w B n d (ints cl)) (hn : n ≤ 1000) (ha : a < n)
    (hF : Fine ts (clsF cl) (doesF ts (clsF cl)) (leaF ts (clsF cl)) rk) :
    Calls Try.prog 75 #[.slice A n c, .slice B n d, .int .i64 a] w (RetWhole (tmC ts (clsF cl) (doesF ts (clsF cl)) (leaF ts (clsF cl)) rk a) w) := by
  have hwf := h.wf
  have hl := h.len
  rw [flats_size9] at hl
  have hbl := hB.len
  rw [ints_len] at hbl
  have HC := Lib.hid h
  have HB := Lib.hid hB
  have Hl := Lib.hid hl
  have Hbl := Lib.hid hbl
  have hcd := h.sl.hcap
  have hcm := h.sl.hmax
  unfold maxLen at hcm
  have hdd := hB.sl.hcap
  have hdm := hB.sl.hmax
  unfold maxLen at hdm
  clear h hB hl hbl
  have hT1 : ∀ x, x < n → doesF ts (clsF cl) x = none → (tmC ts (clsF cl) (doesF ts (clsF cl)) (leaF ts (clsF cl)) rk x).flat = [⟨1, ⟨#[]⟩, leaF ts (clsF cl) x⟩] := fun x _ hd => hF.flat_none hd
  have hT2 : ∀ x j u, x < n → doesF ts (clsF cl) x = some j → subT ts j = some u → u.isV = false → (tmC ts (clsF cl) (doesF ts (clsF cl)) (leaF ts (clsF cl)) rk x).flat = u.c0 :: flats ((partsU j u).map (tmC ts (clsF cl) (doesF ts (clsF cl)) (leaF ts (clsF cl)) rk)) := fun x j u hx hd hu hv => hF.flat_some (by have := Hl.out; omega) hd hu hv
  have hL : ∀ x, x < n → doesF ts (clsF cl) x = none → i64 (leaF ts (clsF cl) x) := fun x hx hd => by
    obtain ⟨z, _, hz⟩ := hF.least x (by have := Hl.out; omega) hd
    exact (hwf _ (List.mem_of_getElem? (subT_cell hz))).n
  have HT1 := Lib.hid hT1
  have HT2 := Lib.hid hT2
  have HL := Lib.hid hL
  have hTa := fun x => (tmC ts (clsF cl) (doesF ts (clsF cl)) (leaF ts (clsF cl)) rk x).size_pos
  have hTb := fun x => flat_size (tmC ts (clsF cl) (doesF ts (clsF cl)) (leaF ts (clsF cl)) rk x)
  have HTa := Lib.hid hTa
  have HTb := Lib.hid hTb
  generalize tmC ts (clsF cl) (doesF ts (clsF cl)) (leaF ts (clsF cl)) rk = T at *
  clear hT1 hT2 hL hTa hTb hF hwf
  go_enter Try.func75, Try.ntmps75
  go_wp2
  go_loopg [8, 9] 200 (fun k ov tv wr => ∃ (m mt co ct : Nat) (out : List C) (R : List Nat) (Ao At : Option Addr), m ≤ 200 ∧ mt ≤ 1 + 1000 * m ∧ ov = .slice Ao m co ∧ tv = .slice At mt ct ∧ wr.ownsRow w.heap.size 54 3 (.slice Ao m co) m (flatC out) ∧ IT wr At mt ct (ints R) ∧ Hid (out ++ flats (R.map T) = (T a).flat ∧ k = 200 - m ∧ out.length = m ∧ (∀ x ∈ R, x < n) ∧ (∀ c ∈ out, c.wf)) ∧ Below w.heap.size w wr)
  case atStart =>
    refine ⟨0, 1, 0, 1, [], [a], _, _, Nat.zero_le _, by omega, rfl, rfl, (World.ownsRow_lit w #[] 0 (Nat.le_refl _) (by simp [maxLen]) rfl).alloc _, IT.own (base := w.heap.size + 1) ?_ (fun y hy => ?_), Lib.hid ⟨by simp [flats], rfl, rfl, fun y hy => ?_, by simp⟩, ((Below.refl _ _).alloc (Nat.le_refl _) _).alloc (by simp) _⟩
    · have h9 := World.ownsRow_lit (w.alloc (.cells #[] 54)) (e := 3) (size := 1) #[.int .i64 (a : Int)] 1 (Nat.le_refl _) (by simp [maxLen]) rfl
      simpa [ints] using h9
    · simp [ints] at hy; subst hy; unfold i64; omega
    · simp at hy; omega
  case round =>
    obtain ⟨m, mt, co, ct, out, R, Ao, At, hm, hmt, rfl, rfl, hown, hit, hq, hb⟩ := hrel
    have hszb := hb.size
    have hRl := hit.1.len
    rw [ints_len] at hRl
    have ho1 := (Sl.own hown (by omega)).hcap
    have ho2 := (Sl.own hown (by omega)).hmax
    have hi1 := hit.1.sl.hcap
    have hi2 := hit.1.sl.hmax
    unfold maxLen at ho2 hi2
    have Hown := Lib.hid hown
    have Hit := Lib.hid hit
    clear hown hit
    cases R with
    | nil =>
      obtain rfl : mt = 0 := by simpa using hRl.symm
      have hr : wr.ownsRow w.heap.size 54 3 (.slice Ao m co) m (flatC (T a).flat) ∧ (∀ x ∈ (T a).flat, x.wf) ∧ (T a).size ≤ 200 := by
        have h1 := hq.out.1
        have h2 := HTb.out a
        simp only [List.map_nil, flats, List.flatMap_nil, List.append_nil] at h1
        refine ⟨?_, ?_, by rw [← h1, hq.out.2.2.1] at h2; omega⟩
        · rw [← h1]; exact Hown.out
        · rw [← h1]; exact hq.out.2.2.2.2
      have Hr := Lib.hid hr
      clear hr
      go_wp2
      refine bodyPost_ret (v := .tuple #[.slice Ao m co, .bool true]) (by simp [results, Try.results75, go_sem, *]) rfl ?_
      exact ⟨Ao, m, co, true, rfl, hb, fun _ => Hr.out, by simp⟩
    | cons x R =>
      have hxn := hq.out.2.2.2.1 x (List.mem_cons_self ..)
      have hmt0 : R.length + 1 = mt := by simpa using hRl
      by_cases hm2 : m = 200
      · have hr : 200 < (T a).size := by
          have h1 := congrArg List.length hq.out.1
          have h2 := HTb.out a
          have h3 := HTb.out x
          have h4 := HTa.out x
          rw [List.length_append, hq.out.2.2.1, List.map_cons, flats_cons, List.length_append] at h1
          omega
        have Hr := Lib.hid hr
        clear hr
        subst hm2
        go_wp2
        refine bodyPost_ret (v := .tuple #[.slice none 0 0, .bool false]) (by simp [results, Try.results75, go_sem, *]) rfl ?_
        exact ⟨none, 0, 0, false, rfl, hb, by simp, fun _ => Hr.out⟩
      · have hm3 : m < 200 := by omega
        obtain ⟨bt, ot, rfl, hbt, _, t0⟩ := Hit.out.1.at_ (ints_get (show (x :: R)[0]? = some x from rfl))
        rw [Nat.add_zero] at t0
        have htyp := Hit.out.2 _ rfl
        have hfr := Hit.out.1.from9 (mt := 1) (by omega)
        have Hdo := Lib.hid (udoes_any A B n c d x ts cl wr (HC.out.below hb) (HB.out.below hb) (by omega) hxn)
        generalize hD : doesF ts (clsF cl) x = D at Hdo
        have HD := Lib.hid hD
        clear hm2 hD hRl
        by_cases hct : ct = 1
        · obtain rfl : mt = 1 := by omega
          subst hct
          have HQ := Lib.hid (show IT wr (some ⟨bt, ot, none⟩) 0 0 (ints R) from ⟨by simpa [ints] using hfr, fun a ha => by injection ha with ha; subst ha; exact htyp⟩)
          clear hfr htyp Hit
          go_upto_region 8 with (first
            | (go_at_call 73; go_must (refine Hdo.out.mono ?_); rintro e w1 ⟨rfl, hb1⟩; have Hb1 := Lib.hid hb1; have HQ1 := Lib.hid (HQ.out.below hb1); have Hown1 := Lib.hid (own_below Hown.out hb1); have hsz1 := hb1.size; clear hb1))
          clear Hdo HQ Hown
          cases D with
          | none =>
            have hf := HT1.out x hxn HD.out
            have hlw := HL.out x hxn HD.out
            have Hle := Lib.hid (uleast_any A B n c d x ts cl w1 (HC.out.below (hb.trans (Hb1.out.mono hszb))) (HB.out.below (hb.trans (Hb1.out.mono hszb))) (by omega) hxn)
            generalize leaF ts (clsF cl) x = lx at *
            have Hf := Lib.hid hf
            have Hlw := Lib.hid hlw
            clear hf hlw HD
            simp only [doeI]
            go_wp2_with (first
              | (go_at_call 74; go_must (refine Hle.out.mono ?_); rintro e w2 ⟨rfl, hb2⟩; have Hb2 := Lib.hid (Hb1.out.trans (hb2.mono hsz1)); have HQ2 := Lib.hid ((HQ1.out.below hb2).below ((Below.refl w2.heap.size w2).alloc (Nat.le_refl _) (.cells #[.int .i64 1, .string ⟨#[]⟩, .int .i64 lx] 54))); have Hown2 := Lib.hid ((own_below Hown1.out hb2).alloc (.cells #[.int .i64 1, .string ⟨#[]⟩, .int .i64 lx] 54)); have hsz2 := hb2.size; clear hb2)
              | (at_builtin; go_must (refine wpList_append_sl rfl (.tmp 33) (.tmp 39) 26 rfl w.heap.size 54 Try.underlying26 infoC rfl (by omega) rfl Hown2.out rfl (Sl.lit w2 _ [.int .i64 1, .string ⟨#[]⟩, .int .i64 lx] 54 3 1 rfl rfl (by simp [maxLen])) (one3 _ _ _) (by omega) (by omega) (by simp; omega) ?_); intro A3 c3 w3 hown3 hb3 hgr3 _; have Hown3 := Lib.hid hown3; have HQ3 := Lib.hid (HQ2.out.grown Hown2.out hgr3); have Hb3 := Lib.hid ((hb.trans (Hb2.out.mono hszb)).trans (((Below.refl w2.heap.size w2).alloc (Nat.le_refl _) (.cells #[.int .i64 1, .string ⟨#[]⟩, .int .i64 lx] 54)).mono (by omega) |>.trans hb3)); clear hown3 hb3 hgr3))
            go_roundg (200 - (m + 1))
            case measure => have := hq.out.2.1; omega
            case rel => exact ⟨m + 1, _, _, _, out ++ [⟨1, ⟨#[]⟩, lx⟩], R, _, _, by omega, by omega, rfl, rfl, by rw [flatC_append]; exact Hown3.out, HQ3.out, Lib.hid ⟨by
              have h1 := hq.out.1
              rw [List.map_cons, flats_cons, Hf.out] at h1
              rw [List.append_assoc]
              exact h1, by omega, by rw [List.length_append, hq.out.2.2.1]; rfl, fun y hy => hq.out.2.2.2.1 y (List.mem_cons_of_mem _ hy), fun y hy => by
              rcases List.mem_append.1 hy with hy | hy
              · exact hq.out.2.2.2.2 y hy
              · obtain rfl := List.mem_singleton.1 hy
                exact ⟨by unfold i64; simp, Hlw.out, (by decide : emp.size ≤ maxLen)⟩⟩, Hb3.out⟩
          | some j =>
            obtain ⟨_, u, hu, hnv⟩ := does_ok.some_ x j HD.out
            have hf := HT2.out x j u hxn HD.out hu hnv
            have hjn := subT_lt' hu
            obtain ⟨bl, ol, rfl, hbl2, hwfu, q0, q1, q2⟩ := HC.out.at_ (subT_cell hu)
            have HbB := Lib.hid (hb.trans (Hb1.out.mono hszb))
            have q0' := (HbB.out.cell (p := ⟨bl, ol + j * 3, none⟩) hbl2).trans q0
            have q1' := (HbB.out.cell (p := ⟨bl, ol + j * 3 + 1, none⟩) hbl2).trans q1
            have q2' := (HbB.out.cell (p := ⟨bl, ol + j * 3 + 2, none⟩) hbl2).trans q2
            have hblr := Nat.lt_of_lt_of_le hbl2 HbB.out.size
            have Hpa := Lib.hid (fun wx (hb' : Below w.heap.size w wx) => uparts_own (some ⟨bl, ol, none⟩) n c ts j u wx (HC.out.below hb') hu (by omega))
            have hpl := partsU_len hu
            have hplt : ∀ y ∈ partsU j u, y < n := fun y hy => by have := partsU_lt hu hy; have := Hl.out; omega
            have hps := hpl
            generalize partsU j u = ps at *
            generalize u.c0 = uc at *
            have Hf := Lib.hid hf
            have Hwfu := Lib.hid hwfu
            have Hplt := Lib.hid hplt
            have hjn2 : j < n := by have := Hl.out; omega
            have hpsn : ps.length ≤ n := by have := Hl.out; omega
            have Hpsn := Lib.hid hpsn
            have HQ2 := Lib.hid (HQ1.out.below ((Below.refl w1.heap.size w1).alloc (Nat.le_refl _) (.cells #[.int .i64 uc.kind, .string uc.name, .int .i64 uc.n] 54)))
            have Hown2 := Lib.hid (Hown1.out.alloc (.cells #[.int .i64 uc.kind, .string uc.name, .int .i64 uc.n] 54))
            clear hf hwfu hplt hjn hu hnv q0 q1 q2 HD hpl hps hpsn HQ1 Hown1
            have hj0 : ¬ (j : Int) < 0 := by omega
            simp only [doeI]
            go_upto_region 11 with (first
              | (at_builtin; go_must (refine wpList_append_sl rfl (.tmp 41) (.tmp 46) 26 rfl w.heap.size 54 Try.underlying26 infoC rfl (by omega) rfl Hown2.out rfl (Sl.lit w1 _ [.int .i64 uc.kind, .string uc.name, .int .i64 uc.n] 54 3 1 rfl rfl (by simp [maxLen])) (one3 _ _ _) (by omega) (by omega) (by simp; omega) ?_); intro A3 c3 w3 hown3 hb3 hgr3 _; have Hown3 := Lib.hid hown3; have HQ3 := Lib.hid (HQ2.out.grown Hown2.out hgr3); have Hb3 := Lib.hid (HbB.out.trans (((Below.refl w1.heap.size w1).alloc (Nat.le_refl _) (.cells #[.int .i64 uc.kind, .string uc.name, .int .i64 uc.n] 54)).mono (by omega) |>.trans hb3)); clear hown3 hb3 hgr3))
            go_wp2_with (first
              | (go_at_call 89; go_must (refine (Hpa.out _ Hb3.out).mono ?_); rintro e w4 ⟨P, np, cp, rfl, hP, hb4, hPw⟩; have HP := Lib.hid hP; have HPw := Lib.hid hPw; have Hb4 := Lib.hid hb4; have HQ4 := Lib.hid (HQ3.out.below hb4); have Hnp : Hid (ps.length = np) := Lib.hid (by have := hP.1; simpa [ints_len] using this); have hnp : np ≤ 1000 := (by have := Hnp.out; have := Hpsn.out; omega); have hsz4 := hb4.size; clear hP hPw hb4)
              | (at_builtin; go_must (refine wpList_append_sl rfl (.tmp 51) (.tmp 52) 23 rfl w3.heap.size 3 Try.underlying23 infoI rfl (by omega) rfl HP.out rfl HQ4.out.1.sl (oneI _ (ints R)) (by omega) (by omega) (by omega) ?_); intro A5 c5 w5 hown5 hb5 _ _; have Hown5 := Lib.hid hown5; have Hb5 := Lib.hid (Hb4.out.trans hb5); clear hown5 hb5))
            have hsz3 := Hb3.out.size
            go_roundg (200 - (m + 1))
            case measure => have := hq.out.2.1; omega
            case rel => exact ⟨m + 1, _, _, _, out ++ [uc], ps ++ R, _, _, by omega, by omega, rfl, rfl, by rw [flatC_append]; exact own_below Hown3.out Hb5.out, IT.own (by rw [ints_append, List.map_append]; exact Hown5.out) (fun y hy => by
              rw [ints_append] at hy
              rcases List.mem_append.1 hy with hy | hy
              · exact HPw.out y hy
              · exact HQ4.out.1.wf y hy), Lib.hid ⟨by
              have h1 := hq.out.1
              rw [List.map_cons, flats_cons, Hf.out] at h1
              rw [List.append_assoc, List.map_append, flats_append]
              simpa using h1, by omega, by rw [List.length_append, hq.out.2.2.1]; rfl, fun y hy => by
              rcases List.mem_append.1 hy with hy | hy
              · exact Hplt.out y hy
              · exact hq.out.2.2.2.1 y (List.mem_cons_of_mem _ hy), fun y hy => by
              rcases List.mem_append.1 hy with hy | hy
              · exact hq.out.2.2.2.2 y hy
              · obtain rfl := List.mem_singleton.1 hy
                exact Hwfu.out⟩, Hb3.out.trans (Hb5.out.mono hsz3)⟩
        · have HQ := Lib.hid (show IT wr (some ⟨bt, ot + 1, none⟩) (mt - 1) (ct - 1) (ints R) from ⟨by rw [if_neg hct] at hfr; simpa [ints, Addr.add] using hfr, fun a ha => by injection ha with ha; subst ha; exact htyp⟩)
          clear hfr htyp Hit
          go_upto_region 8 with (first
            | (go_at_call 73; go_must (refine Hdo.out.mono ?_); rintro e w1 ⟨rfl, hb1⟩; have Hb1 := Lib.hid hb1; have HQ1 := Lib.hid (HQ.out.below hb1); have Hown1 := Lib.hid (own_below Hown.out hb1); have hsz1 := hb1.size; clear hb1))
          clear Hdo HQ Hown
          cases D with
          | none =>
            have hf := HT1.out x hxn HD.out
            have hlw := HL.out x hxn HD.out
            have Hle := Lib.hid (uleast_any A B n c d x ts cl w1 (HC.out.below (hb.trans (Hb1.out.mono hszb))) (HB.out.below (hb.trans (Hb1.out.mono hszb))) (by omega) hxn)
            generalize leaF ts (clsF cl) x = lx at *
            have Hf := Lib.hid hf
            have Hlw := Lib.hid hlw
            clear hf hlw HD
            simp only [doeI]
            go_wp2_with (first
              | (go_at_call 74; go_must (refine Hle.out.mono ?_); rintro e w2 ⟨rfl, hb2⟩; have Hb2 := Lib.hid (Hb1.out.trans (hb2.mono hsz1)); have HQ2 := Lib.hid ((HQ1.out.below hb2).below ((Below.refl w2.heap.size w2).alloc (Nat.le_refl _) (.cells #[.int .i64 1, .string ⟨#[]⟩, .int .i64 lx] 54))); have Hown2 := Lib.hid ((own_below Hown1.out hb2).alloc (.cells #[.int .i64 1, .string ⟨#[]⟩, .int .i64 lx] 54)); have hsz2 := hb2.size; clear hb2)
              | (at_builtin; go_must (refine wpList_append_sl rfl (.tmp 33) (.tmp 39) 26 rfl w.heap.size 54 Try.underlying26 infoC rfl (by omega) rfl Hown2.out rfl (Sl.lit w2 _ [.int .i64 1, .string ⟨#[]⟩, .int .i64 lx] 54 3 1 rfl rfl (by simp [maxLen])) (one3 _ _ _) (by omega) (by omega) (by simp; omega) ?_); intro A3 c3 w3 hown3 hb3 hgr3 _; have Hown3 := Lib.hid hown3; have HQ3 := Lib.hid (HQ2.out.grown Hown2.out hgr3); have Hb3 := Lib.hid ((hb.trans (Hb2.out.mono hszb)).trans (((Below.refl w2.heap.size w2).alloc (Nat.le_refl _) (.cells #[.int .i64 1, .string ⟨#[]⟩, .int .i64 lx] 54)).mono (by omega) |>.trans hb3)); clear hown3 hb3 hgr3))
            go_roundg (200 - (m + 1))
            case measure => have := hq.out.2.1; omega
            case rel => exact ⟨m + 1, _, _, _, out ++ [⟨1, ⟨#[]⟩, lx⟩], R, _, _, by omega, by omega, rfl, rfl, by rw [flatC_append]; exact Hown3.out, HQ3.out, Lib.hid ⟨by
              have h1 := hq.out.1
              rw [List.map_cons, flats_cons, Hf.out] at h1
              rw [List.append_assoc]
              exact h1, by omega, by rw [List.length_append, hq.out.2.2.1]; rfl, fun y hy => hq.out.2.2.2.1 y (List.mem_cons_of_mem _ hy), fun y hy => by
              rcases List.mem_append.1 hy with hy | hy
              · exact hq.out.2.2.2.2 y hy
              · obtain rfl := List.mem_singleton.1 hy
                exact ⟨by unfold i64; simp, Hlw.out, (by decide : emp.size ≤ maxLen)⟩⟩, Hb3.out⟩
          | some j =>
            obtain ⟨_, u, hu, hnv⟩ := does_ok.some_ x j HD.out
            have hf := HT2.out x j u hxn HD.out hu hnv
            have hjn := subT_lt' hu
            obtain ⟨bl, ol, rfl, hbl2, hwfu, q0, q1, q2⟩ := HC.out.at_ (subT_cell hu)
            have HbB := Lib.hid (hb.trans (Hb1.out.mono hszb))
            have q0' := (HbB.out.cell (p := ⟨bl, ol + j * 3, none⟩) hbl2).trans q0
            have q1' := (HbB.out.cell (p := ⟨bl, ol + j * 3 + 1, none⟩) hbl2).trans q1
            have q2' := (HbB.out.cell (p := ⟨bl, ol + j * 3 + 2, none⟩) hbl2).trans q2
            have hblr := Nat.lt_of_lt_of_le hbl2 HbB.out.size
            have Hpa := Lib.hid (fun wx (hb' : Below w.heap.size w wx) => uparts_own (some ⟨bl, ol, none⟩) n c ts j u wx (HC.out.below hb') hu (by omega))
            have hpl := partsU_len hu
            have hplt : ∀ y ∈ partsU j u, y < n := fun y hy => by have := partsU_lt hu hy; have := Hl.out; omega
            have hps := hpl
            generalize partsU j u = ps at *
            generalize u.c0 = uc at *
            have Hf := Lib.hid hf
            have Hwfu := Lib.hid hwfu
            have Hplt := Lib.hid hplt
            have hjn2 : j < n := by have := Hl.out; omega
            have hpsn : ps.length ≤ n := by have := Hl.out; omega
            have Hpsn := Lib.hid hpsn
            have HQ2 := Lib.hid (HQ1.out.below ((Below.refl w1.heap.size w1).alloc (Nat.le_refl _) (.cells #[.int .i64 uc.kind, .string uc.name, .int .i64 uc.n] 54)))
            have Hown2 := Lib.hid (Hown1.out.alloc (.cells #[.int .i64 uc.kind, .string uc.name, .int .i64 uc.n] 54))
            clear hf hwfu hplt hjn hu hnv q0 q1 q2 HD hpl hps hpsn HQ1 Hown1
            have hj0 : ¬ (j : Int) < 0 := by omega
            simp only [doeI]
            go_upto_region 11 with (first
              | (at_builtin; go_must (refine wpList_append_sl rfl (.tmp 41) (.tmp 46) 26 rfl w.heap.size 54 Try.underlying26 infoC rfl (by omega) rfl Hown2.out rfl (Sl.lit w1 _ [.int .i64 uc.kind, .string uc.name, .int .i64 uc.n] 54 3 1 rfl rfl (by simp [maxLen])) (one3 _ _ _) (by omega) (by omega) (by simp; omega) ?_); intro A3 c3 w3 hown3 hb3 hgr3 _; have Hown3 := Lib.hid hown3; have HQ3 := Lib.hid (HQ2.out.grown Hown2.out hgr3); have Hb3 := Lib.hid (HbB.out.trans (((Below.refl w1.heap.size w1).alloc (Nat.le_refl _) (.cells #[.int .i64 uc.kind, .string uc.name, .int .i64 uc.n] 54)).mono (by omega) |>.trans hb3)); clear hown3 hb3 hgr3))
            go_wp2_with (first
              | (go_at_call 89; go_must (refine (Hpa.out _ Hb3.out).mono ?_); rintro e w4 ⟨P, np, cp, rfl, hP, hb4, hPw⟩; have HP := Lib.hid hP; have HPw := Lib.hid hPw; have Hb4 := Lib.hid hb4; have HQ4 := Lib.hid (HQ3.out.below hb4); have Hnp : Hid (ps.length = np) := Lib.hid (by have := hP.1; simpa [ints_len] using this); have hnp : np ≤ 1000 := (by have := Hnp.out; have := Hpsn.out; omega); have hsz4 := hb4.size; clear hP hPw hb4)
              | (at_builtin; go_must (refine wpList_append_sl rfl (.tmp 51) (.tmp 52) 23 rfl w3.heap.size 3 Try.underlying23 infoI rfl (by omega) rfl HP.out rfl HQ4.out.1.sl (oneI _ (ints R)) (by omega) (by omega) (by omega) ?_); intro A5 c5 w5 hown5 hb5 _ _; have Hown5 := Lib.hid hown5; have Hb5 := Lib.hid (Hb4.out.trans hb5); clear hown5 hb5))
            have hsz3 := Hb3.out.size
            go_roundg (200 - (m + 1))
            case measure => have := hq.out.2.1; omega
            case rel => exact ⟨m + 1, _, _, _, out ++ [uc], ps ++ R, _, _, by omega, by omega, rfl, rfl, by rw [flatC_append]; exact own_below Hown3.out Hb5.out, IT.own (by rw [ints_append, List.map_append]; exact Hown5.out) (fun y hy => by
              rw [ints_append] at hy
              rcases List.mem_append.1 hy with hy | hy
              · exact HPw.out y hy
              · exact HQ4.out.1.wf y hy), Lib.hid ⟨by
              have h1 := hq.out.1
              rw [List.map_cons, flats_cons, Hf.out] at h1
              rw [List.append_assoc, List.map_append, flats_append]
              simpa using h1, by omega, by rw [List.length_append, hq.out.2.2.1]; rfl, fun y hy => by
              rcases List.mem_append.1 hy with hy | hy
              · exact Hplt.out y hy
              · exact hq.out.2.2.2.1 y (List.mem_cons_of_mem _ hy), fun y hy => by
              rcases List.mem_append.1 hy with hy | hy
              · exact hq.out.2.2.2.2 y hy
              · obtain rfl := List.mem_singleton.1 hy
                exact Hwfu.out⟩, Hb3.out.trans (Hb5.out.mono hsz3)⟩
end Go.Proofs.Ytlndjooddkjnoaa
