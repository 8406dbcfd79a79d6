/- The walk of the document's told: the term of a definition. -/
import Derived.Test.YtdeaeiolehglaaaDefX
import Derived.Test.YtdeaeiolehglaaaTurn
set_option linter.unusedVariables false
set_option linter.unusedSimpArgs false
namespace Go.Proofs.Ytdeaeiolehglaaa
open Go.RowKit

/-- cells that are handed back, new ones -/
def RetN (w : World) (cs : List C) (e : Ending) (w' : World) : Prop := ∃ A n cap, e = .returned (.slice A n cap) ∧ IsC w' A n cap cs ∧ (∀ a, A = some a → w.heap.size ≤ a.block) ∧ Below w.heap.size w w'
/-- a definition as a value -/
def ddVal (x : Dd) (P : Option Addr) (m q : Nat) : Value := .agg #[.int .i64 x.is, .string x.name, .int .i64 x.n, .slice P m q]
theorem pt_at {w : World} {A : Option Addr} {n c : Nat} {D : List Dp} (h : IsG RPt 4 w A n c D) {k : Nat} {x : Dp} (hx : D[k]? = some x) : ∃ b o, A = some ⟨b, o, none⟩ ∧ b < w.heap.size ∧ i64 x.is ∧ i64 x.n ∧
    w.cell? ⟨b, o + k * 4, none⟩ = some (.int .i64 x.is) ∧ w.cell? ⟨b, o + k * 4 + 1, none⟩ = some (.string noName) ∧ w.cell? ⟨b, o + k * 4 + 2, none⟩ = some (.int .i64 x.n) ∧ w.cell? ⟨b, o + k * 4 + 3, none⟩ = some (.slice none 0 0) := by
  obtain ⟨b, o, v, hA, hb, hl, ⟨rfl, h1, h2⟩, hc⟩ := h.at_ hx
  exact ⟨b, o, hA, hb, h1, h2, by simpa using hc 0 _ rfl, hc 1 _ rfl, hc 2 _ rfl, hc 3 _ rfl⟩
theorem isC_lit3 {w : World} {g : Nat} {k n : Int} {nm : ByteArray} (h : w.heap[g]? = some (.cells #[.int .i64 k, .string nm, .int .i64 n] 45 (0, 0))) (hk : i64 k) (hn : i64 n) (hm : nm.size ≤ maxLen) : IsC w (some ⟨g, 0, none⟩) 1 1 [⟨k, nm, n⟩] :=
  ⟨Sl.blk (cs := #[.int .i64 k, .string nm, .int .i64 n]) (t := 45) h rfl (by simp [maxLen]), fun c hc => by simp at hc; subst hc; exact ⟨hk, hn, hm⟩⟩
set_option maxRecDepth 100000 in
set_option maxHeartbeats 8000000 in
theorem told_any : ∀ (K : Nat) (A : Option Addr) (n c : Nat) (D : List Dd) (x : Dd) (P : Option Addr) (m q : Nat) (reg fuel : Int) (w : World), IsG (RDf AnyQ) 4 w A n c D → IsG RPt 4 w P m q x.parts → x.wf → (∀ y ∈ D, y.parts.length ≤ 4000) → x.parts.length ≤ 4000 → n ≤ 100000 → fuel ≤ K → -100000 ≤ fuel → K ≤ 100000 → i64 reg →
    Calls Try.prog 42 #[.slice A n c, .agg #[.int .i64 x.is, .string x.name, .int .i64 x.n, .slice P m q], .int .i64 reg, .int .i64 fuel] w (RetN w (toldK D K fuel x reg))
  | K, A, n, c, D, x, P, m, q, reg, fuel, w, hD, hP, hx, hDp, hxp, hn, hf, hf2, hK, hreg => by
    by_cases hf1 : fuel < 1
    · have e : toldK D K fuel x reg = [] := by
        cases K with
        | zero => rfl
        | succ K => rw [toldK, if_pos hf1]
      rw [e]
      go_enter Try.func42, Try.ntmps42
      go_wp2
      go_ret
      exact ⟨none, 0, 0, rfl, IsC.nil _ _ _ (by simp [maxLen]), (fun a ha => by cases ha), by repeat (first | exact Below.refl _ _ | refine Below.drew ?_ | refine Below.alloc ?_ ?_ _ | (first | omega | (simp; done) | (simp; omega)))⟩
    · obtain ⟨K, rfl⟩ : ∃ j, K = j + 1 := ⟨K - 1, by omega⟩
      have f0 : (fuel < 1) = False := by simp; omega
      have hml := hP.len
      by_cases e1 : x.is = 1
      · have e : toldK D (K + 1) fuel x reg = [⟨1, noName, reg⟩] := by rw [toldK, if_neg hf1, if_pos e1]
        rw [e]
        have b1 : (x.is == 1) = true := by simp [e1]
        clear e1
        go_enter Try.func42, Try.ntmps42
        go_wp2
        go_ret
        exact ⟨_, 1, 1, rfl, isC_lit3 (alloc_at (by simp)) i64_1 hreg empty_size, (fun a ha => by cases ha; simp), by repeat (first | exact Below.refl _ _ | refine Below.drew ?_ | refine Below.alloc ?_ ?_ _ | (first | omega | (simp; done) | (simp; omega)))⟩
      · by_cases e2 : x.is = 2
        · have e : toldK D (K + 1) fuel x reg = [⟨2, noName, x.n⟩] := by rw [toldK, if_neg hf1, if_neg e1, if_pos e2]
          rw [e]
          have b1 : (x.is == 1) = false := by simpa using e1
          have b2 : (x.is == 2) = true := by simpa using e2
          clear e2
          go_enter Try.func42, Try.ntmps42
          go_wp2
          go_ret
          exact ⟨_, 1, 1, rfl, isC_lit3 (alloc_at (by simp)) i64_2 hx.n empty_size, (fun a ha => by cases ha; simp), by repeat (first | exact Below.refl _ _ | refine Below.drew ?_ | refine Below.alloc ?_ ?_ _ | (first | omega | (simp; done) | (simp; omega)))⟩
        · by_cases e3 : x.is = 3
          · have e : toldK D (K + 1) fuel x reg = toldP (fun len p => toldK D K (fuel - len) { is := p.is, n := p.n } (-1)) [⟨3, x.name, x.parts.length⟩] x.parts := by rw [toldK, if_neg hf1, if_neg e1, if_neg e2, if_pos e3]
            rw [e]
            have b1 : (x.is == 1) = false := by simpa using e1
            have b2 : (x.is == 2) = false := by simpa using e2
            have b3 : (x.is == 3) = true := by simpa using e3
            clear e e1 e2 e3 f0
            obtain ⟨g, hg⟩ : ∃ g : Nat → Dp → List C, g = (fun (len : Nat) (p : Dp) => toldK D K (fuel - len) { is := p.is, n := p.n } (-1)) := ⟨_, rfl⟩
            rw [← hg]
            obtain ⟨V, hV⟩ : ∃ V, toldP g [⟨3, x.name, x.parts.length⟩] x.parts = V := ⟨_, rfl⟩
            rw [hV]
            have HV := Lib.hid hV
            clear hV
            have hrec := fun (p : Dp) (fu : Int) (w' : World) (h1 : Below w.heap.size w w') (h2 : i64 p.is) (h3 : i64 p.n) (h4 : fu ≤ K) (h5 : -100000 ≤ fu) =>
              told_any K A n c D { is := p.is, n := p.n } none 0 0 (-1) fu w' (hD.below (keepsDf _) h1) (IsG.nil (by simp [maxLen])) ⟨h2, h3, empty_size⟩ hDp (by simp) hn h4 h5 (by omega) ⟨by decide, by decide⟩
            have Hrec := Lib.hid hrec
            have Hg := Lib.hid hg
            have hgl : ∀ len p, (g len p).length ≤ 200 := fun len p => by rw [hg]; exact toldK_len _ _ _ _ _
            have Hgl := Lib.hid hgl
            have Hml := Lib.hid hml
            clear hrec hg hgl hDp hD
            go_enter Try.func42, Try.ntmps42
            go_upto_region 10 with fail
            refine on_world (fun X => Below w.heap.size w X ∧ X.heap[w.heap.size]? = some (.cells #[.int .i64 x.is, .string x.name, .int .i64 x.n, .slice P m q] 86 (0, 0)) ∧ X.heap[w.heap.size + 1]? = some (.cells #[.int .i64 3, .string x.name, .int .i64 (m : Int)] 45 (0, 0)))
              ⟨((Below.refl _ _).alloc (Nat.le_refl _) _).alloc (by simp) _, (alloc_past (by simp)).trans (alloc_at rfl), alloc_at (by simp)⟩ ?_
            rintro X ⟨hbX, xb, xt⟩
            obtain ⟨gb, hgb⟩ : ∃ gb, gb = w.heap.size := ⟨_, rfl⟩
            obtain ⟨gt, hgt⟩ : ∃ gt, gt = w.heap.size + 1 := ⟨_, rfl⟩
            rw [← hgt] at xt ⊢
            rw [← hgb] at xb ⊢
            have hlb : gb < gt := by omega
            have hlt := block_lt xt
            have hwX := hbX.size
            have ht0 : Tail X gt 45 3 (some ⟨gt, 0, none⟩) 1 1 (flatC [⟨3, x.name, (m : Int)⟩]) := tail_lit xt (Nat.le_refl _) rfl (by simp [maxLen])
            have hwf0 : (⟨3, x.name, (m : Int)⟩ : C).wf := ⟨i64_3, by have := Hml.out; exact i64_nat (by omega), hx.name⟩
            have hgbw : w.heap.size ≤ gb := by omega
            clear hgb hgt xt
            go_wp2
            go_loopw [9, 10] (fun tv iv wr => ∃ (k n3 c3 : Nat) (A3 : Option Addr) (ts : List C), k ≤ m ∧ iv = .int .i64 k ∧ tv = .slice A3 n3 c3 ∧ Tail wr gt 45 3 A3 n3 c3 (flatC ts) ∧ (∀ c ∈ ts, c.wf) ∧ Hid (ts.length = n3) ∧ 1 ≤ n3 ∧ n3 ≤ 200 ∧ Hid (toldP g ts (x.parts.drop k) = V) ∧ Below gt X wr ∧ X.heap.size ≤ wr.heap.size ∧ (∀ a, A3 = some a → a.block < wr.heap.size) ∧ 0 < c3) (fun _ iv _ => m - (intOf iv).toNat)
            case atStart => exact ⟨0, 1, 1, _, [⟨3, x.name, (m : Int)⟩], Nat.zero_le _, rfl, rfl, ht0, fun c hc => by simp at hc; subst hc; exact hwf0, Lib.hid rfl, Nat.le_refl _, by omega, Lib.hid (by rw [← Hml.out]; exact HV.out), Below.refl _ _, Nat.le_refl _, fun a ha => by cases ha; exact hlt, by omega⟩
            case round =>
              clear ht0 hwf0
              obtain ⟨k, n3, c3, A3, ts, hk, rfl, rfl, ht, hwt, htl, h1n, h2n, hres, hbr, hsr, hlt3, hc3⟩ := hrel
              have y := (hbr.block gb hlb).trans xb
              have y3 := cells_of y 3
              simp at y3
              have hbw : Below w.heap.size w wr := hbX.trans (hbr.mono (by omega))
              have hPr : IsG RPt 4 wr P m q x.parts := hP.below keepsPt hbw
              by_cases hltk : k < m
              · obtain ⟨pk, hpk⟩ := hPr.get hltk
                obtain ⟨b1, o1, rfl, hb1, w1, w2, z0, z1, z2, z3⟩ := pt_at hPr hpk
                have hd := drop_get hpk
                have hstep := hres.out
                rw [hd, toldP, htl.out] at hstep
                have hgv : g n3 pk = toldK D K (fuel - n3) { is := pk.is, n := pk.n } (-1) := by rw [Hg.out]
                have hcall := Hrec.out pk (fuel - n3) wr hbw w1 w2 (by omega) (by omega)
                rw [← hgv] at hcall
                obtain ⟨gq, hgq⟩ : ∃ gq, g n3 pk = gq := ⟨_, rfl⟩
                have hgql := Hgl.out n3 pk
                rw [hgq] at hstep hcall hgql
                have Hcall := Lib.hid hcall
                have Hstep := Lib.hid hstep
                have hml := Hml.out
                have hkm : (k : Int) < (m : Int) := by omega
                have hm4 : m ≤ 4000 := by omega
                have hcapP := hPr.cap_le
                have hwf1 : IntKind.i64.wrap (fuel - (n3 : Int)) = fuel - n3 := by rw [IntKind.wrap_i64]; omega
                clear hd hcall hstep hgv hres hpk hml hPr hgq
                go_wp2_with fail
                refine Hcall.out.mono ?_
                rintro e w6 ⟨A6, n6, c6, rfl, hI6, hnw6, hb6⟩
                have hl6 := hI6.len
                have hbr6 : Below gt X w6 := hbr.trans (hb6.mono (by omega))
                have ht6 := ht.below hb6
                have y6 := (hbr6.block gb hlb).trans xb
                have y63 := cells_of y6 3
                simp at y63
                have hs6 := hb6.size
                by_cases hn6 : n6 = 0
                · subst hn6
                  go_wp2_with fail
                  go_ret
                  have hfin : V = [] := by rw [← Hstep.out, if_pos (.inl (by omega))]
                  rw [hfin]
                  exact ⟨none, 0, 0, rfl, IsC.nil _ _ _ (by simp [maxLen]), (fun a ha => by cases ha), hbX.trans (hbr6.mono (by omega))⟩
                · have q1 : ((n6 : Int) == 0) = false := by simp; omega
                  have q2 : ¬ (n6 : Int) = 0 := by omega
                  by_cases hbig : 200 < n3 + n6
                  · have q3 : 200 < (n3 : Int) + (n6 : Int) := by omega
                    go_wp2_with fail
                    go_ret
                    have hfin : V = [] := by rw [← Hstep.out, if_pos (.inr (by omega))]
                    rw [hfin]
                    exact ⟨none, 0, 0, rfl, IsC.nil _ _ _ (by simp [maxLen]), (fun a ha => by cases ha), hbX.trans (hbr6.mono (by omega))⟩
                  · have q3 : ¬ 200 < (n3 : Int) + (n6 : Int) := by omega
                    have q4 : 0 < n6 := by omega
                    have hlt36 : ∀ a, A3 = some a → a.block < w6.heap.size := fun a ha => Nat.lt_of_lt_of_le (hlt3 a ha) hs6
                    go_wp2_with (first
                      | (at_builtin; go_must (refine wpList_append_tail rfl (.tmp 65) (.tmp 66) 22 rfl gt 45 Try.underlying22 infoC rfl (by omega) rfl ht6 rfl hI6.sl (oneC gq) q4 (by omega) (by omega) (by omega) ?_); intro A7 c7 w7 hc7 ht7 hbn7 hap7))
                    have hfin : toldP g (ts ++ gq) (x.parts.drop (k + 1)) = V := by
                      rw [← Hstep.out, if_neg (by omega)]
                    go_roundw
                    case rel => exact ⟨k + 1, n3 + n6, c7, A7, ts ++ gq, by omega, by go_num, rfl, by rw [flatC_append]; exact ht7, fun c hc => (List.mem_append.1 hc).elim (hwt c) (hI6.wf c), Lib.hid (by rw [List.length_append, htl.out, hl6]), by omega, by omega, Lib.hid hfin, hbr6.trans (hbn7.mono (by omega)), by have := hap7.size; omega, fun a ha => (hap7.blk a ha).1, hc7⟩
                    case measure => simp [intOf]; omega
              · have hkm : k = m := by omega
                subst hkm
                have hml := Hml.out
                go_wp2_with fail
                go_ret
                have hfin : V = ts := by
                  have := hres.out
                  rw [List.drop_of_length_le (by omega)] at this
                  exact this.symm
                rw [hfin]
                exact ⟨A3, n3, c3, rfl, ⟨ht.sl (by omega), hwt⟩, (fun a ha => by have := (ht.lt hc3 a ha).1; omega), hbw⟩
          · by_cases e4 : x.is = 4
            · have b1 : (x.is == 1) = false := by simpa using e1
              have b2 : (x.is == 2) = false := by simpa using e2
              have b3 : (x.is == 3) = false := by simpa using e3
              have b4 : (x.is == 4) = true := by simpa using e4
              have hdl := hD.len
              by_cases hr : 0 ≤ x.n ∧ x.n < D.length
              · have e : toldK D (K + 1) fuel x reg = toldK D K (fuel - 1) (getD' D x.n) x.n := by rw [toldK, if_neg hf1, if_neg e1, if_neg e2, if_neg e3, if_pos e4, if_pos hr]
                obtain ⟨j, hj⟩ : ∃ j : Nat, x.n = j := ⟨x.n.toNat, by omega⟩
                have hjn : j < n := by omega
                obtain ⟨z, hz⟩ := hD.get hjn
                have hgd : getD' D x.n = z := by unfold getD'; rw [hj, Int.toNat_natCast, hz]; rfl
                rw [e, hgd, hj]
                obtain ⟨b2', o2, P2, m2, q2, rfl, hb2, hP2, hzw, r0, r1, r2, r3⟩ := df_at hD hz
                have hrec := fun (w' : World) (h1 : Below w.heap.size w w') => told_any K _ n c D z P2 m2 q2 (j : Int) (fuel - 1) w' (hD.below (keepsDf _) h1) (hP2.below keepsPt h1) hzw hDp (hDp z (List.mem_of_getElem? hz)) hn (by omega) (by omega) (by omega) (i64_nat (by omega))
                have Hrec := Lib.hid hrec
                have hcapD := hD.cap_le
                have g1 : ¬ (j : Int) < 0 := by omega
                have g2 : ¬ (n : Int) ≤ (j : Int) := by omega
                have g3 : ¬ n ≤ j := by omega
                have hwf1 : IntKind.i64.wrap (fuel - 1) = fuel - 1 := by rw [IntKind.wrap_i64]; omega
                clear hrec e hgd hz hr e1 e2 e3 e4 hD hP2 hP hDp
                go_enter Try.func42, Try.ntmps42
                go_upto_region 21 with fail
                refine on_world (fun X => Below w.heap.size w X ∧ X.heap[w.heap.size]? = some (.cells #[.int .i64 x.is, .string x.name, .int .i64 (j : Int), .slice P m q] 86 (0, 0))) ⟨(Below.refl _ _).alloc (Nat.le_refl _) _, alloc_at rfl⟩ ?_
                rintro X ⟨hbX, xb⟩
                have hwX := hbX.size
                have xl := block_lt xb
                have y2 := cells_of xb 2
                simp at y2
                have s0 := (hbX.cell (p := ⟨b2', o2 + j * 4, none⟩) hb2).trans r0
                have s1 := (hbX.cell (p := ⟨b2', o2 + j * 4 + 1, none⟩) hb2).trans r1
                have s2 := (hbX.cell (p := ⟨b2', o2 + j * 4 + 2, none⟩) hb2).trans r2
                have s3 := (hbX.cell (p := ⟨b2', o2 + j * 4 + 3, none⟩) hb2).trans r3
                go_region_held3 (fun w' => w'.cell? ⟨w.heap.size, 2, none⟩ = some (.int .i64 (j : Int)) ∧ w'.cell? ⟨b2', o2 + j * 4, none⟩ = some (.int .i64 z.is) ∧ w'.cell? ⟨b2', o2 + j * 4 + 1, none⟩ = some (.string z.name) ∧ w'.cell? ⟨b2', o2 + j * 4 + 2, none⟩ = some (.int .i64 z.n) ∧ w'.cell? ⟨b2', o2 + j * 4 + 3, none⟩ = some (.slice P2 m2 q2))
                  (go_keep)
                  (first
                    | (go_at_call 42; refine (Hrec.out _ hbX.drew).mono ?_; rintro e w6 ⟨A6, n6, c6, rfl, hI6, hnw6, hb6⟩; have hb6' : Below X.heap.size X w6 := ((Below.refl _ _).drew).trans hb6; have t2 := cells_of ((hb6'.block _ xl).trans xb) 2; have u0 := (hb6'.cell (p := ⟨b2', o2 + j * 4, none⟩) (Nat.lt_of_lt_of_le hb2 hwX)).trans s0; have u1 := (hb6'.cell (p := ⟨b2', o2 + j * 4 + 1, none⟩) (Nat.lt_of_lt_of_le hb2 hwX)).trans s1; have u2 := (hb6'.cell (p := ⟨b2', o2 + j * 4 + 2, none⟩) (Nat.lt_of_lt_of_le hb2 hwX)).trans s2; have u3 := (hb6'.cell (p := ⟨b2', o2 + j * 4 + 3, none⟩) (Nat.lt_of_lt_of_le hb2 hwX)).trans s3; simp at t2)
                    | fail)
                all_goals
                  go_wp2_with fail
                  go_ret
                  exact ⟨A6, n6, c6, rfl, hI6, (fun a ha => Nat.le_trans hwX (hnw6 a ha)), hbX.trans (hb6'.mono hwX)⟩
              · have e : toldK D (K + 1) fuel x reg = [] := by rw [toldK, if_neg hf1, if_neg e1, if_neg e2, if_neg e3, if_pos e4, if_neg hr]
                rw [e]
                clear e e1 e2 e3 e4
                by_cases h0 : x.n < 0
                · have g1 : decide (x.n < 0) = true := by simpa using h0
                  go_enter Try.func42, Try.ntmps42
                  go_wp2
                  go_ret
                  exact ⟨none, 0, 0, rfl, IsC.nil _ _ _ (by simp [maxLen]), (fun a ha => by cases ha), by repeat (first | exact Below.refl _ _ | refine Below.drew ?_ | refine Below.alloc ?_ ?_ _ | (first | omega | (simp; done) | (simp; omega)))⟩
                · have g1 : decide (x.n < 0) = false := by simpa using h0
                  have g2 : (n : Int) ≤ x.n := by omega
                  go_enter Try.func42, Try.ntmps42
                  go_wp2
                  go_ret
                  exact ⟨none, 0, 0, rfl, IsC.nil _ _ _ (by simp [maxLen]), (fun a ha => by cases ha), by repeat (first | exact Below.refl _ _ | refine Below.drew ?_ | refine Below.alloc ?_ ?_ _ | (first | omega | (simp; done) | (simp; omega)))⟩
            · have e : toldK D (K + 1) fuel x reg = [] := by rw [toldK, if_neg hf1, if_neg e1, if_neg e2, if_neg e3, if_neg e4]
              rw [e]
              have b1 : (x.is == 1) = false := by simpa using e1
              have b2 : (x.is == 2) = false := by simpa using e2
              have b3 : (x.is == 3) = false := by simpa using e3
              have b4 : (x.is == 4) = false := by simpa using e4
              go_enter Try.func42, Try.ntmps42
              go_wp2
              go_ret
              exact ⟨none, 0, 0, rfl, IsC.nil _ _ _ (by simp [maxLen]), (fun a ha => by cases ha), by repeat (first | exact Below.refl _ _ | refine Below.drew ?_ | refine Below.alloc ?_ ?_ _ | (first | omega | (simp; done) | (simp; omega)))⟩
termination_by K => K
end Go.Proofs.Ytdeaeiolehglaaa
