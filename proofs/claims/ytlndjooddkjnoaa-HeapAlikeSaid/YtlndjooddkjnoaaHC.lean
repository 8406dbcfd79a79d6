/- The walk of the closure of the code's Right: does a place lead round? -/
import Derived.Laws.EntriesVeiled
import Derived.Test.YtlndjooddkjnoaaH9
import Derived.Test.YtlndjooddkjnoaaB3
set_option linter.unusedVariables false
set_option linter.unusedSimpArgs false
namespace Go.Proofs.Ytlndjooddkjnoaa
open Go.RowKit

/-- but for one block all is as it was -/
structure Kq (g : Nat) (w w' : World) : Prop where
  bel : Below g w w'
  old : ∀ b, b < w.heap.size → b ≠ g → w'.heap[b]? = w.heap[b]?
theorem Kq.refl (g : Nat) (w : World) : Kq g w w := ⟨Below.refl _ _, fun _ _ _ => rfl⟩
theorem Kq.trans {g : Nat} {w w' w'' : World} (h : Kq g w w') (h' : Kq g w' w'') : Kq g w w'' :=
  ⟨h.bel.trans h'.bel, fun b hb hn => (h'.old b (Nat.lt_of_lt_of_le hb h.bel.size) hn).trans (h.old b hb hn)⟩
theorem Kq.below {g : Nat} {w w' : World} (h : Below w.heap.size w w') (hg : g ≤ w.heap.size) : Kq g w w' := ⟨h.mono hg, fun b hb _ => h.block b hb⟩
theorem Kq.set {g : Nat} (w : World) (i : Nat) (v : Value) : Kq g w (w.setCell ⟨g, i, none⟩ v) := ⟨Below.setCell (p := ⟨g, i, none⟩) (Below.refl g w) (Nat.le_refl _) v, fun b _ hn => set_other hn _⟩
theorem Kq.apart {g : Nat} {w w' : World} (h : Kq g w w') : Apart w w' (some ⟨g, 0, none⟩) none := ⟨h.bel.size, fun b hb hn => h.old b hb (fun e => hn _ rfl e.symm), by simp⟩
theorem IsC.kq {g n c : Nat} {w w' : World} {A : Option Addr} {l : List C} (h : IsC w A n c l) (hk : Kq g w w') (hA : ∀ a, A = some a → a.block ≠ g) : IsC w' A n c l :=
  h.apart hk.apart fun a a' ha ha' e => hA a' ha' (by cases ha; exact e.symm)
theorem IsI.kq {g n c : Nat} {w w' : World} {A : Option Addr} {l : List Int} (h : IsI w A n c l) (hk : Kq g w w') (hA : ∀ a, A = some a → a.block ≠ g) : IsI w' A n c l :=
  h.apart hk.apart fun a a' ha ha' e => hA a' ha' (by cases ha; exact e.symm)
/-- in one step at least -/
def PathP (l : List C) (p q : Nat) : Prop := ∃ r, r ∈ leads l p ∧ Path l r q
theorem not_ac {l : List C} {p : Nat} (h : PathP l p p) : ¬ Ac l := by
  rintro ⟨rk, hr⟩
  obtain ⟨r, h1, h2⟩ := h
  have h3 := hr p r h1
  rcases h2.rank hr with h4 | h4
  · subst h4; omega
  · omega
/-- what the walk leaves -/
def RetDf (l : List C) (n gst : Nat) (wr : World) (s : Nat → Nat) (p : Nat) (e : Ending) (w' : World) : Prop :=
  (∃ s', e = .returned (.bool true) ∧ Kq gst wr w' ∧ w'.rowIs gst 3 n (fun j => .int .i64 (s' j : Nat)) ∧ DfI l s' ∧ s' p = 2 ∧ (∀ q, s q ≠ 0 → s' q = s q) ∧ (∀ q, s' q = 1 → s q = 1)) ∨
  (e = .returned (.bool false) ∧ Kq gst wr w' ∧ ¬ Ac l)

set_option maxRecDepth 100000 in
set_option maxHeartbeats 4000000 in
theorem hRight1_any (X : World) (A B : Option Addr) (n c m d g0 bs bk gst : Nat) (r : Int) (l : List C) (hC : IsC X A n c l) (hs : shpB l = true) (hn : n ≤ 100000) (hA : ∀ a, A = some a → a.block ≠ gst)
    (x0 : X.heap[g0]? = some (.cells #[.slice A n c, .slice B m d, .int .i64 r] 25 (0, 0))) (xs : X.heap[bs]? = some (.cells #[.slice (some ⟨gst, 0, none⟩) n n] 23 (0, 0)))
    (xk : X.heap[bk]? = some (.cells #[.func (.func 45) #[] #[.pointer (some ⟨bs, 0, none⟩), .pointer (some ⟨g0, 0, none⟩), .pointer (some ⟨bk, 0, none⟩)]] 70 (0, 0)))
    (n0 : g0 ≠ gst) (n1 : bs ≠ gst) (n2 : bk ≠ gst) (hgX : gst < X.heap.size) (N : Nat) : ∀ (s : Nat → Nat) (p : Nat) (w : World), zeros n s < N → p < n → Kq gst X w → w.rowIs gst 3 n (fun j => .int .i64 (s j : Nat)) → DfI l s → (∀ q, s q = 1 → PathP l q p) →
    Calls Try.prog 45 #[.int .i64 p, .pointer (some ⟨bs, 0, none⟩), .pointer (some ⟨g0, 0, none⟩), .pointer (some ⟨bk, 0, none⟩)] w (RetDf l n gst w s p) := by
  induction N with
  | zero => intro s p w hN; omega
  | succ N ih =>
    intro s p w hN hp hK hrow hD hpre
    have Ih := Lib.hid ih
    have HX0 := Lib.hid x0
    have HXs := Lib.hid xs
    have HXk := Lib.hid xk
    have HC := Lib.hid hC
    have Hs := Lib.hid hs
    have HA := Lib.hid hA
    have HK := Lib.hid hK
    have HD := Lib.hid hD
    have Hpre := Lib.hid hpre
    have Hl := Lib.hid hC.len
    have b0 := block_lt x0
    have b1 := block_lt xs
    have b2 := block_lt xk
    have e0 := (hK.old g0 b0 n0).trans x0
    have e1 := (hK.old bs b1 n1).trans xs
    have e2 := (hK.old bk b2 n2).trans xk
    obtain ⟨y0, y1, y2, yl⟩ := open3 e0
    have ys := cells_of e1 0
    have yk := cells_of e2 0
    simp at ys yk
    have ysl := block_lt e1
    have ykl := block_lt e2
    have hgl := hrow.lt
    have hc0 := hrow.cell hp
    have hf0 := hrow.frozen p
    have Hrow := Lib.hid hrow
    have Hv := Lib.hid (hD.val p)
    clear ih x0 xs xk hC hs hA hK hD hpre e0 e1 e2 hrow
    rcases Nat.lt_or_ge 0 (s p) with hpos | hz
    · have h12 : s p = 1 ∨ s p = 2 := by have := Hv.out; omega
      rcases h12 with h1 | h2
      · have hcy := not_ac (Hpre.out p h1)
        have Hcy := Lib.hid hcy
        have hc1 : w.cell? ⟨gst, p, none⟩ = some (.int .i64 1) := by rw [hc0, h1]; rfl
        clear hc0 hcy h1 hpos
        go_enter Try.func45, Try.ntmps45
        go_wp2
        go_ret
        exact .inr ⟨rfl, Kq.refl _ _, Hcy.out⟩
      · have hc1 : w.cell? ⟨gst, p, none⟩ = some (.int .i64 2) := by rw [hc0, h2]; rfl
        have H2 := Lib.hid h2
        clear hc0 h2 hpos
        go_enter Try.func45, Try.ntmps45
        go_wp2
        go_ret
        exact .inl ⟨s, rfl, Kq.refl _ _, Hrow.out, HD.out, H2.out, fun _ _ => rfl, fun _ h => h⟩
    · have h0 : s p = 0 := by omega
      have hc1 : w.cell? ⟨gst, p, none⟩ = some (.int .i64 0) := by rw [hc0, h0]; rfl
      have H0 := Lib.hid h0
      have hz1 : zeros n (upd s p 1) < zeros n s := zeros_lt (fun q hq => by
        unfold upd at hq
        split at hq
        · cases hq
        · exact hq) hp h0 (by simp [upd])
      have Hz1 := Lib.hid hz1
      have hK1 : Kq gst w (w.setCell ⟨gst, p, none⟩ (.int .i64 1)) := Kq.set w p _
      have hrow1 : (w.setCell ⟨gst, p, none⟩ (.int .i64 1)).rowIs gst 3 n (fun j => .int .i64 (upd s p 1 j : Nat)) := (Hrow.out.set p (.int .i64 1)).congr fun i hi => by
        unfold upd
        by_cases e : i = p
        · subst e; simp
        · simp [e]
      have hD1 := HD.out.enter h0
      have HK1 := Lib.hid hK1
      have Hrow1 := Lib.hid hrow1
      have HD1 := Lib.hid hD1
      have hle := hleadsN_any A n c l p (w.setCell ⟨gst, p, none⟩ (.int .i64 1)) ((HC.out.kq HK.out HA.out).kq hK1 HA.out) Hs.out hn hp
      have Hle := Lib.hid hle
      have hlen6 := leads_len Hs.out p
      have Hlen6 := Lib.hid hlen6
      have hN2 := hN
      have HN := Lib.hid hN
      have nn0 : ¬ gst = g0 := fun e => n0 e.symm
      have nn1 : ¬ gst = bs := fun e => n1 e.symm
      have nn2 : ¬ gst = bk := fun e => n2 e.symm
      clear hc0 h0 hz1 hK1 hrow1 hD1 hle hlen6 hN2 hN hz
      go_enter Try.func45, Try.ntmps45
      go_wp2_with (first | (go_at_call 46; go_must (refine Hle.out.mono ?_); rintro e w1 ⟨Al, nl, cl, rfl, hIl, hAn, hb1⟩; have hnl : nl ≤ 6 := (by have h1 := hIl.len; have h2 := Hlen6.out; rw [ints_len] at h1; omega); have hlL : (leads l p).length = nl := (by have h1 := hIl.len; rw [ints_len] at h1; omega); have HlL := Lib.hid hlL; clear hlL))
      have hKw1 := HK1.out.trans (Kq.below hb1 (by simp; omega))
      have hrw1 := Hrow1.out.of_block (hb1.block gst (by simpa using hgl))
      have hAl : ∀ a, Al = some a → a.block ≠ gst := fun a ha => by have := hAn a ha; simp at this; omega
      have HAl := Lib.hid hAl
      have HIl := Lib.hid hIl
      have HKw1 := Lib.hid hKw1
      have Hrw1 := Lib.hid hrw1
      have hK0 : Kq gst w w1 := hKw1
      have hsz : w.heap.size ≤ w1.heap.size := hKw1.bel.size
      clear hAl hIl hKw1 hrw1 hAn hb1 hc1 y0 y1 y2 ys yk
      go_loopw [26] (fun kv wr => ∃ (k : Nat) (s2 : Nat → Nat), k ≤ nl ∧ kv = .int .i64 k ∧ Hid (Kq gst w1 wr) ∧ Hid (wr.rowIs gst 3 n (fun j => .int .i64 (s2 j : Nat))) ∧ Hid (DfI l s2) ∧ Hid (∀ q, upd s p 1 q ≠ 0 → s2 q = upd s p 1 q) ∧ Hid (∀ q, s2 q = 1 → upd s p 1 q = 1) ∧ Hid (∀ j q, j < k → (leads l p)[j]? = some q → s2 q = 2)) (fun kv _ => nl - (intOf kv).toNat)
      case atStart => exact ⟨0, upd s p 1, Nat.zero_le _, rfl, Lib.hid (Kq.refl _ _), Hrw1, HD1, Lib.hid (fun _ _ => rfl), Lib.hid (fun _ h => h), Lib.hid (fun j q hj => by omega)⟩
      case round =>
        obtain ⟨k, s2, hk, rfl, hK2, hrow2, hD2, hst1, hst2, hall⟩ := hrel
        have hKq := HK.out.trans (hK0.trans hK2.out)
        have HKq := Lib.hid hKq
        have hz2 := (hK0.trans hK2.out).bel.size
        have e0 := (hKq.old g0 b0 n0).trans HX0.out
        have e1 := (hKq.old bs b1 n1).trans HXs.out
        have e2 := (hKq.old bk b2 n2).trans HXk.out
        obtain ⟨y0, y1, y2, yl'⟩ := open3 e0
        have ys := cells_of e1 0
        have yk := cells_of e2 0
        simp at ys yk
        have ysl' := block_lt e1
        have ykl' := block_lt e2
        have hgl' := hrow2.out.lt
        have hf0' := hrow2.out.frozen p
        have hc0' := hrow2.out.cell hp
        clear hKq e0 e1 e2
        by_cases hkn : k < nl
        · obtain ⟨y, hy⟩ : ∃ y, (leads l p)[k]? = some y := ⟨_, List.getElem?_eq_getElem (by rw [HlL.out]; exact hkn)⟩
          have hym := List.mem_of_getElem? hy
          have hyn : y < n := by have := leads_lt Hs.out hym; have := Hl.out; omega
          have hIl2 := HIl.out.kq hK2.out HAl.out
          obtain ⟨bl, ol, hAe, hbl, _, hcl⟩ := hIl2.at_ (ints_get hy)
          have hilc := hIl2.sl.hcap
          have hilm := hIl2.sl.hmax
          unfold maxLen at hilm
          have hpre2 : ∀ q, s2 q = 1 → PathP l q y := fun q hq => by
            have h1 := hst2.out q hq
            by_cases e : q = p
            · subst e; exact ⟨y, hym, .refl _⟩
            · have h2 : s q = 1 := by simpa [upd, e] using h1
              obtain ⟨r', hr1, hr2⟩ := Hpre.out q h2
              exact ⟨r', hr1, hr2.snoc hym⟩
          have hzz : zeros n s2 < N := by
            have h1 := Hz1.out
            have h2 : zeros n s2 ≤ zeros n (upd s p 1) := zeros_mono fun q hq => by
              by_cases e : upd s p 1 q = 0
              · exact e
              · rw [hst1.out q e] at hq; exact hq
            have h3 := HN.out
            omega
          have hrec := Ih.out s2 y wr hzz hyn HKq.out hrow2.out hD2.out hpre2
          have Hrec := Lib.hid hrec
          have Hy := Lib.hid hy
          have Hym := Lib.hid hym
          subst hAe
          clear hy hym hIl2 hpre2 hzz hrec hc0' hf0'
          go_wp2_with fail
          refine Hrec.out.mono ?_
          rintro e w3 (⟨s3, rfl, hK3, hrow3, hD3, h32, h3a, h3b⟩ | ⟨rfl, hK3, hnac⟩)
          · have HK3 := Lib.hid hK3
            have Hrow3 := Lib.hid hrow3
            have HD3 := Lib.hid hD3
            have H32 := Lib.hid h32
            have H3a := Lib.hid h3a
            have H3b := Lib.hid h3b
            clear hK3 hrow3 hD3 h32 h3a h3b
            go_wp2_with fail
            go_roundw
            case rel =>
              refine ⟨k + 1, s3, by omega, by go_num, Lib.hid (hK2.out.trans HK3.out), Hrow3, HD3, Lib.hid (fun q hq => ?_), Lib.hid (fun q hq => hst2.out q (H3b.out q hq)), Lib.hid (fun j q hj hjq => ?_)⟩
              · have h1 := hst1.out q hq
                rw [H3a.out q (by rw [h1]; exact hq), h1]
              · by_cases e : j = k
                · subst e
                  rw [Hy.out] at hjq
                  cases hjq
                  exact H32.out
                · have h1 := hall.out j q (by omega) hjq
                  rw [H3a.out q (by omega), h1]
            case measure => simp [intOf]; omega
          · have HK3 := Lib.hid hK3
            have Hnac := Lib.hid hnac
            clear hK3 hnac
            go_wp2_with fail
            go_ret
            exact .inr ⟨rfl, hK0.trans (hK2.out.trans HK3.out), Hnac.out⟩
        · have hall2 : ∀ q ∈ leads l p, s2 q = 2 := fun q hq => by
            obtain ⟨j, hj, he⟩ := List.getElem_of_mem hq
            exact hall.out j q (by have := HlL.out; omega) (by rw [List.getElem?_eq_getElem hj, he])
          have hs2p : s2 p = 1 := by have := hst1.out p (by simp [upd]); simpa [upd] using this
          have hD4 := hD2.out.leave hs2p hall2
          have HD4 := Lib.hid hD4
          have hrow4 : (wr.setCell ⟨gst, p, none⟩ (.int .i64 2)).rowIs gst 3 n (fun j => .int .i64 (upd s2 p 2 j : Nat)) := (hrow2.out.set p (.int .i64 2)).congr fun i hi => by
            unfold upd
            by_cases e : i = p
            · subst e; simp
            · simp [e]
          have Hrow4 := Lib.hid hrow4
          clear hall2 hs2p hD4 hrow4
          go_wp2_with fail
          go_ret
          refine .inl ⟨upd s2 p 2, rfl, hK0.trans (hK2.out.trans (Kq.set wr p _)), Hrow4.out, HD4.out, by simp [upd], fun q hq => ?_, fun q hq => ?_⟩
          · have hqp : q ≠ p := by rintro rfl; exact hq H0.out
            have h1 := hst1.out q (by simp only [upd, if_neg hqp]; exact hq)
            simp only [upd, if_neg hqp] at h1 ⊢
            exact h1
          · have hqp : q ≠ p := by rintro rfl; simp [upd] at hq
            simp only [upd, if_neg hqp] at hq
            have h1 := hst2.out q hq
            simpa only [upd, if_neg hqp] using h1
end Go.Proofs.Ytlndjooddkjnoaa
