/- The walk of layer 6's live questions, whose answers are fixed: the clause that is asked about. -/
import Derived.Deep.CutBlock
import Derived.Test.YtekdcmplcjgonaaDoorB4
import Derived.Test.YtekdcmplcjgonaaDoorB0
set_option linter.unusedVariables false
set_option linter.unusedSimpArgs false
namespace Go.Proofs.YtekdcmplcjgonaaDoor
open Go.RowKit

theorem on_world {G : World → Prop} {w : World} (Φ : World → Prop) (h : Φ w) (k : ∀ X, Φ X → G X) : G w := k w h
/-- the variables of the live questions -/
structure HV (X : World) (g1 g2 g3 g4 g5 g6 g7 : Nat) : Prop where
  a : X.heap[g1]? = some (.cells #[.int .i64 3, .string ⟨#[97]⟩, .int .i64 0] 66 (0, 0))
  v : X.heap[g2]? = some (.cells #[.int .i64 1, .string ⟨#[]⟩, .int .i64 0] 66 (0, 0))
  w : X.heap[g3]? = some (.cells #[.int .i64 1, .string ⟨#[]⟩, .int .i64 27] 66 (0, 0))
  nl : X.heap[g4]? = some (.cells #[.int .i64 3, .string ⟨#[91, 93]⟩, .int .i64 0] 66 (0, 0))
  mi : X.heap[g5]? = some (.cells #[.int .i64 2, .string ⟨#[]⟩, .int .i64 (-1)] 66 (0, 0))
  dt : X.heap[g6]? = some (.cells #[.int .i64 3, .string ⟨#[46]⟩, .int .i64 2] 66 (0, 0))
  pl : X.heap[g7]? = some (.cells #[.int .i64 3, .string ⟨#[43]⟩, .int .i64 2] 66 (0, 0))
theorem HV.below {X Y : World} {g1 g2 g3 g4 g5 g6 g7 : Nat} (h : HV X g1 g2 g3 g4 g5 g6 g7) (hb : Below X.heap.size X Y) : HV Y g1 g2 g3 g4 g5 g6 g7 :=
  ⟨(hb.block _ (block_lt h.a)).trans h.a, (hb.block _ (block_lt h.v)).trans h.v, (hb.block _ (block_lt h.w)).trans h.w, (hb.block _ (block_lt h.nl)).trans h.nl, (hb.block _ (block_lt h.mi)).trans h.mi, (hb.block _ (block_lt h.dt)).trans h.dt, (hb.block _ (block_lt h.pl)).trans h.pl⟩
def cV : C := ⟨1, ⟨#[]⟩, 0⟩
def cW : C := ⟨1, ⟨#[]⟩, 27⟩
def cA : C := ⟨3, ⟨#[97]⟩, 0⟩
def SC (w : World) (v : Value) (cs : List C) : Prop := ∃ A n c, v = .slice A n c ∧ IsC w A n c cs
theorem SC.below {w w' : World} {v : Value} {cs : List C} (h : SC w v cs) (hb : Below w.heap.size w w') : SC w' v cs := by
  obtain ⟨A, n, c, e, hi⟩ := h
  exact ⟨A, n, c, e, hi.below hb⟩
def hP : Tm := .f ⟨#[112]⟩ [.v 0]
def hQ : Tm := .f ⟨#[113]⟩ [.v 0, .v 27]
def hE : Tm := .f ⟨#[61]⟩ [.v 27, hA]
/-- what each operation leaves -/
def RH (n0 : Nat) : Nat → Value → World → Prop
  | 0, v, _ => v = cV.val
  | 1, v, w => SC w v [cV]
  | 2, v, w => SC w v hP.flat
  | 3, v, _ => v = cV.val
  | 4, v, _ => v = cW.val
  | 5, v, w => SC w v [cV, cW]
  | 6, v, w => SC w v hQ.flat
  | 7, v, w => ∃ x, v = .agg #[.bool false, x] ∧ SC w x hQ.flat
  | 8, v, _ => v = cW.val
  | 9, v, _ => v = cA.val
  | 10, v, w => SC w v [cW, cA]
  | 11, v, w => SC w v hE.flat
  | 12, v, w => ∃ x, v = .agg #[.bool true, x] ∧ SC w x hE.flat
  | 13, v, w => ∃ A n c, v = .slice A n c ∧ IsG RL 2 w A n c [(false, hQ), (true, hE)]
  | 14, v, w => ∃ x A n c, v = .agg #[x, .slice A n c] ∧ SC w x hP.flat ∧ IsG RL 2 w A n c [(false, hQ), (true, hE)]
  | 15, v, w => ∃ g, v = .pointer (some ⟨g, 0, none⟩) ∧ n0 ≤ g ∧ w.heap[g]? = some (.cells #[.slice none 0 0, .slice none 0 0] 33 (0, 0))
  | _, _, _ => True
theorem RH_mono (n0 : Nat) : ∀ (k : Nat) (v : Value) (w w' : World), RH n0 k v w → Below w.heap.size w w' → RH n0 k v w' := by
  intro k v w w' h hb
  match k with
  | 0 => exact h
  | 1 => exact SC.below h hb
  | 2 => exact SC.below h hb
  | 3 => exact h
  | 4 => exact h
  | 5 => exact SC.below h hb
  | 6 => exact SC.below h hb
  | 7 => obtain ⟨x, e, h⟩ := h; exact ⟨x, e, h.below hb⟩
  | 8 => exact h
  | 9 => exact h
  | 10 => exact SC.below h hb
  | 11 => exact SC.below h hb
  | 12 => obtain ⟨x, e, h⟩ := h; exact ⟨x, e, h.below hb⟩
  | 13 => obtain ⟨A, n, c, e, h⟩ := h; exact ⟨A, n, c, e, h.below keepsRL hb⟩
  | 14 => obtain ⟨x, A, n, c, e, h1, h2⟩ := h; exact ⟨x, A, n, c, e, h1.below hb, h2.below keepsRL hb⟩
  | 15 => obtain ⟨g, e, h0, h⟩ := h; exact ⟨g, e, h0, (hb.block g (block_lt h)).trans h⟩
  | _ + 16 => trivial
theorem not_nil2 {w : World} {g b k : Nat} {t : TypeId} {v : Value} (hg : w.heap[g]? = some (.cells #[.slice none 0 0, .slice none 0 0] t (0, 0))) (h : w.cell? ⟨b, k, none⟩ = some v) (hv : v ≠ .slice none 0 0) : b ≠ g := by
  rintro rfl
  rw [cells_of hg] at h
  match k, h with
  | 0, h => simp at h; exact hv h.symm
  | 1, h => simp at h; exact hv h.symm
  | _ + 2, h => simp at h
theorem sl_heap {w w' : World} {g : Nat} {size n c : Nat} {A : Option Addr} {xs : List Value} (h : Sl w size A n c xs) (hsz : w.heap.size ≤ w'.heap.size) (hh : ∀ k, k ≠ g → w'.heap[k]? = w.heap[k]?) (hA : ∀ b off, 0 < n → A = some ⟨b, off, none⟩ → b ≠ g) : Sl w' size A n c xs := by
  refine ⟨h.len, h.hcap, h.hmax, fun hn => ?_⟩
  obtain ⟨b, off, rfl, hb, hc⟩ := h.cells hn
  refine ⟨b, off, rfl, by omega, fun j u hu => ?_⟩
  rw [← hc j u hu]
  simp [World.cell?, hh b (hA b off hn rfl)]
theorem isC_heap {w w' : World} {g : Nat} {n c : Nat} {A : Option Addr} {cs : List C} {t : TypeId} (h : IsC w A n c cs) (hsz : w.heap.size ≤ w'.heap.size) (hh : ∀ k, k ≠ g → w'.heap[k]? = w.heap[k]?) (hg : w.heap[g]? = some (.cells #[.slice none 0 0, .slice none 0 0] t (0, 0))) : IsC w' A n c cs := by
  refine ⟨sl_heap h.sl hsz hh fun b off hn hA => ?_, h.wf⟩
  obtain ⟨x, hx⟩ := h.get hn
  obtain ⟨b', off', e, _, _, h0, _⟩ := h.at_ hx
  rw [hA] at e
  injection e with e
  injection e with e1 e2
  subst e1
  exact not_nil2 hg h0 (by simp)
theorem isL_heap {w w' : World} {g : Nat} {n c : Nat} {A : Option Addr} {ls : List (Bool × Tm)} {t : TypeId} (h : IsG RL 2 w A n c ls) (hsz : w.heap.size ≤ w'.heap.size) (hh : ∀ k, k ≠ g → w'.heap[k]? = w.heap[k]?) (hg : w.heap[g]? = some (.cells #[.slice none 0 0, .slice none 0 0] t (0, 0))) : IsG RL 2 w' A n c ls := by
  obtain ⟨vs, h1, h2, h3, h4⟩ := h.rows
  refine ⟨h.len, vs, h1, h2, sl_heap h3 hsz hh fun b off hn hA => ?_, fun i x v hx hv => ?_⟩
  · obtain ⟨x, hx⟩ := h.get hn
    obtain ⟨b', off', A', n', c', e, _, h0, _⟩ := rl_at h hx
    rw [hA] at e
    injection e with e
    injection e with e1 e2
    subst e1
    exact not_nil2 hg h0 (by simp)
  · obtain ⟨A', n', c', e, hi⟩ := h4 i x v hx hv
    exact ⟨A', n', c', e, isC_heap hi hsz hh hg⟩
def cN : C := ⟨3, ⟨#[91, 93]⟩, 0⟩
def cM : C := ⟨2, ⟨#[]⟩, -1⟩
def cD : C := ⟨3, ⟨#[46]⟩, 2⟩
def cP : C := ⟨3, ⟨#[43]⟩, 2⟩
theorem wfs {l : List C} (h : l.all (fun c => decide (-3000000000 ≤ c.kind) && (decide (c.kind ≤ 3000000000) && (decide (-3000000000 ≤ c.n) && (decide (c.n ≤ 3000000000) && decide (c.name.size ≤ 100))))) = true) : ∀ c ∈ l, c.wf := fun c hc => by
  have := List.all_eq_true.1 h c hc
  simp only [Bool.and_eq_true, decide_eq_true_eq] at this
  obtain ⟨h1, h2, h3, h4, h5⟩ := this
  exact ⟨⟨by omega, by omega⟩, ⟨by omega, by omega⟩, by simp [maxLen]; omega⟩
def hB1 : Tm := .f ⟨#[98]⟩ []
theorem ft1 : hT1.flat = ⟨3, ⟨#[61]⟩, 2⟩ :: [cV, cP, cW, cM] := by simp [hT1, Tm.flat, flats, cV, cP, cW, cM]
theorem ft2 : hT2.flat = ⟨3, ⟨#[46]⟩, 2⟩ :: [cA, cD, cV, cN] := by simp [hT2, hA, hN, Tm.flat, flats, cA, cD, cV, cN]
theorem ft3 : hT3.flat = ⟨3, ⟨#[46]⟩, 2⟩ :: [cA, cV] := by simp [hT3, hA, Tm.flat, flats, cA, cV]
theorem ft4 : hT4.flat = ⟨3, ⟨#[91, 93]⟩, 1⟩ :: [cA] := by simp [hT4, hA, Tm.flat, flats, cA]
theorem ft5 : hT5.flat = [cN] := by simp [hT5, hN, Tm.flat, flats, cN]
theorem ft6 : hT6.flat = ⟨3, ⟨#[45]⟩, 1⟩ :: [cM] := by simp [hT6, Tm.flat, flats, cM]
theorem ft7 : hT7.flat = ⟨3, ⟨#[65, 98, 32, 99]⟩, 0⟩ :: [] := by simp [hT7, Tm.flat, flats]
theorem ft8 : hT8.flat = ⟨3, ⟨#[43]⟩, 3⟩ :: [cA, cA, cA] := by simp [hT8, hA, Tm.flat, flats, cA]
theorem okTwo : okL [(false, hQ), (true, hE)] := by
  intro p hp
  simp at hp
  rcases hp with rfl | rfl <;> exact ⟨by decide, by decide⟩
theorem htc : prCl (hP, [(false, hQ), (true, hE)]) = [112, 40, 65, 41, 32, 58, 45, 32, 113, 40, 65, 44, 66, 49, 41, 44, 32, 92, 43, 32, 40, 66, 49, 32, 61, 32, 97, 41, 46] := by
  have h1 : prT hP = [112, 40, 65, 41] := by rw [hP, prT, if_neg (by decide), htv]; rfl
  have h27 : prT (.v 27) = [66, 49] := by rw [prT]; exact vn27
  have h2 : prT hQ = [113, 40, 65, 44, 66, 49, 41] := by rw [hQ, prT, if_neg (by decide), if_neg (by decide), htv, h27]; rfl
  have h3 : prT hE = [40, 66, 49, 32, 61, 32, 97, 41] := by rw [hE, prT, if_pos (by decide), h27, hta]; rfl
  simp only [prCl, litsTx, litTx, h1, h2, h3]
  rfl
theorem okPr : ∀ c ∈ [(hA, ([] : List (Bool × Tm))), (hB1, [])], okCl c := by
  intro p hp
  simp at hp
  rcases hp with rfl | rfl <;> exact ⟨by decide, by decide, fun _ h => by simp at h, by simp⟩
theorem htp : prPr [(hA, []), (hB1, [])] = [97, 46, 10, 98, 46, 10] := by
  have h1 : prT hB1 = [98] := by rw [hB1, prT, if_neg (by decide)]; rfl
  simp [prPr, prCl, litsTx, hta, h1]
theorem isP_two {w : World} {A B : Option Addr} {n m c d : Nat} (h5 : IsC w A n c (⟨3, ⟨#[97]⟩, 0⟩ :: [])) (h6 : IsC w B m d (⟨3, ⟨#[98]⟩, 0⟩ :: [])) :
    IsG RC 2 (w.alloc (.cells #[.slice A n c, .slice none 0 0, .slice B m d, .slice none 0 0] 33)) (some ⟨w.heap.size, 0, none⟩) 2 2 [(hA, []), (hB1, [])] := by
  have hb : Below w.heap.size w (w.alloc (.cells #[.slice A n c, .slice none 0 0, .slice B m d, .slice none 0 0] 33)) := (Below.refl _ _).alloc (Nat.le_refl _) _
  refine ⟨rfl, [[.slice A n c, .slice none 0 0], [.slice B m d, .slice none 0 0]], rfl, by simp, Sl.lit w w.heap.size [.slice A n c, .slice none 0 0, .slice B m d, .slice none 0 0] 33 2 2 rfl rfl (by simp [maxLen]), fun i x v hx hv => ?_⟩
  have fa : hA.flat = ⟨3, ⟨#[97]⟩, 0⟩ :: [] := by simp [hA, Tm.flat, flats]
  have fb : hB1.flat = ⟨3, ⟨#[98]⟩, 0⟩ :: [] := by simp [hB1, Tm.flat, flats]
  match i, hx, hv with
  | 0, hx, hv => simp at hx hv; subst hx; subst hv; exact ⟨_, _, _, _, _, _, rfl, by rw [fa]; exact h5.below hb, IsG.nil (by simp [maxLen])⟩
  | 1, hx, hv => simp at hx hv; subst hx; subst hv; exact ⟨_, _, _, _, _, _, rfl, by rw [fb]; exact h6.below hb, IsG.nil (by simp [maxLen])⟩
  | _ + 2, hx, _ => simp at hx
theorem wfV : ∀ c ∈ [cV], c.wf := by
  intro c hc
  simp at hc
  subst hc
  exact ⟨⟨by decide, by decide⟩, ⟨by decide, by decide⟩, by decide⟩
theorem wfVW : ∀ c ∈ [cV, cW], c.wf := by
  intro c hc
  simp at hc
  rcases hc with rfl | rfl <;> exact ⟨⟨by decide, by decide⟩, ⟨by decide, by decide⟩, by decide⟩
theorem wfWA : ∀ c ∈ [cW, cA], c.wf := by
  intro c hc
  simp at hc
  rcases hc with rfl | rfl <;> exact ⟨⟨by decide, by decide⟩, ⟨by decide, by decide⟩, by decide⟩
theorem isLs_two {w : World} {A B : Option Addr} {n m c d : Nat} {P Q : Tm} {p q : Bool} (hi7 : IsC w A n c P.flat) (hi12 : IsC w B m d Q.flat) :
    IsG RL 2 (w.alloc (.cells #[.bool p, .slice A n c, .bool q, .slice B m d] 54)) (some ⟨w.heap.size, 0, none⟩) 2 2 [(p, P), (q, Q)] := by
  have hb : Below w.heap.size w (w.alloc (.cells #[.bool p, .slice A n c, .bool q, .slice B m d] 54)) := (Below.refl _ _).alloc (Nat.le_refl _) _
  refine ⟨rfl, [[.bool p, .slice A n c], [.bool q, .slice B m d]], rfl, by simp, Sl.lit w w.heap.size [.bool p, .slice A n c, .bool q, .slice B m d] 54 2 2 rfl rfl (by simp [maxLen]), fun i x v hx hv => ?_⟩
  match i, hx, hv with
  | 0, hx, hv => simp at hx hv; subst hx; subst hv; exact ⟨_, _, _, rfl, hi7.below hb⟩
  | 1, hx, hv => simp at hx hv; subst hx; subst hv; exact ⟨_, _, _, rfl, hi12.below hb⟩
  | _ + 2, hx, _ => simp at hx
set_option maxRecDepth 100000 in
set_option maxHeartbeats 8000000 in
theorem head06_any (w : World) (htab : Tab w) : Calls Tryd.prog 11 #[] w (RetV w (.bool true)) := by
  have Htab := Lib.hid htab
  clear htab
  go_enter Tryd.func11, Tryd.ntmps11
  go_upto_region 4 with fail
  refine on_world (fun X => Below w.heap.size w X ∧ HV X w.heap.size (w.heap.size + 1) (w.heap.size + 1 + 1) (w.heap.size + 1 + 1 + 1) (w.heap.size + 1 + 1 + 1 + 1) (w.heap.size + 1 + 1 + 1 + 1 + 1) (w.heap.size + 1 + 1 + 1 + 1 + 1 + 1)) ?_ ?_
  · refine ⟨by repeat (first | exact Below.refl _ _ | refine Below.alloc ?_ (by simp; try omega) _), ?_⟩
    refine ⟨?_, ?_, ?_, ?_, ?_, ?_, ?_⟩ <;> repeat (first | exact alloc_at (by simp) | refine (alloc_past (by simp; try omega)).trans ?_)
  rintro X ⟨hb, hv⟩
  obtain ⟨g1, hg1⟩ : ∃ g, g = w.heap.size := ⟨_, rfl⟩
  rw [← hg1] at hv ⊢
  obtain ⟨g2, hg2⟩ : ∃ g, g = g1 + 1 := ⟨_, rfl⟩
  rw [← hg2] at hv ⊢
  obtain ⟨g3, hg3⟩ : ∃ g, g = g2 + 1 := ⟨_, rfl⟩
  rw [← hg3] at hv ⊢
  obtain ⟨g4, hg4⟩ : ∃ g, g = g3 + 1 := ⟨_, rfl⟩
  rw [← hg4] at hv ⊢
  obtain ⟨g5, hg5⟩ : ∃ g, g = g4 + 1 := ⟨_, rfl⟩
  rw [← hg5] at hv ⊢
  obtain ⟨g6, hg6⟩ : ∃ g, g = g5 + 1 := ⟨_, rfl⟩
  rw [← hg6] at hv ⊢
  obtain ⟨g7, hg7⟩ : ∃ g, g = g6 + 1 := ⟨_, rfl⟩
  rw [← hg7] at hv ⊢
  clear hg1 hg2 hg3 hg4 hg5 hg6 hg7
  have Hb := Lib.hid hb
  have Hv := Lib.hid hv
  clear hb hv
  refine region_came (R := RH X.heap.size) 16 (by kernel_rfl) (by kernel_rfl) (RH_mono _) ?step ?last
  case step =>
    intro k o hk hkL ls a w hc hall K hK
    have hlt : k < 17 := (Array.getElem?_eq_some_iff.1 hk).1
    have hvw := (Hv.out.below ((Below.refl _ X).drew)).below hc.low
    have e1 := hc.old 1 (by kernel_rfl)
    have e2 := hc.old 2 (by kernel_rfl)
    have e3 := hc.old 3 (by kernel_rfl)
    simp only [List.getElem?_toArray, List.getElem?_cons_succ, List.getElem?_cons_zero] at e1 e2 e3
    match k, hlt, hkL with
    | 0, _, _ =>
      simp only [List.getElem?_toArray, List.getElem?_cons_succ, List.getElem?_cons_zero] at hk
      injection hk with hk
      subst hk
      have c0 := cells_of hvw.v 0
      have c1 := cells_of hvw.v 1
      have c2 := cells_of hvw.v 2
      simp at c0 c1 c2
      clear hall hvw hc
      go_simp
      exact hK _ _ rfl (Below.refl _ _)
    | 1, _, _ =>
      simp only [List.getElem?_toArray, List.getElem?_cons_succ, List.getElem?_cons_zero] at hk
      injection hk with hk
      subst hk
      obtain ⟨v0, ev0, rv0⟩ := hc.val 0 _ 16 rfl (by decide) (hall ⟨0, .data⟩ (by simp) rfl) rfl
      have rw0 : v0 = .agg #[.int .i64 1, .string ⟨#[]⟩, .int .i64 0] := rv0
      subst rw0
      clear hall hvw hc
      go_simp
      exact hK _ _ ⟨_, _, _, rfl, isC_lit (l := [cV]) (alloc_at rfl) rfl rfl (by omega) wfV⟩ ((Below.refl _ _).alloc (Nat.le_refl _) _)
    | 2, _, _ =>
      simp only [List.getElem?_toArray, List.getElem?_cons_succ, List.getElem?_cons_zero] at hk
      injection hk with hk
      subst hk
      obtain ⟨v1, ev1, A, n, c, rfl, hi⟩ := hc.val 1 _ 17 rfl (by decide) (hall ⟨1, .data⟩ (by simp) rfl) rfl
      have hn := hi.len
      simp at hn
      have Hi := Lib.hid hi
      clear hall hvw hc hi
      go_simp
      refine (fun_any ⟨#[112]⟩ 1 A n c _ w Hi.out (by omega) (by decide) ⟨by decide, by decide⟩).mono ?_
      rintro e w2 ⟨A2, n2, c2, rfl, hi2, hb2⟩
      exact hK _ _ ⟨_, _, _, rfl, hi2⟩ hb2
    | 3, _, _ =>
      simp only [List.getElem?_toArray, List.getElem?_cons_succ, List.getElem?_cons_zero] at hk
      injection hk with hk
      subst hk
      have c0 := cells_of hvw.v 0
      have c1 := cells_of hvw.v 1
      have c2 := cells_of hvw.v 2
      simp at c0 c1 c2
      clear hall hvw hc
      go_simp
      exact hK _ _ rfl (Below.refl _ _)
    | 4, _, _ =>
      simp only [List.getElem?_toArray, List.getElem?_cons_succ, List.getElem?_cons_zero] at hk
      injection hk with hk
      subst hk
      have c0 := cells_of hvw.w 0
      have c1 := cells_of hvw.w 1
      have c2 := cells_of hvw.w 2
      simp at c0 c1 c2
      clear hall hvw hc
      go_simp
      exact hK _ _ rfl (Below.refl _ _)
    | 5, _, _ =>
      simp only [List.getElem?_toArray, List.getElem?_cons_succ, List.getElem?_cons_zero] at hk
      injection hk with hk
      subst hk
      obtain ⟨v3, ev3, rv3⟩ := hc.val 3 _ 19 rfl (by decide) (hall ⟨3, .data⟩ (by simp) rfl) rfl
      have rw3 : v3 = .agg #[.int .i64 1, .string ⟨#[]⟩, .int .i64 0] := rv3
      subst rw3
      obtain ⟨v4, ev4, rv4⟩ := hc.val 4 _ 20 rfl (by decide) (hall ⟨4, .data⟩ (by simp) rfl) rfl
      have rw4 : v4 = .agg #[.int .i64 1, .string ⟨#[]⟩, .int .i64 27] := rv4
      subst rw4
      clear hall hvw hc
      go_simp
      exact hK _ _ ⟨_, _, _, rfl, isC_lit (l := [cV, cW]) (alloc_at rfl) rfl rfl (by omega) wfVW⟩ ((Below.refl _ _).alloc (Nat.le_refl _) _)
    | 6, _, _ =>
      simp only [List.getElem?_toArray, List.getElem?_cons_succ, List.getElem?_cons_zero] at hk
      injection hk with hk
      subst hk
      obtain ⟨v5, ev5, A, n, c, rfl, hi⟩ := hc.val 5 _ 21 rfl (by decide) (hall ⟨5, .data⟩ (by simp) rfl) rfl
      have hn := hi.len
      simp at hn
      have Hi := Lib.hid hi
      clear hall hvw hc hi
      go_simp
      refine (fun_any ⟨#[113]⟩ 2 A n c _ w Hi.out (by omega) (by decide) ⟨by decide, by decide⟩).mono ?_
      rintro e w2 ⟨A2, n2, c2, rfl, hi2, hb2⟩
      exact hK _ _ ⟨_, _, _, rfl, hi2⟩ hb2
    | 7, _, _ =>
      simp only [List.getElem?_toArray, List.getElem?_cons_succ, List.getElem?_cons_zero] at hk
      injection hk with hk
      subst hk
      obtain ⟨v6, ev6, A, n, c, rfl, hi⟩ := hc.val 6 _ 22 rfl (by decide) (hall ⟨6, .data⟩ (by simp) rfl) rfl
      have Hi := Lib.hid hi
      clear hall hvw hc hi
      go_simp
      exact hK _ _ ⟨_, rfl, _, _, _, rfl, Hi.out⟩ (Below.refl _ _)
    | 8, _, _ =>
      simp only [List.getElem?_toArray, List.getElem?_cons_succ, List.getElem?_cons_zero] at hk
      injection hk with hk
      subst hk
      have c0 := cells_of hvw.w 0
      have c1 := cells_of hvw.w 1
      have c2 := cells_of hvw.w 2
      simp at c0 c1 c2
      clear hall hvw hc
      go_simp
      exact hK _ _ rfl (Below.refl _ _)
    | 9, _, _ =>
      simp only [List.getElem?_toArray, List.getElem?_cons_succ, List.getElem?_cons_zero] at hk
      injection hk with hk
      subst hk
      have c0 := cells_of hvw.a 0
      have c1 := cells_of hvw.a 1
      have c2 := cells_of hvw.a 2
      simp at c0 c1 c2
      clear hall hvw hc
      go_simp
      exact hK _ _ rfl (Below.refl _ _)
    | 10, _, _ =>
      simp only [List.getElem?_toArray, List.getElem?_cons_succ, List.getElem?_cons_zero] at hk
      injection hk with hk
      subst hk
      obtain ⟨v8, ev8, rv8⟩ := hc.val 8 _ 24 rfl (by decide) (hall ⟨8, .data⟩ (by simp) rfl) rfl
      have rw8 : v8 = .agg #[.int .i64 1, .string ⟨#[]⟩, .int .i64 27] := rv8
      subst rw8
      obtain ⟨v9, ev9, rv9⟩ := hc.val 9 _ 25 rfl (by decide) (hall ⟨9, .data⟩ (by simp) rfl) rfl
      have rw9 : v9 = .agg #[.int .i64 3, .string ⟨#[97]⟩, .int .i64 0] := rv9
      subst rw9
      clear hall hvw hc
      go_simp
      exact hK _ _ ⟨_, _, _, rfl, isC_lit (l := [cW, cA]) (alloc_at rfl) rfl rfl (by omega) wfWA⟩ ((Below.refl _ _).alloc (Nat.le_refl _) _)
    | 11, _, _ =>
      simp only [List.getElem?_toArray, List.getElem?_cons_succ, List.getElem?_cons_zero] at hk
      injection hk with hk
      subst hk
      obtain ⟨v10, ev10, A, n, c, rfl, hi⟩ := hc.val 10 _ 26 rfl (by decide) (hall ⟨10, .data⟩ (by simp) rfl) rfl
      have hn := hi.len
      simp at hn
      have Hi := Lib.hid hi
      clear hall hvw hc hi
      go_simp
      refine (fun_any ⟨#[61]⟩ 2 A n c _ w Hi.out (by omega) (by decide) ⟨by decide, by decide⟩).mono ?_
      rintro e w2 ⟨A2, n2, c2, rfl, hi2, hb2⟩
      exact hK _ _ ⟨_, _, _, rfl, hi2⟩ hb2
    | 12, _, _ =>
      simp only [List.getElem?_toArray, List.getElem?_cons_succ, List.getElem?_cons_zero] at hk
      injection hk with hk
      subst hk
      obtain ⟨v11, ev11, A, n, c, rfl, hi⟩ := hc.val 11 _ 27 rfl (by decide) (hall ⟨11, .data⟩ (by simp) rfl) rfl
      have Hi := Lib.hid hi
      clear hall hvw hc hi
      go_simp
      exact hK _ _ ⟨_, rfl, _, _, _, rfl, Hi.out⟩ (Below.refl _ _)
    | 13, _, _ =>
      simp only [List.getElem?_toArray, List.getElem?_cons_succ, List.getElem?_cons_zero] at hk
      injection hk with hk
      subst hk
      obtain ⟨v7, ev7, x7, rfl, A7, n7, c7, rfl, hi7⟩ := hc.val 7 _ 23 rfl (by decide) (hall ⟨7, .data⟩ (by simp) rfl) rfl
      obtain ⟨v12, ev12, x12, rfl, A12, n12, c12, rfl, hi12⟩ := hc.val 12 _ 28 rfl (by decide) (hall ⟨12, .data⟩ (by simp) rfl) rfl
      have Hi7 := Lib.hid hi7
      have Hi12 := Lib.hid hi12
      clear hall hvw hc hi7 hi12
      go_simp
      exact hK _ _ ⟨_, _, _, rfl, isLs_two (hi7 := Hi7.out) (hi12 := Hi12.out)⟩ ((Below.refl _ _).alloc (Nat.le_refl _) _)
    | 14, _, _ =>
      simp only [List.getElem?_toArray, List.getElem?_cons_succ, List.getElem?_cons_zero] at hk
      injection hk with hk
      subst hk
      obtain ⟨v2, ev2, A, n, c, rfl, hi⟩ := hc.val 2 _ 18 rfl (by decide) (hall ⟨2, .data⟩ (by simp) rfl) rfl
      obtain ⟨v13, ev13, B, m, d, rfl, hj⟩ := hc.val 13 _ 29 rfl (by decide) (hall ⟨13, .data⟩ (by simp) rfl) rfl
      have Hi := Lib.hid hi
      have Hj := Lib.hid hj
      clear hall hvw hc hi hj
      go_simp
      exact hK _ _ ⟨_, _, _, _, rfl, ⟨_, _, _, rfl, Hi.out⟩, Hj.out⟩ (Below.refl _ _)
    | 15, _, _ =>
      simp only [List.getElem?_toArray, List.getElem?_cons_succ, List.getElem?_cons_zero] at hk
      injection hk with hk
      subst hk
      have hXw : X.heap.size ≤ w.heap.size := hc.low.size
      clear hall hvw hc
      go_simp
      exact hK _ _ ⟨_, rfl, hXw, alloc_at rfl⟩ ((Below.refl _ _).alloc (Nat.le_refl _) _)
    | 16, _, h => exact absurd rfl h
    | _ + 17, h, _ => omega
  case last =>
    intro o hk ls a w1 hc hall K hK
    simp only [List.getElem?_toArray, List.getElem?_cons_succ, List.getElem?_cons_zero] at hk
    injection hk with hk
    subst hk
    obtain ⟨v14, ev14, x14, B, m, d, rfl, ⟨A, n, c, rfl, hi⟩, hj⟩ := hc.val 14 _ 30 rfl (by decide) (hall 14 (by decide) (by decide)) rfl
    obtain ⟨v15, ev15, g, rfl, hXg, hg⟩ := hc.val 15 _ 8 rfl (by decide) (hall 15 (by decide) (by decide)) rfl
    have hact := hc.act [8, 16, 17, 18, 19, 20, 21, 22, 23, 24, 25, 26, 27, 28, 29, 30] (by kernel_rfl)
    have hvw := (Hv.out.below ((Below.refl _ X).drew)).below hc.low
    have hlow : Below X.heap.size X w1 := ((Below.refl _ X).drew).trans hc.low
    have d0 := cells_of hg 0
    have d1 := cells_of hg 1
    simp at d0 d1
    have f0 : w1.frozen? ⟨g, 0, none⟩ = false := by simp [World.frozen?, hg]
    have f1 : w1.frozen? ⟨g, 1, none⟩ = false := by simp [World.frozen?, hg]
    have hw1 : ((w1.setCell ⟨g, 0, none⟩ (.slice A n c)).setCell ⟨g, 1, none⟩ (.slice B m d)).heap[g]? = some (.cells #[.slice A n c, .slice B m d] 33 (0, 0)) := by simp [World.setCell, Array.getElem?_modify, hg]
    have hh : ∀ k, k ≠ g → ((w1.setCell ⟨g, 0, none⟩ (.slice A n c)).setCell ⟨g, 1, none⟩ (.slice B m d)).heap[k]? = w1.heap[k]? := fun k hk => by simp [World.setCell, Array.getElem?_modify, Ne.symm hk]
    have hsz : w1.heap.size ≤ ((w1.setCell ⟨g, 0, none⟩ (.slice A n c)).setCell ⟨g, 1, none⟩ (.slice B m d)).heap.size := by simp
    have hi2 := isC_heap hi hsz hh hg
    have hj2 := isL_heap hj hsz hh hg
    have hlow2 := (hlow.setCell (p := ⟨g, 0, none⟩) hXg (.slice A n c)).setCell (p := ⟨g, 1, none⟩) hXg (.slice B m d)
    have Hact := Lib.hid hact
    have Hw1 := Lib.hid hw1
    have Hi2 := Lib.hid hi2
    have Hj2 := Lib.hid hj2
    have Hlow2 := Lib.hid hlow2
    clear hact hw1 hi2 hj2 hlow2 hi hj hlow hvw hg hh hsz hc hall
    go_simp
    refine hK _ _ ?_
    rw [Hact.out]
    simp only [List.foldl_cons, List.foldl_nil, List.setIfInBounds_toArray, List.set_cons_succ, List.set_cons_zero]
    rw [ev15]
    simp only [Option.getD_some]
    generalize a.tmps[16]?.getD undef = t16
    generalize a.tmps[17]?.getD undef = t17
    generalize a.tmps[18]?.getD undef = t18
    generalize a.tmps[19]?.getD undef = t19
    generalize a.tmps[20]?.getD undef = t20
    generalize a.tmps[21]?.getD undef = t21
    generalize a.tmps[22]?.getD undef = t22
    generalize a.tmps[23]?.getD undef = t23
    generalize a.tmps[24]?.getD undef = t24
    generalize a.tmps[25]?.getD undef = t25
    generalize a.tmps[26]?.getD undef = t26
    generalize a.tmps[27]?.getD undef = t27
    generalize a.tmps[28]?.getD undef = t28
    generalize a.tmps[29]?.getD undef = t29
    generalize a.tmps[30]?.getD undef = t30
    clear Hact ev14 ev15 hK
    generalize hY : (w1.setCell ⟨g, 0, none⟩ (.slice A n c)).setCell ⟨g, 1, none⟩ (.slice B m d) = Y
    rw [hY] at Hw1 Hi2 Hj2 Hlow2
    clear hY d0 d1 f0 f1
    have hv := Hv.out.below Hlow2.out
    have hb : Below w.heap.size w Y := Hb.out.trans (Hlow2.out.mono Hb.out.size)
    have hg := Hw1.out
    have hi := Hi2.out
    have hj := Hj2.out
    clear Hv Hb Hlow2 Hw1 Hi2 Hj2 hXg
    have kV0 := cells_of hv.v 0
    have kV1 := cells_of hv.v 1
    have kV2 := cells_of hv.v 2
    have kP0 := cells_of hv.pl 0
    have kP1 := cells_of hv.pl 1
    have kP2 := cells_of hv.pl 2
    have kW0 := cells_of hv.w 0
    have kW1 := cells_of hv.w 1
    have kW2 := cells_of hv.w 2
    have kM0 := cells_of hv.mi 0
    have kM1 := cells_of hv.mi 1
    have kM2 := cells_of hv.mi 2
    simp only [List.getElem?_toArray, List.getElem?_cons_succ, List.getElem?_cons_zero] at kV0 kV1 kV2 kP0 kP1 kP2 kW0 kW1 kW2 kM0 kM1 kM2
    have Hv := Lib.hid hv
    have Hbb := Lib.hid hb
    have Hg := Lib.hid hg
    have Hi := Lib.hid hi
    have Hj := Lib.hid hj
    clear hv hb hg hi hj
    go_wp2_with fail
    refine (fun_any ⟨#[61]⟩ 2 _ 4 4 [cV, cP, cW, cM] _ (isC_lit (alloc_at rfl) rfl rfl (by omega) (wfs (by decide))) (by omega) (by decide) ⟨by decide, by decide⟩).mono ?_
    rintro e z ⟨Aq, nq, cq, rfl, hq, hbn⟩
    have hbz := ((Below.refl _ _).alloc (Nat.le_refl _) _).trans (hbn.mono (by simp))
    clear hbn kV0 kV1 kV2 kP0 kP1 kP2 kW0 kW1 kW2 kM0 kM1 kM2
    have hv := Hv.out.below hbz
    have hb := Hbb.out.trans (hbz.mono Hbb.out.size)
    have hg := (hbz.block g (block_lt Hg.out)).trans Hg.out
    have hi := Hi.out.below hbz
    have hj := Hj.out.below keepsRL hbz
    clear Hv Hbb Hg Hi Hj hbz
    have hpt := pTerm_any Aq nq cq hT1 _ (by rw [ft1]; exact hq) (by decide) (by decide) (Htab.out.below hb)
    rw [ht1] at hpt
    have Hpt := Lib.hid hpt
    clear hpt hq
    have Hv := Lib.hid hv
    have Hbb := Lib.hid hb
    have Hg := Lib.hid hg
    have Hi := Lib.hid hi
    have Hj := Lib.hid hj
    clear hv hb hg hi hj
    go_wp2_with fail
    refine Hpt.out.mono ?_
    rintro e z2 ⟨rfl, hbz⟩
    clear Hpt
    have hv := Hv.out.below hbz
    have hb := Hbb.out.trans (hbz.mono Hbb.out.size)
    have hg := (hbz.block g (block_lt Hg.out)).trans Hg.out
    have hi := Hi.out.below hbz
    have hj := Hj.out.below keepsRL hbz
    clear Hv Hbb Hg Hi Hj hbz
    have kA0 := cells_of hv.a 0
    have kA1 := cells_of hv.a 1
    have kA2 := cells_of hv.a 2
    have kD0 := cells_of hv.dt 0
    have kD1 := cells_of hv.dt 1
    have kD2 := cells_of hv.dt 2
    have kV0 := cells_of hv.v 0
    have kV1 := cells_of hv.v 1
    have kV2 := cells_of hv.v 2
    have kN0 := cells_of hv.nl 0
    have kN1 := cells_of hv.nl 1
    have kN2 := cells_of hv.nl 2
    simp only [List.getElem?_toArray, List.getElem?_cons_succ, List.getElem?_cons_zero] at kA0 kA1 kA2 kD0 kD1 kD2 kV0 kV1 kV2 kN0 kN1 kN2
    have Hv := Lib.hid hv
    have Hbb := Lib.hid hb
    have Hg := Lib.hid hg
    have Hi := Lib.hid hi
    have Hj := Lib.hid hj
    clear hv hb hg hi hj
    go_wp2_with fail
    refine (fun_any ⟨#[46]⟩ 2 _ 4 4 [cA, cD, cV, cN] _ (isC_lit (alloc_at rfl) rfl rfl (by omega) (wfs (by decide))) (by omega) (by decide) ⟨by decide, by decide⟩).mono ?_
    rintro e z ⟨Aq, nq, cq, rfl, hq, hbn⟩
    have hbz := ((Below.refl _ _).alloc (Nat.le_refl _) _).trans (hbn.mono (by simp))
    clear hbn kA0 kA1 kA2 kD0 kD1 kD2 kV0 kV1 kV2 kN0 kN1 kN2
    have hv := Hv.out.below hbz
    have hb := Hbb.out.trans (hbz.mono Hbb.out.size)
    have hg := (hbz.block g (block_lt Hg.out)).trans Hg.out
    have hi := Hi.out.below hbz
    have hj := Hj.out.below keepsRL hbz
    clear Hv Hbb Hg Hi Hj hbz
    have hpt := pTerm_any Aq nq cq hT2 _ (by rw [ft2]; exact hq) (by decide) (by decide) (Htab.out.below hb)
    rw [ht2] at hpt
    have Hpt := Lib.hid hpt
    clear hpt hq
    have Hv := Lib.hid hv
    have Hbb := Lib.hid hb
    have Hg := Lib.hid hg
    have Hi := Lib.hid hi
    have Hj := Lib.hid hj
    clear hv hb hg hi hj
    go_wp2_with fail
    refine Hpt.out.mono ?_
    rintro e z2 ⟨rfl, hbz⟩
    clear Hpt
    have hv := Hv.out.below hbz
    have hb := Hbb.out.trans (hbz.mono Hbb.out.size)
    have hg := (hbz.block g (block_lt Hg.out)).trans Hg.out
    have hi := Hi.out.below hbz
    have hj := Hj.out.below keepsRL hbz
    clear Hv Hbb Hg Hi Hj hbz
    have kA0 := cells_of hv.a 0
    have kA1 := cells_of hv.a 1
    have kA2 := cells_of hv.a 2
    have kV0 := cells_of hv.v 0
    have kV1 := cells_of hv.v 1
    have kV2 := cells_of hv.v 2
    simp only [List.getElem?_toArray, List.getElem?_cons_succ, List.getElem?_cons_zero] at kA0 kA1 kA2 kV0 kV1 kV2
    have Hv := Lib.hid hv
    have Hbb := Lib.hid hb
    have Hg := Lib.hid hg
    have Hi := Lib.hid hi
    have Hj := Lib.hid hj
    clear hv hb hg hi hj
    go_wp2_with fail
    refine (fun_any ⟨#[46]⟩ 2 _ 2 2 [cA, cV] _ (isC_lit (alloc_at rfl) rfl rfl (by omega) (wfs (by decide))) (by omega) (by decide) ⟨by decide, by decide⟩).mono ?_
    rintro e z ⟨Aq, nq, cq, rfl, hq, hbn⟩
    have hbz := ((Below.refl _ _).alloc (Nat.le_refl _) _).trans (hbn.mono (by simp))
    clear hbn kA0 kA1 kA2 kV0 kV1 kV2
    have hv := Hv.out.below hbz
    have hb := Hbb.out.trans (hbz.mono Hbb.out.size)
    have hg := (hbz.block g (block_lt Hg.out)).trans Hg.out
    have hi := Hi.out.below hbz
    have hj := Hj.out.below keepsRL hbz
    clear Hv Hbb Hg Hi Hj hbz
    have hpt := pTerm_any Aq nq cq hT3 _ (by rw [ft3]; exact hq) (by decide) (by decide) (Htab.out.below hb)
    rw [ht3] at hpt
    have Hpt := Lib.hid hpt
    clear hpt hq
    have Hv := Lib.hid hv
    have Hbb := Lib.hid hb
    have Hg := Lib.hid hg
    have Hi := Lib.hid hi
    have Hj := Lib.hid hj
    clear hv hb hg hi hj
    go_wp2_with fail
    refine Hpt.out.mono ?_
    rintro e z2 ⟨rfl, hbz⟩
    clear Hpt
    have hv := Hv.out.below hbz
    have hb := Hbb.out.trans (hbz.mono Hbb.out.size)
    have hg := (hbz.block g (block_lt Hg.out)).trans Hg.out
    have hi := Hi.out.below hbz
    have hj := Hj.out.below keepsRL hbz
    clear Hv Hbb Hg Hi Hj hbz
    have kA0 := cells_of hv.a 0
    have kA1 := cells_of hv.a 1
    have kA2 := cells_of hv.a 2
    simp only [List.getElem?_toArray, List.getElem?_cons_succ, List.getElem?_cons_zero] at kA0 kA1 kA2
    have Hv := Lib.hid hv
    have Hbb := Lib.hid hb
    have Hg := Lib.hid hg
    have Hi := Lib.hid hi
    have Hj := Lib.hid hj
    clear hv hb hg hi hj
    go_wp2_with fail
    refine (fun_any ⟨#[91, 93]⟩ 1 _ 1 1 [cA] _ (isC_lit (alloc_at rfl) rfl rfl (by omega) (wfs (by decide))) (by omega) (by decide) ⟨by decide, by decide⟩).mono ?_
    rintro e z ⟨Aq, nq, cq, rfl, hq, hbn⟩
    have hbz := ((Below.refl _ _).alloc (Nat.le_refl _) _).trans (hbn.mono (by simp))
    clear hbn kA0 kA1 kA2
    have hv := Hv.out.below hbz
    have hb := Hbb.out.trans (hbz.mono Hbb.out.size)
    have hg := (hbz.block g (block_lt Hg.out)).trans Hg.out
    have hi := Hi.out.below hbz
    have hj := Hj.out.below keepsRL hbz
    clear Hv Hbb Hg Hi Hj hbz
    have hpt := pTerm_any Aq nq cq hT4 _ (by rw [ft4]; exact hq) (by decide) (by decide) (Htab.out.below hb)
    rw [ht4] at hpt
    have Hpt := Lib.hid hpt
    clear hpt hq
    have Hv := Lib.hid hv
    have Hbb := Lib.hid hb
    have Hg := Lib.hid hg
    have Hi := Lib.hid hi
    have Hj := Lib.hid hj
    clear hv hb hg hi hj
    go_wp2_with fail
    refine Hpt.out.mono ?_
    rintro e z2 ⟨rfl, hbz⟩
    clear Hpt
    have hv := Hv.out.below hbz
    have hb := Hbb.out.trans (hbz.mono Hbb.out.size)
    have hg := (hbz.block g (block_lt Hg.out)).trans Hg.out
    have hi := Hi.out.below hbz
    have hj := Hj.out.below keepsRL hbz
    clear Hv Hbb Hg Hi Hj hbz
    have kN0 := cells_of hv.nl 0
    have kN1 := cells_of hv.nl 1
    have kN2 := cells_of hv.nl 2
    simp only [List.getElem?_toArray, List.getElem?_cons_succ, List.getElem?_cons_zero] at kN0 kN1 kN2
    have Hv := Lib.hid hv
    have Hbb := Lib.hid hb
    have Hg := Lib.hid hg
    have Hi := Lib.hid hi
    have Hj := Lib.hid hj
    clear hv hb hg hi hj
    go_wp2_with fail
    have hbn := (Below.refl _ _).alloc (Nat.le_refl _) (.cells #[.int .i64 3, .string ⟨#[91, 93]⟩, .int .i64 0] 66) (a := z2)
    have hpt := pTerm_any _ 1 1 hT5 _ (by rw [ft5]; exact isC_lit (alloc_at rfl) rfl rfl (by omega) (wfs (by decide))) (by decide) (by decide) ((Htab.out.below Hbb.out).below hbn)
    rw [ht5] at hpt
    refine hpt.mono ?_
    rintro e z3 ⟨rfl, hbz2⟩
    have hbz := hbn.trans (hbz2.mono (by simp))
    clear hpt hbn hbz2 kN0 kN1 kN2
    have hv := Hv.out.below hbz
    have hb := Hbb.out.trans (hbz.mono Hbb.out.size)
    have hg := (hbz.block g (block_lt Hg.out)).trans Hg.out
    have hi := Hi.out.below hbz
    have hj := Hj.out.below keepsRL hbz
    clear Hv Hbb Hg Hi Hj hbz
    have kM0 := cells_of hv.mi 0
    have kM1 := cells_of hv.mi 1
    have kM2 := cells_of hv.mi 2
    simp only [List.getElem?_toArray, List.getElem?_cons_succ, List.getElem?_cons_zero] at kM0 kM1 kM2
    have Hv := Lib.hid hv
    have Hbb := Lib.hid hb
    have Hg := Lib.hid hg
    have Hi := Lib.hid hi
    have Hj := Lib.hid hj
    clear hv hb hg hi hj
    go_wp2_with fail
    refine (fun_any ⟨#[45]⟩ 1 _ 1 1 [cM] _ (isC_lit (alloc_at rfl) rfl rfl (by omega) (wfs (by decide))) (by omega) (by decide) ⟨by decide, by decide⟩).mono ?_
    rintro e z ⟨Aq, nq, cq, rfl, hq, hbn⟩
    have hbz := ((Below.refl _ _).alloc (Nat.le_refl _) _).trans (hbn.mono (by simp))
    clear hbn kM0 kM1 kM2
    have hv := Hv.out.below hbz
    have hb := Hbb.out.trans (hbz.mono Hbb.out.size)
    have hg := (hbz.block g (block_lt Hg.out)).trans Hg.out
    have hi := Hi.out.below hbz
    have hj := Hj.out.below keepsRL hbz
    clear Hv Hbb Hg Hi Hj hbz
    have hpt := pTerm_any Aq nq cq hT6 _ (by rw [ft6]; exact hq) (by decide) (by decide) (Htab.out.below hb)
    rw [ht6] at hpt
    have Hpt := Lib.hid hpt
    clear hpt hq
    have Hv := Lib.hid hv
    have Hbb := Lib.hid hb
    have Hg := Lib.hid hg
    have Hi := Lib.hid hi
    have Hj := Lib.hid hj
    clear hv hb hg hi hj
    go_wp2_with fail
    refine Hpt.out.mono ?_
    rintro e z2 ⟨rfl, hbz⟩
    clear Hpt
    have hv := Hv.out.below hbz
    have hb := Hbb.out.trans (hbz.mono Hbb.out.size)
    have hg := (hbz.block g (block_lt Hg.out)).trans Hg.out
    have hi := Hi.out.below hbz
    have hj := Hj.out.below keepsRL hbz
    clear Hv Hbb Hg Hi Hj hbz
    have Hv := Lib.hid hv
    have Hbb := Lib.hid hb
    have Hg := Lib.hid hg
    have Hi := Lib.hid hi
    have Hj := Lib.hid hj
    clear hv hb hg hi hj
    go_wp2_with fail
    refine (fun_any ⟨#[65, 98, 32, 99]⟩ 0 none 0 0 [] _ (isC_nil _) (by omega) (by decide) ⟨by decide, by decide⟩).mono ?_
    rintro e z ⟨Aq, nq, cq, rfl, hq, hbn⟩
    have hbz := hbn
    clear hbn
    have hv := Hv.out.below hbz
    have hb := Hbb.out.trans (hbz.mono Hbb.out.size)
    have hg := (hbz.block g (block_lt Hg.out)).trans Hg.out
    have hi := Hi.out.below hbz
    have hj := Hj.out.below keepsRL hbz
    clear Hv Hbb Hg Hi Hj hbz
    have hpt := pTerm_any Aq nq cq hT7 _ (by rw [ft7]; exact hq) (by decide) (by decide) (Htab.out.below hb)
    rw [ht7] at hpt
    have Hpt := Lib.hid hpt
    clear hpt hq
    have Hv := Lib.hid hv
    have Hbb := Lib.hid hb
    have Hg := Lib.hid hg
    have Hi := Lib.hid hi
    have Hj := Lib.hid hj
    clear hv hb hg hi hj
    go_wp2_with fail
    refine Hpt.out.mono ?_
    rintro e z2 ⟨rfl, hbz⟩
    clear Hpt
    have hv := Hv.out.below hbz
    have hb := Hbb.out.trans (hbz.mono Hbb.out.size)
    have hg := (hbz.block g (block_lt Hg.out)).trans Hg.out
    have hi := Hi.out.below hbz
    have hj := Hj.out.below keepsRL hbz
    clear Hv Hbb Hg Hi Hj hbz
    have kA0 := cells_of hv.a 0
    have kA1 := cells_of hv.a 1
    have kA2 := cells_of hv.a 2
    simp only [List.getElem?_toArray, List.getElem?_cons_succ, List.getElem?_cons_zero] at kA0 kA1 kA2
    have Hv := Lib.hid hv
    have Hbb := Lib.hid hb
    have Hg := Lib.hid hg
    have Hi := Lib.hid hi
    have Hj := Lib.hid hj
    clear hv hb hg hi hj
    go_wp2_with fail
    refine (fun_any ⟨#[43]⟩ 3 _ 3 3 [cA, cA, cA] _ (isC_lit (alloc_at rfl) rfl rfl (by omega) (wfs (by decide))) (by omega) (by decide) ⟨by decide, by decide⟩).mono ?_
    rintro e z ⟨Aq, nq, cq, rfl, hq, hbn⟩
    have hbz := ((Below.refl _ _).alloc (Nat.le_refl _) _).trans (hbn.mono (by simp))
    clear hbn kA0 kA1 kA2
    have hv := Hv.out.below hbz
    have hb := Hbb.out.trans (hbz.mono Hbb.out.size)
    have hg := (hbz.block g (block_lt Hg.out)).trans Hg.out
    have hi := Hi.out.below hbz
    have hj := Hj.out.below keepsRL hbz
    clear Hv Hbb Hg Hi Hj hbz
    have hpt := pTerm_any Aq nq cq hT8 _ (by rw [ft8]; exact hq) (by decide) (by decide) (Htab.out.below hb)
    rw [ht8] at hpt
    have Hpt := Lib.hid hpt
    clear hpt hq
    have Hv := Lib.hid hv
    have Hbb := Lib.hid hb
    have Hg := Lib.hid hg
    have Hi := Lib.hid hi
    have Hj := Lib.hid hj
    clear hv hb hg hi hj
    go_wp2_with fail
    refine Hpt.out.mono ?_
    rintro e z2 ⟨rfl, hbz⟩
    clear Hpt
    have hv := Hv.out.below hbz
    have hb := Hbb.out.trans (hbz.mono Hbb.out.size)
    have hg := (hbz.block g (block_lt Hg.out)).trans Hg.out
    have hi := Hi.out.below hbz
    have hj := Hj.out.below keepsRL hbz
    clear Hv Hbb Hg Hi Hj hbz
    have kg0 := cells_of hg 0
    have kg1 := cells_of hg 1
    simp only [List.getElem?_toArray, List.getElem?_cons_succ, List.getElem?_cons_zero] at kg0 kg1
    have hpc := pClause_any A n c hP B m d [(false, hQ), (true, hE)] _ hi (by decide) (by decide) hj okTwo (by have := hj.len; simp at this; omega) (Htab.out.below hb)
    rw [htc] at hpc
    have Hpc := Lib.hid hpc
    clear hpc
    have Hv := Lib.hid hv
    have Hbb := Lib.hid hb
    have Hg := Lib.hid hg
    have Hi := Lib.hid hi
    have Hj := Lib.hid hj
    clear hv hb hg hi hj
    go_wp2_with fail
    refine Hpc.out.mono ?_
    rintro e z4 ⟨rfl, hbz⟩
    clear Hpc kg0 kg1
    have hv := Hv.out.below hbz
    have hb := Hbb.out.trans (hbz.mono Hbb.out.size)
    clear Hv Hbb Hg Hi Hj hbz
    have Hv := Lib.hid hv
    have Hbb := Lib.hid hb
    clear hv hb
    go_wp2_with fail
    refine (fun_any ⟨#[97]⟩ 0 none 0 0 [] _ (isC_nil _) (by omega) (by decide) ⟨by decide, by decide⟩).mono ?_
    rintro e z5 ⟨A5, n5, c5, rfl, h5, hbz⟩
    have hb := Hbb.out.trans (hbz.mono Hbb.out.size)
    have H5 := Lib.hid h5
    have Hb5 := Lib.hid hb
    clear Hv Hbb hbz h5 hb
    go_wp2_with fail
    refine (fun_any ⟨#[98]⟩ 0 none 0 0 [] _ (isC_nil _) (by omega) (by decide) ⟨by decide, by decide⟩).mono ?_
    rintro e z6 ⟨A6, n6, c6, rfl, h6, hbz⟩
    have hb := Hb5.out.trans (hbz.mono Hb5.out.size)
    have h5 := H5.out.below hbz
    have Hb6 := Lib.hid hb
    have H5' := Lib.hid h5
    have H6 := Lib.hid h6
    clear Hb5 H5 hbz h5 h6 hb
    go_wp2_with fail
    have hpp := pProgram_any _ 2 2 [(hA, []), (hB1, [])] _ (isP_two H5'.out H6.out) okPr (by omega) ((Htab.out.below Hb6.out).below ((Below.refl _ _).alloc (Nat.le_refl _) _))
    rw [htp] at hpp
    refine hpp.mono ?_
    rintro e z7 ⟨rfl, hbz⟩
    have hb := Hb6.out.trans ((((Below.refl _ _).alloc (Nat.le_refl _) _).trans (hbz.mono (by simp))).mono Hb6.out.size)
    have Hb7 := Lib.hid hb
    clear hpp hbz hb Hb6 H5' H6
    have hqq := fun w' => pQuote_any ⟨#[97, 66, 95, 57]⟩ (by decide) w'
    rw [show quoteN (⟨#[97, 66, 95, 57]⟩ : ByteArray).data.toList = [97, 66, 95, 57] from by decide] at hqq
    have Hqq := Lib.hid hqq
    clear hqq
    go_wp2_with fail
    refine (Hqq.out _).mono ?_
    rintro e z8 ⟨rfl, hbz⟩
    have hb := Hb7.out.trans (hbz.mono Hb7.out.size)
    have Hb8 := Lib.hid hb
    clear Hqq hbz hb Hb7
    have hqq := fun w' => pQuote_any ⟨#[95, 97]⟩ (by decide) w'
    rw [show quoteN (⟨#[95, 97]⟩ : ByteArray).data.toList = [39, 95, 97, 39] from by decide] at hqq
    have Hqq := Lib.hid hqq
    clear hqq
    go_wp2_with fail
    refine (Hqq.out _).mono ?_
    rintro e z9 ⟨rfl, hbz⟩
    have hb := Hb8.out.trans (hbz.mono Hb8.out.size)
    have Hb9 := Lib.hid hb
    clear Hqq hbz hb Hb8
    have hqq := fun w' => pVarName_any 25 (by decide) w'
    rw [vn25] at hqq
    have Hqq := Lib.hid hqq
    clear hqq
    go_wp2_with fail
    refine (Hqq.out _).mono ?_
    rintro e z10 ⟨rfl, hbz⟩
    have hb := Hb9.out.trans (hbz.mono Hb9.out.size)
    have Hb10 := Lib.hid hb
    clear Hqq hbz hb Hb9
    have hqq := fun w' => pVarName_any 26 (by decide) w'
    rw [vn26] at hqq
    have Hqq := Lib.hid hqq
    clear hqq
    go_wp2_with fail
    refine (Hqq.out _).mono ?_
    rintro e z11 ⟨rfl, hbz⟩
    have hb := Hb10.out.trans (hbz.mono Hb10.out.size)
    have Hb11 := Lib.hid hb
    clear Hqq hbz hb Hb10
    have hqq := fun w' => pVarName_any 999 (by decide) w'
    rw [vn999] at hqq
    have Hqq := Lib.hid hqq
    clear hqq
    go_wp2_with fail
    refine (Hqq.out _).mono ?_
    rintro e z12 ⟨rfl, hbz⟩
    have hb := Hb11.out.trans (hbz.mono Hb11.out.size)
    have Hb12 := Lib.hid hb
    clear Hqq hbz hb Hb11
    go_wp2_with fail
    refine (pProgram_any none 0 0 [] _ (IsG.nil (by simp [maxLen])) (by simp) (by omega) (Htab.out.below Hb12.out)).mono ?_
    rintro e z13 ⟨rfl, hbz⟩
    have hb := Hb12.out.trans (hbz.mono Hb12.out.size)
    clear hbz Hb12
    go_wp2_with fail
    go_ret
    exact ⟨rfl, hb⟩
end Go.Proofs.YtekdcmplcjgonaaDoor
