/- Texts of this proof that belong together: words of memory, plain laws, walks. -/
import Derived.WalkMore
import Derived.Test.YtgipiplklaeplaaDoorB09
import Derived.Test.YtgipiplklaeplaaDoorB14
import Derived.Test.YtgipiplklaeplaaDoorB15
import Derived.Test.YtgipiplklaeplaaDoorB16
set_option linter.unusedVariables false
set_option linter.unusedSimpArgs false
namespace Go.Proofs.YtgipiplklaeplaaDoor
open Go.RowKit
def pairsV (R : List (Nat × Nat)) : List Value := R.flatMap fun p => [.int .i64 (p.1 : Int), .int .i64 (p.2 : Int)]
theorem pairsV_len (R : List (Nat × Nat)) : (pairsV R).length = R.length * 2 := by
 induction R with
 | nil => rfl
 | cons p R ih => simp only [pairsV, List.flatMap_cons, List.length_append, List.length_cons, List.length_nil] at ih ⊢; omega
theorem pairsV_append (R R' : List (Nat × Nat)) : pairsV (R ++ R') = pairsV R ++ pairsV R' := by simp [pairsV]
theorem pairsV_last (R : List (Nat × Nat)) (a b : Nat) : (pairsV (R ++ [(a, b)]))[R.length * 2]? = some (.int .i64 (a : Int)) ∧ (pairsV (R ++ [(a, b)]))[R.length * 2 + 1]? = some (.int .i64 (b : Int)) := by
 rw [pairsV_append]
 have := pairsV_len R
 constructor
 ·rw [List.getElem?_append_right (by omega), this]; simp [pairsV]
 ·rw [List.getElem?_append_right (by omega), this]; simp [pairsV]
theorem pairsV_take (R : List (Nat × Nat)) (p : Nat × Nat) : (pairsV (R ++ [p])).take (R.length * 2) = pairsV R := by
 rw [pairsV_append, List.take_append_of_le_length (by rw [pairsV_len]; exact Nat.le_refl _), List.take_of_length_le (by rw [pairsV_len]; exact Nat.le_refl _)]
theorem infoPair : (Tryd.prog.info? 234).map (fun i => (i.zero, i.size, i.bytes)) = some (some (.agg #[.int .i64 0, .int .i64 0]), 2, 16) := by kernel_rfl
def RetUni (w : World) (A B : Option Addr) (n c m d : Nat) (r : Int) (o : Option (List C × List Int)) (e : Ending) (w' : World) : Prop := Below w.heap.size w w' ∧ match o with
 | some u => ∃ A' n' c' B' m' d', e = .returned (.tuple #[.agg #[.slice A' n' c', .slice B' m' d', .int .i64 r], .bool true]) ∧ IsC w' A' n' c' u.1 ∧ IsI w' B' m' d' u.2 ∧ (∀ x, B' = some x → w.heap.size ≤ x.block) ∧ w'.ownsRow w.heap.size 90 3 (.slice A' n' c') n' (flatC u.1) ∧ w'.ownsRow w.heap.size 3 1 (.slice B' m' d') m' (u.2.map (Value.int .i64))
 | none => e = .returned (.tuple #[.agg #[.slice A n c, .slice B m d, .int .i64 r], .bool false])
theorem own_set3 {w : World} {base size n c g : Nat} {e : TypeId} {A : Option Addr} {xs : List Value} {x y z : Value} (h : w.ownsRow base e size (.slice A n c) n xs) (hne : ∀ a, A = some a → a.block ≠ g) : (((w.setCell ⟨g, 0, none⟩ x).setCell ⟨g, 1, none⟩ y).setCell ⟨g, 2, none⟩ z).ownsRow base e size (.slice A n c) n xs := own_at h fun a ha => by
 rw [set_other (hne a ha), set_other (hne a ha), set_other (hne a ha)]
abbrev Oz : Obj := .cells #[.slice none 0 0, .slice none 0 0, .int .i64 0] 44
structure Pre3 (w Y : World) (A B : Option Addr) (n c m d : Nat) (r : Int) : Prop where
 low : Below w.heap.size w Y
 x0 : Y.heap[w.heap.size]? = some (.cells #[.slice A n c, .slice B m d, .int .i64 r] 44 (0, 0))
 x1 : Y.heap[w.heap.size + 1]? = some (.cells #[.slice none 0 0, .slice none 0 0, .int .i64 0] 44 (0, 0))
 size : w.heap.size + 2 ≤ Y.heap.size
theorem Pre3.below {w Y Y' : World} {A B : Option Addr} {n c m d : Nat} {r : Int} (h : Pre3 w Y A B n c m d r) (hb : Below Y.heap.size Y Y') : Pre3 w Y' A B n c m d r :=
 ⟨h.low.trans (hb.mono h.low.size), (hb.block _ (block_lt h.x0)).trans h.x0, (hb.block _ (block_lt h.x1)).trans h.x1, Nat.le_trans h.size hb.size⟩
theorem Pre3.above {w Y Y' : World} {A B : Option Addr} {n c m d : Nat} {r : Int} (h : Pre3 w Y A B n c m d r) (hb : Below (w.heap.size + 2) Y Y') : Pre3 w Y' A B n c m d r :=
 ⟨h.low.trans (hb.mono (by omega)), (hb.block _ (by omega)).trans h.x0, (hb.block _ (by omega)).trans h.x1, Nat.le_trans h.size hb.size⟩
theorem Pre3.held {w Y : World} {A B : Option Addr} {n c m d : Nat} {r : Int} (h : Pre3 w Y A B n c m d r) : Y.cell? ⟨w.heap.size, 0, none⟩ = some (.slice A n c) ∧ Y.cell? ⟨w.heap.size, 1, none⟩ = some (.slice B m d) ∧ Y.cell? ⟨w.heap.size, 2, none⟩ = some (.int .i64 r) := by
 obtain ⟨y0, y1, y2, _⟩ := open3 h.x0
 exact ⟨y0, y1, y2⟩
theorem Gu.made {Y : World} {base gb : Nat} {l : List C} {tr : List Int} {r : Int} {A1 D1 : Option Addr} {n c1 m d1 : Nat} (hz : Y.heap[gb]? = some (.cells #[.slice none 0 0, .slice none 0 0, .int .i64 0] 44 (0, 0))) (hgb : base ≤ gb)
  (o1 : Y.ownsRow base 90 3 (.slice A1 n c1) n (flatC l)) (o2 : Y.ownsRow base 3 1 (.slice D1 m d1) m (tr.map (Value.int .i64))) (wfc : ∀ c ∈ l, c.wf) (wfi : ∀ x ∈ tr, i64 x) :
  Gu (((Y.setCell ⟨gb, 0, none⟩ (.slice A1 n c1)).setCell ⟨gb, 1, none⟩ (.slice D1 m d1)).setCell ⟨gb, 2, none⟩ (.int .i64 r)) base gb l tr r ∧ Below base Y (((Y.setCell ⟨gb, 0, none⟩ (.slice A1 n c1)).setCell ⟨gb, 1, none⟩ (.slice D1 m d1)).setCell ⟨gb, 2, none⟩ (.int .i64 r)) := by
 have h1 := set_block (k := 0) hz (.slice A1 n c1)
 have h2 := set_block (k := 1) h1 (.slice D1 m d1)
 have h3 := set_block (k := 2) h2 (.int .i64 r)
 simp at h3
 have ho : ∀ g, g ≠ gb → (((Y.setCell ⟨gb, 0, none⟩ (.slice A1 n c1)).setCell ⟨gb, 1, none⟩ (.slice D1 m d1)).setCell ⟨gb, 2, none⟩ (.int .i64 r)).heap[g]? = Y.heap[g]? := fun g hg => (set_other hg _).trans ((set_other hg _).trans (set_other hg _))
 refine ⟨⟨⟨A1, n, c1, D1, m, d1, hgb, h3, ?_, ?_⟩, wfc, wfi⟩, (((Below.refl base Y).setCell hgb _).setCell hgb _).setCell hgb _⟩
 ·exact own_at o1 (fun a ha => ho _ (own_ne o1 hz (by intro cur he; injection he with f1 f2 f3; exact heap_ne.1 f2) a ha))
 ·exact own_at o2 (fun a ha => ho _ (own_ne o2 hz (by intro cur he; injection he with f1 f2 f3; exact heap_ne.2.1 f2) a ha))
structure UInv (w wr : World) (gb mb : Nat) (A B : Option Addr) (n c m d : Nat) (r : Int) (U : Option (List C × List Int)) (s : US) (R : List (Nat × Nat)) (Ar : Option Addr) (m2 c2 kk : Nat) : Prop where
 gu : Gu wr (w.heap.size + 2) gb s.l s.tr r
 map : MapP Tryd.prog 234 wr mb s.seen
 row : wr.ownsRow (w.heap.size + 2) 234 2 (.slice Ar m2 c2) m2 (pairsV R)
 ok : UOk s
 rev : R.reverse = s.row
 len : s.l.length = n
 run : ∃ k, s.mu < k ∧ (uRun k s).map (fun s => (s.l, s.tr)) = U
 mu : s.mu ≤ kk
 top : s.mu ≤ 7 * (n * n) + 1
 pre : Pre3 w wr A B n c m d r
theorem UInv.below {w wr X : World} {gb mb : Nat} {A B : Option Addr} {n c m d : Nat} {r : Int} {U : Option (List C × List Int)} {s : US} {R : List (Nat × Nat)} {Ar : Option Addr} {m2 c2 kk : Nat} (h : UInv w wr gb mb A B n c m d r U s R Ar m2 c2 kk) (hb : Below wr.heap.size wr X) : UInv w X gb mb A B n c m d r U s R Ar m2 c2 kk :=
 ⟨h.gu.below hb, h.map.below hb, own_below h.row hb, h.ok, h.rev, h.len, h.run, h.mu, h.top, h.pre.below hb⟩
theorem UInv.pop {w wr : World} {gb mb : Nat} {A B : Option Addr} {n c m d : Nat} {r : Int} {U : Option (List C × List Int)} {s s' : US} {R : List (Nat × Nat)} {p : Nat × Nat} {Ar : Option Addr} {k c2 kk : Nat} (h : UInv w wr gb mb A B n c m d r U s (R ++ [p]) Ar (k + 1) c2 kk)
  (hl : s'.l = s.l) (ht : s'.tr = s.tr) (hs : s'.seen = s.seen) (hrow : s'.row = R.reverse) (hok : UOk s') (hmu : s'.mu < s.mu) (hrun : ∃ j, s.mu < j + 1 ∧ (uRun j s').map (fun s => (s.l, s.tr)) = U) : UInv w wr gb mb A B n c m d r U s' R Ar k c2 s'.mu := by
 have hlen := h.row.1
 rw [pairsV_len] at hlen
 simp only [List.length_append, List.length_cons, List.length_nil] at hlen
 have hk : R.length = k := by omega
 obtain ⟨j, hj, hr⟩ := hrun
 refine ⟨by rw [hl, ht]; exact h.gu, by rw [hs]; exact h.map, ?_, hok, hrow.symm, by rw [hl]; exact h.len, ⟨j, by omega, hr⟩, Nat.le_refl _, by have := h.top; omega, h.pre⟩
 have := own_cut h.row (m := k) (by omega)
 rw [← hk, pairsV_take] at this
 rw [← hk]
 exact this
theorem zeroB (w : World) : (zeroValue 4).run Tryd.prog w = .ok (.bool false) w := by kernel_rfl
theorem TrOk.len {l : List C} {tr : List Int} (h : TrOk l tr) : tr.length ≤ l.length := by
 have h1 : (tr.map Int.toNat).length ≤ l.length := by
  refine nodup_le _ _ ?_ ?_
  ·have h2 := h.nd
   have h3 : ∀ t ∈ tr, 0 ≤ t := fun t ht => by obtain ⟨p, rfl, _⟩ := h.at_ t ht; omega
   clear h
   induction tr with
   | nil => simp
   | cons a tr ih =>
    rw [List.nodup_cons] at h2
    rw [List.map_cons, List.nodup_cons]
    refine ⟨fun hm => ?_, ih h2.2 (fun t ht => h3 t (by simp [ht]))⟩
    obtain ⟨b, hb, he⟩ := List.mem_map.1 hm
    have e1 := h3 a (by simp)
    have e2 := h3 b (by simp [hb])
    have : b = a := by omega
    subst this
    exact h2.1 hb
  ·intro x hx
   obtain ⟨t, ht, rfl⟩ := List.mem_map.1 hx
   obtain ⟨p, rfl, hp, _⟩ := h.at_ t ht
   simpa using hp
 simpa using h1
theorem UInv.cut {w wr : World} {gb mb : Nat} {A B : Option Addr} {n c m d : Nat} {r : Int} {U : Option (List C × List Int)} {s : US} {R : List (Nat × Nat)} {p : Nat × Nat} {Ar : Option Addr} {k c2 kk : Nat} (h : UInv w wr gb mb A B n c m d r U s (R ++ [p]) Ar (k + 1) c2 kk) :
  wr.ownsRow (w.heap.size + 2) 234 2 (.slice Ar k c2) k (pairsV R) := by
 have hlen := h.row.1
 rw [pairsV_len] at hlen
 simp only [List.length_append, List.length_cons, List.length_nil] at hlen
 have hk : R.length = k := by omega
 have := own_cut h.row (m := k) (by omega)
 rw [← hk, pairsV_take] at this
 rw [← hk]
 exact this
theorem pair_ne : 234 ≠ 90 ∧ 234 ≠ 3 ∧ 234 ≠ 44 := by decide
theorem UInv.bound {w wr X : World} {gb mb : Nat} {A B : Option Addr} {n c m d : Nat} {r : Int} {U : Option (List C × List Int)} {s : US} {R : List (Nat × Nat)} {p : Nat × Nat} {Ar : Option Addr} {k c2 kk x y : Nat} (h : UInv w wr gb mb A B n c m d r U s (R ++ [p]) Ar (k + 1) c2 kk) (hc : 0 < c2)
  (hg : Gu X (w.heap.size + 2) gb (bnd s.l x y) (s.tr ++ [(x : Int)]) r) (hb : Below (w.heap.size + 2) wr X) (hk : GKept wr X gb) (hok : UOk (s.bound R.reverse x y)) (hmu : (s.bound R.reverse x y).mu < s.mu) (hrun : ∃ j, s.mu < j + 1 ∧ (uRun j (s.bound R.reverse x y)).map (fun s => (s.l, s.tr)) = U) :
  UInv w X gb mb A B n c m d r U (s.bound R.reverse x y) R Ar k c2 (s.bound R.reverse x y).mu := by
 obtain ⟨j, hj, hr⟩ := hrun
 refine ⟨hg, ?_, ?_, hok, rfl, by simp only [US.bound, bnd_len]; exact h.len, ⟨j, by omega, hr⟩, Nat.le_refl _, by have := h.top; omega, h.pre.above hb⟩
 ·obtain ⟨es, clock, hm⟩ := h.map.isMap
  exact h.map.block ((hk.map mb es clock hm).trans hm.symm)
 ·refine own_at h.cut (fun a ha => ?_)
  obtain ⟨_, cur, hcur⟩ := own0_typ (.inr h.cut) hc a ha
  obtain ⟨A5, n5, c5, B5, m5, d5, p1, p2, p3, p4⟩ := h.gu.has
  exact (hk.cells _ _ _ pair_ne.1 pair_ne.2.1 (own_ne h.cut p2 (by intro cur he; injection he with f1 f2 f3; exact pair_ne.2.2 f2.symm) a ha) hcur).trans hcur.symm
structure UHp (w wr : World) (gb mb : Nat) (A B : Option Addr) (n c m d : Nat) (r : Int) (l : List C) (tr : List Int) (seen : List (Nat × Nat)) : Prop where
 gu : Gu wr (w.heap.size + 2) gb l tr r
 map : MapP Tryd.prog 234 wr mb seen
 pre : Pre3 w wr A B n c m d r
theorem UInv.hp {w wr : World} {gb mb : Nat} {A B : Option Addr} {n c m d : Nat} {r : Int} {U : Option (List C × List Int)} {s : US} {R : List (Nat × Nat)} {Ar : Option Addr} {m2 c2 kk : Nat} (h : UInv w wr gb mb A B n c m d r U s R Ar m2 c2 kk) : UHp w wr gb mb A B n c m d r s.l s.tr s.seen := ⟨h.gu, h.map, h.pre⟩
theorem UHp.below {w wr X : World} {gb mb : Nat} {A B : Option Addr} {n c m d : Nat} {r : Int} {l : List C} {tr : List Int} {seen : List (Nat × Nat)} (h : UHp w wr gb mb A B n c m d r l tr seen) (hb : Below wr.heap.size wr X) : UHp w X gb mb A B n c m d r l tr seen := ⟨h.gu.below hb, h.map.below hb, h.pre.below hb⟩
theorem Gu.other {w w' : World} {base gb g9 : Nat} {l : List C} {tr : List Int} {r : Int} {o : Obj} (h : Gu w base gb l tr r) (ho : w.heap[g9]? = some o) (hn : ∀ cs t x, o = .cells cs t x → t ≠ 44 ∧ t ≠ 90 ∧ t ≠ 3) (hk : ∀ g, g < w.heap.size → g ≠ g9 → w'.heap[g]? = w.heap[g]?) : Gu w' base gb l tr r := by
 obtain ⟨A, n, c, B, m, d, h1, h2, h3, h4⟩ := h.has
 refine ⟨⟨A, n, c, B, m, d, h1, (hk gb (block_lt h2) ?_).trans h2, own_at h3 (fun a ha => hk _ (Own0.lt h3 a ha).2 (own_ne h3 ho (fun cur he => (hn _ _ _ he).2.1 rfl) a ha)), own_at h4 (fun a ha => hk _ (Own0.lt h4 a ha).2 (own_ne h4 ho (fun cur he => (hn _ _ _ he).2.2 rfl) a ha))⟩, h.wfc, h.wfi⟩
 rintro rfl
 rw [h2] at ho
 injection ho with ho
 exact (hn _ _ _ ho.symm).1 rfl
theorem UHp.asked {w wr X : World} {gb mb : Nat} {A B : Option Addr} {n c m d : Nat} {r : Int} {l : List C} {tr : List Int} {seen seen' : List (Nat × Nat)} (h : UHp w wr gb mb A B n c m d r l tr seen) (hm : MapP Tryd.prog 234 X mb seen') (hg : wr.grownBy X (some mb)) (hmb : w.heap.size + 2 ≤ mb) : UHp w X gb mb A B n c m d r l tr seen' := by
 obtain ⟨es, clock, hmm⟩ := h.map.isMap
 exact ⟨h.gu.other hmm (by intro _ _ _ he; cases he) (fun g hlt hne => hg.block g hlt (by simp; omega)), hm, h.pre.above ((Below.refl _ wr).grown hg h.pre.size (fun q hq => by injection hq with hq; omega))⟩
theorem UHp.laid {w wr X : World} {gb mb : Nat} {A B : Option Addr} {n c m d : Nat} {r : Int} {l : List C} {tr : List Int} {seen : List (Nat × Nat)} {Ar : Option Addr} {m2 c2 : Nat} {xs : List Value} (h : UHp w wr gb mb A B n c m d r l tr seen) (hown : wr.ownsRow (w.heap.size + 2) 234 2 (.slice Ar m2 c2) m2 xs) (hc : 0 < c2) (hA : Ar ≠ none) (hg : wr.grownBy X (Value.slice Ar m2 c2).ownBlock) (hb : Below (w.heap.size + 2) wr X) : UHp w X gb mb A B n c m d r l tr seen := by
 obtain ⟨a, rfl⟩ : ∃ a, Ar = some a := by
  cases Ar with
  | none => exact absurd rfl hA
  | some a => exact ⟨a, rfl⟩
 obtain ⟨_, cur, hcur⟩ := own0_typ (.inr hown) hc a rfl
 refine ⟨h.gu.other hcur (by intro cs t x he; injection he with f1 f2 f3; subst f2; exact ⟨pair_ne.2.2, pair_ne.1, pair_ne.2.1⟩) (fun g hlt hne => grown_block hg hlt (fun a' ha' => by cases ha'; exact fun e => hne e.symm)), ?_, h.pre.above hb⟩
 obtain ⟨es, clock, hmm⟩ := h.map.isMap
 refine h.map.block (grown_block hg h.map.lt (fun a' ha' => ?_))
 cases ha'
 rintro rfl
 rw [hcur] at hmm
 cases hmm
def pairsRev (x y : Nat) : Nat → List (Nat × Nat)
 | 0 => []
 | n + 1 => (x + (n + 1), y + (n + 1)) :: pairsRev x y n
theorem pairs_rev (x y : Nat) : ∀ n, (pairsRev x y n).reverse = (List.range n).map (fun i => (x + 1 + i, y + 1 + i))
 | 0 => rfl
 | n + 1 => by
  rw [pairsRev, List.reverse_cons, pairs_rev x y n, List.range_succ, List.map_append]
  simp; omega
theorem cell_map {w : World} {b i : Nat} {es : _} {k : _} (h : w.heap[b]? = some (.map es k)) : w.cell? ⟨b, i, none⟩ = none := by simp [World.cell?, h]
theorem map_cell {w w' : World} {mb g i : Nat} {v : Value} {S : List (Nat × Nat)} (hm : MapP Tryd.prog 234 w mb S) (hg : w.grownBy w' (some mb)) (hl : g < w.heap.size) (hc : w.cell? ⟨g, i, none⟩ = some v) : w'.cell? ⟨g, i, none⟩ = some v := by
 obtain ⟨es, k, hh⟩ := hm.isMap
 have hne : g ≠ mb := by
  rintro rfl
  rw [cell_map hh] at hc
  cases hc
 exact (World.cell?_of_block (a := ⟨g, i, none⟩) (hg.block g hl (by simp; omega))).trans hc
theorem pairsV_snoc (R : List (Nat × Nat)) (a b : Nat) : pairsV (R ++ [(a, b)]) = pairsV R ++ [.int .i64 (a : Int), .int .i64 (b : Int)] := by rw [pairsV_append]; rfl
theorem one2 (a b : Int) : ∀ u ∈ [Value.int .i64 a, Value.int .i64 b], u.oneCell' = true := by
 intro u hu
 simp at hu
 rcases hu with rfl | rfl <;> rfl
theorem UInv.next {w wr X : World} {gb mb : Nat} {A B : Option Addr} {n c m d : Nat} {r : Int} {U : Option (List C × List Int)} {s s' : US} {R R2 : List (Nat × Nat)} {Ar Ar2 : Option Addr} {m2 c2 m3 c3 kk : Nat} (h : UInv w wr gb mb A B n c m d r U s R Ar m2 c2 kk) (hu : UHp w X gb mb A B n c m d r s'.l s'.tr s'.seen)
  (hrow : X.ownsRow (w.heap.size + 2) 234 2 (.slice Ar2 m3 c3) m3 (pairsV R2)) (hrev : R2.reverse = s'.row) (hok : UOk s') (hlen : s'.l.length = n) (hmu : s'.mu < s.mu) (hrun : ∃ j, s.mu < j + 1 ∧ (uRun j s').map (fun s => (s.l, s.tr)) = U) : UInv w X gb mb A B n c m d r U s' R2 Ar2 m3 c3 s'.mu := by
 obtain ⟨j, hj, hr⟩ := hrun
 exact ⟨hu.gu, hu.map, hrow, hok, hrev, hlen, ⟨j, by omega, hr⟩, Nat.le_refl _, by have := h.top; omega, hu.pre⟩
end Go.Proofs.YtgipiplklaeplaaDoor
