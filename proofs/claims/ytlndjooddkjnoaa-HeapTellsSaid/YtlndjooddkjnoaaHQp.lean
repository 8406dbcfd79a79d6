/- Words of the loop of the document's Unify. -/
import Derived.Test.YtlndjooddkjnoaaHQ7
import Derived.Test.YtlndjooddkjnoaaHQ8
set_option linter.unusedVariables false
set_option linter.unusedSimpArgs false
namespace Go.Proofs.Ytlndjooddkjnoaa
open Go.RowKit

theorem Sl.same {w w' : World} {size n c : Nat} {A : Option Addr} {xs : List Value} (h : Sl w size A n c xs) (hs : w.heap.size ≤ w'.heap.size) (hb : n ≠ 0 → ∀ a, A = some a → w'.heap[a.block]? = w.heap[a.block]?) : Sl w' size A n c xs :=
  ⟨h.len, h.hcap, h.hmax, fun hp => by
    obtain ⟨b, off, hA, hlt, hc⟩ := h.cells hp
    exact ⟨b, off, hA, Nat.lt_of_lt_of_le hlt hs, fun i v hv => (World.cell?_of_block (a := ⟨b, off + i, none⟩) (show w'.heap[b]? = w.heap[b]? from hb (by omega) _ hA)).trans (hc i v hv)⟩⟩
/-- a row's block is an older one, or it is of this type -/
def Old (w0 w : World) (T : TypeId) (n : Nat) (A : Option Addr) : Prop := n ≠ 0 → ∀ a, A = some a → a.block < w0.heap.size ∨ ∃ cur, w.heap[a.block]? = some (.cells cur T (0, 0))
theorem Old.ne {w0 w : World} {T T' : TypeId} {n g : Nat} {A : Option Addr} {cs : Array Value} (h : Old w0 w T n A) (hg : w0.heap.size ≤ g) (hT : T ≠ T') (hx : w.heap[g]? = some (.cells cs T' (0, 0))) : n ≠ 0 → ∀ a, A = some a → a.block ≠ g := by
  intro hn a ha he
  rcases h hn a ha with h1 | ⟨cur, h1⟩
  · omega
  · rw [he, hx] at h1
    injection h1 with h1
    injection h1 with e1 e2 e3
    exact hT e2.symm
theorem Old.same {w0 w w' : World} {T : TypeId} {n : Nat} {A : Option Addr} (h : Old w0 w T n A) (hb : n ≠ 0 → ∀ a, A = some a → w'.heap[a.block]? = w.heap[a.block]?) : Old w0 w' T n A := by
  intro hn a ha
  rcases h hn a ha with h1 | ⟨cur, h1⟩
  · exact .inl h1
  · exact .inr ⟨cur, (hb hn a ha).trans h1⟩
/-- what was given, the result's cells, and the heap that is worked on -/
structure QHp (w wr : World) (gb : Nat) (A B : Option Addr) (n c m d : Nat) (r : Int) (l : List C) (tr : List Int) : Prop where
  pre : Pre3 w wr A B n c m d r
  hgb : w.heap.size + 2 ≤ gb
  gb : ∃ Ag cg Bg mg dg, wr.heap[gb]? = some (.cells #[.slice Ag n cg, .slice Bg mg dg, .int .i64 r] 25 (0, 0)) ∧ IsC wr Ag n cg l ∧ IsI wr Bg mg dg tr ∧ Old w wr 68 n Ag ∧ Old w wr 3 mg Bg
/-- but for one block, that is neither the result's, nor of such a type, all is as it was -/
theorem QHp.keep {w wr X : World} {gb : Nat} {A B : Option Addr} {n c m d : Nat} {r : Int} {l : List C} {tr : List Int} (h : QHp w wr gb A B n c m d r l tr) (hs : wr.heap.size ≤ X.heap.size) (P : Nat → Prop)
    (hk : ∀ g, g < wr.heap.size → P g → X.heap[g]? = wr.heap[g]?) (hlow : Below w.heap.size w X) (h0 : ∀ g, g < w.heap.size → P g) (hP : ∀ (g : Nat) (cs : Array Value) (T : TypeId), wr.heap[g]? = some (Obj.cells cs T (0, 0)) → T = 25 ∨ T = 68 ∨ T = 3 → P g) : QHp w X gb A B n c m d r l tr := by
  obtain ⟨Ag, cg, Bg, mg, dg, h1, h2, h3, h4, h5⟩ := h.gb
  have keep : ∀ (g : Nat) (cs : Array Value) (T : TypeId), wr.heap[g]? = some (Obj.cells cs T (0, 0)) → T = 25 ∨ T = 68 ∨ T = 3 → X.heap[g]? = wr.heap[g]? := fun g cs T hg hT => hk g (block_lt hg) (hP g cs T hg hT)
  have kA : n ≠ 0 → ∀ a, Ag = some a → X.heap[a.block]? = wr.heap[a.block]? := fun hn a ha => by
    rcases h4 hn a ha with h | ⟨cur, h⟩
    · exact hk _ (Nat.lt_of_lt_of_le h ‹QHp w wr gb A B n c m d r l tr›.pre.low.size) (h0 _ h)
    · exact keep _ _ _ h (.inr (.inl rfl))
  have kB : mg ≠ 0 → ∀ a, Bg = some a → X.heap[a.block]? = wr.heap[a.block]? := fun hn a ha => by
    rcases h5 hn a ha with h | ⟨cur, h⟩
    · exact hk _ (Nat.lt_of_lt_of_le h ‹QHp w wr gb A B n c m d r l tr›.pre.low.size) (h0 _ h)
    · exact keep _ _ _ h (.inr (.inr rfl))
  exact ⟨⟨hlow, (keep _ _ _ h.pre.x0 (.inl rfl)).trans h.pre.x0, (keep _ _ _ h.pre.x1 (.inl rfl)).trans h.pre.x1, Nat.le_trans h.pre.size hs⟩, h.hgb, Ag, cg, Bg, mg, dg, (keep _ _ _ h1 (.inl rfl)).trans h1, ⟨h2.sl.same hs kA, h2.wf⟩, ⟨h3.sl.same hs kB, h3.wf⟩, h4.same kA, h5.same kB⟩
theorem QHp.below {w wr X : World} {gb : Nat} {A B : Option Addr} {n c m d : Nat} {r : Int} {l : List C} {tr : List Int} (h : QHp w wr gb A B n c m d r l tr) (hb : Below wr.heap.size wr X) : QHp w X gb A B n c m d r l tr :=
  h.keep hb.size (fun _ => True) (fun g hg _ => hb.block g hg) (h.pre.low.trans (hb.mono h.pre.low.size)) (fun _ _ => trivial) (fun _ _ _ _ _ => trivial)
/-- a row of pairs is grown -/
theorem QHp.grown {w wr X : World} {gb base np cp : Nat} {A B Ap : Option Addr} {n c m d : Nat} {r : Int} {l : List C} {tr : List Int} {xs : List Value} (h : QHp w wr gb A B n c m d r l tr) (hb : Below w.heap.size w X) (hs : wr.heap.size ≤ X.heap.size)
    (ho : wr.ownsRow base 89 2 (.slice Ap np cp) np xs) (hbase : w.heap.size ≤ base) (hg : wr.grownBy X (Value.slice Ap np cp).ownBlock) : QHp w X gb A B n c m d r l tr := by
  refine h.keep hs (fun g => ∀ a, Ap = some a → a.block ≠ g) (fun g hg' hp => grown_block hg hg' hp) hb (fun g hg' a ha => ?_) (fun g cs T hg' hT => own_ne ho hg' (fun cur he => ?_))
  · have := (Own0.lt ho a ha).1
    omega
  · injection he with e1 e2 e3
    rcases hT with h | h | h <;> rw [h] at e2 <;> exact absurd e2 (by decide)
abbrev st3 (w : World) (g : Nat) (a b c : Value) : World := ((w.setCell ⟨g, 0, none⟩ a).setCell ⟨g, 1, none⟩ b).setCell ⟨g, 2, none⟩ c
theorem st3_kq (w : World) (g : Nat) (a b c : Value) : Kq g w (st3 w g a b c) := ((Kq.set w 0 _).trans (Kq.set _ 1 _)).trans (Kq.set _ 2 _)
theorem st3_at {w : World} {g : Nat} {x y z : Value} {T : TypeId} (h : w.heap[g]? = some (.cells #[x, y, z] T (0, 0))) (a b c : Value) : (st3 w g a b c).heap[g]? = some (.cells #[a, b, c] T (0, 0)) := by
  have h1 := set_block (k := 0) h a
  have h2 := set_block (k := 1) h1 b
  have h3 := set_block (k := 2) h2 c
  simp at h3
  exact h3
/-- rows behind a store -/
theorem IsC.kq9 {w w' : World} {A : Option Addr} {n c g : Nat} {l : List C} (h : IsC w A n c l) (hk : Kq g w w') (hs : n ≠ 0 → ∀ x, A = some x → x.block ≠ g) : IsC w' A n c l := by
  cases l with
  | nil =>
    have h0 : n = 0 := h.len.symm
    subst h0
    exact ⟨⟨h.sl.len, h.sl.hcap, h.sl.hmax, fun hp => absurd hp (by omega)⟩, h.wf⟩
  | cons x l => exact h.kq hk (hs (by have := h.len; simp at this; omega))
theorem IsI.kqn {w w' : World} {A : Option Addr} {n c g : Nat} {l : List Int} (h : IsI w A n c l) (hk : Kq g w w') (hs : n ≠ 0 → ∀ x, A = some x → x.block ≠ g) : IsI w' A n c l := by
  cases l with
  | nil =>
    have h0 : n = 0 := h.len.symm
    subst h0
    exact ⟨⟨h.sl.len, h.sl.hcap, h.sl.hmax, fun hp => absurd hp (by omega)⟩, h.wf⟩
  | cons x l => exact h.kq hk (hs (by have := h.len; simp at this; omega))
theorem Old.kq {w0 w w' : World} {T : TypeId} {n g : Nat} {A : Option Addr} (h : Old w0 w T n A) (hk : Kq g w w') (hs : n ≠ 0 → ∀ x, A = some x → x.block ≠ g) : Old w0 w' T n A := by
  intro hn a ha
  rcases h hn a ha with h1 | ⟨cur, h1⟩
  · exact .inl h1
  · exact .inr ⟨cur, (hk.old _ (block_lt h1) (hs hn a ha)).trans h1⟩
/-- another heap is stored -/
theorem QHp.store {w wr : World} {gb : Nat} {A B Ag Bg : Option Addr} {n c m d cg mg dg : Nat} {r : Int} {l l' : List C} {tr tr' : List Int} (h : QHp w wr gb A B n c m d r l tr)
    (h2 : IsC wr Ag n cg l') (h3 : IsI wr Bg mg dg tr') (h4 : Old w wr 68 n Ag) (h5 : Old w wr 3 mg Bg) :
    QHp w (st3 wr gb (.slice Ag n cg) (.slice Bg mg dg) (.int .i64 r)) gb A B n c m d r l' tr' := by
  obtain ⟨A1, c1, B1, m1, d1, k1, _⟩ := h.gb
  have hk := st3_kq wr gb (.slice Ag n cg) (.slice Bg mg dg) (.int .i64 r)
  have n4 := h4.ne (by have := h.hgb; omega) (by decide) k1
  have n5 := h5.ne (by have := h.hgb; omega) (by decide) k1
  exact ⟨h.pre.above (hk.bel.mono h.hgb), h.hgb, Ag, cg, Bg, mg, dg, st3_at k1 _ _ _, h2.kq9 hk n4, h3.kqn hk n5, h4.kq hk n4, h5.kq hk n5⟩
/-- the loop's state -/
structure QI (w wr : World) (gb : Nat) (A B : Option Addr) (n c m d : Nat) (r : Int) (U : Option (List C × List Int)) (s : US) (Ar : Option Addr) (mr cr : Nat) (As : Option Addr) (ms cs : Nat) (kk : Nat) : Prop where
  hp : QHp w wr gb A B n c m d r s.l s.tr
  row : wr.ownsRow (w.heap.size + 2) 89 2 (.slice Ar mr cr) mr (pairsV s.row)
  seen : wr.ownsRow (w.heap.size + 2) 89 2 (.slice As ms cs) ms (pairsV s.seen.reverse)
  ok : UOk s
  len : s.l.length = n
  run : ∃ k, s.mu < k ∧ (uRun k s).map (fun s => (s.l, s.tr)) = U
  mu : s.mu ≤ kk
  top : s.mu ≤ 7 * (n * n) + 1
theorem QI.below {w wr X : World} {gb : Nat} {A B : Option Addr} {n c m d : Nat} {r : Int} {U : Option (List C × List Int)} {s : US} {Ar : Option Addr} {mr cr : Nat} {As : Option Addr} {ms cs : Nat} {kk : Nat} (h : QI w wr gb A B n c m d r U s Ar mr cr As ms cs kk) (hb : Below wr.heap.size wr X) : QI w X gb A B n c m d r U s Ar mr cr As ms cs kk :=
  ⟨h.hp.below hb, own_below h.row hb, own_below h.seen hb, h.ok, h.len, h.run, h.mu, h.top⟩
theorem Free1.ref {l : List C} {p q : Nat} (hs : shpB l = true) (h : Free1 l p) : bnd l p q = l.set p (refC q) := by
  have h1 := (ok_ref (shp_at hs h.lt) h.kind).1
  have h2 := h.kind
  unfold bnd refC
  congr 1
  generalize sAt l p = c at *
  cases c
  simp only at h1 h2
  rw [h1, h2]
theorem pairsV_cons (p : Nat × Nat) (S : List (Nat × Nat)) : pairsV (p :: S) = [.int .i64 (p.1 : Int), .int .i64 (p.2 : Int)] ++ pairsV S := by simp [pairsV]
theorem uStep {s : US} {a b : Nat} {row : List (Nat × Nat)} {U : Option (List C × List Int)} (hrow : s.row = (a, b) :: row) (hrun : ∃ k, s.mu < k ∧ (uRun k s).map (fun s => (s.l, s.tr)) = U) :
    ∃ k, s.mu < k + 1 ∧ ((match uOne s row (fol s.l a) (fol s.l b) with | none => none | some s' => uRun k s') : Option US).map (fun s => (s.l, s.tr)) = U := by
  obtain ⟨k0, hk0, hr⟩ := hrun
  obtain ⟨j, rfl⟩ : ∃ j, k0 = j + 1 := ⟨k0 - 1, by omega⟩
  exact ⟨j, hk0, by rw [← hr, uRun_step hrow]; rfl⟩
theorem rch_pathB {l : List C} (h : Good l) {p q : Nat} (hp : p < l.length) : rch l p q = pathB l p q := by
  rw [Bool.eq_iff_iff, h.rch_iff hp, pathB_iff]
/-- a variable bound -/
theorem QI.bound {w w5 : World} {gb k c9 ms cs mg c5 d5 : Nat} {A B A5 B5 As A9 : Option Addr} {n c m d : Nat} {r : Int} {U : Option (List C × List Int)} {s : US} {row : List (Nat × Nat)} {p q : Nat}
    (hH : QHp w w5 gb A B n c m d r s.l s.tr) (hC : IsC w5 A5 n c5 (s.l.set p (refC q))) (hI : IsI w5 B5 (mg + 1) d5 (s.tr ++ [(p : Int)])) (t1 : ∀ a, A5 = some a → ∃ cur, w5.heap[a.block]? = some (.cells cur 68 (0, 0))) (t2 : ∀ a, B5 = some a → ∃ cur, w5.heap[a.block]? = some (.cells cur 3 (0, 0)))
    (hrow : w5.ownsRow (w.heap.size + 2) 89 2 (.slice A9 k c9) k (pairsV row)) (hseen : w5.ownsRow (w.heap.size + 2) 89 2 (.slice As ms cs) ms (pairsV s.seen.reverse))
    (hs : shpB s.l = true) (hf : Free1 s.l p) (hok : UOk (s.bound row p q)) (hmu : (s.bound row p q).mu < s.mu) (hlen : s.l.length = n) (htop : s.mu ≤ 7 * (n * n) + 1) (hrun : ∃ j, s.mu < j + 1 ∧ (uRun j (s.bound row p q)).map (fun s => (s.l, s.tr)) = U) :
    QI w (((w5.setCell ⟨gb, 0, none⟩ (.slice A5 n c5)).setCell ⟨gb, 1, none⟩ (.slice B5 (mg + 1) d5)).setCell ⟨gb, 2, none⟩ (.int .i64 r)) gb A B n c m d r U (s.bound row p q) A9 k c9 As ms cs (s.bound row p q).mu := by
  obtain ⟨A1, c1, B1, m1, d1, k1, _⟩ := hH.gb
  have hk := st3_kq w5 gb (.slice A5 n c5) (.slice B5 (mg + 1) d5) (.int .i64 r)
  obtain ⟨j, hj, hr⟩ := hrun
  have hst : QHp w _ gb A B n c m d r (s.l.set p (refC q)) (s.tr ++ [(p : Int)]) := hH.store hC hI (fun _ a ha => .inr (t1 a ha)) (fun _ a ha => .inr (t2 a ha))
  rw [← hf.ref hs] at hst
  have ko : ∀ {A0 : Option Addr} {n0 c0 : Nat} {xs : List Value}, w5.ownsRow (w.heap.size + 2) 89 2 (.slice A0 n0 c0) n0 xs → (st3 w5 gb (.slice A5 n c5) (.slice B5 (mg + 1) d5) (.int .i64 r)).ownsRow (w.heap.size + 2) 89 2 (.slice A0 n0 c0) n0 xs := fun ho =>
    own_at ho (fun a ha => hk.old _ (Own0.lt ho a ha).2 (own_ne ho k1 (by intro cur he; injection he with f1 f2 f3; exact absurd f2 (by decide)) a ha))
  exact ⟨hst, ko hrow, ko hseen, hok, by simp only [US.bound, bnd_len]; exact hlen, ⟨j, by omega, hr⟩, Nat.le_refl _, by omega⟩
end Go.Proofs.Ytlndjooddkjnoaa
