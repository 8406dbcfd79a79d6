/- Texts of this proof that belong together: words of memory, plain laws, short walks. -/
import Derived.Test.YtdeaeiolehglaaaBuild
import Derived.Test.YtdeaeiolehglaaaM0
import Derived.Test.YtdeaeiolehglaaaRB
import Derived.Laws.EntriesVeiled
import Derived.Test.YtdeaeiolehglaaaM7
import Derived.Test.YtdeaeiolehglaaaRegs
set_option linter.unusedVariables false
set_option linter.unusedSimpArgs false
/- The walk that makes a literal. -/
namespace Go.Proofs.Ytdeaeiolehglaaa
open Go.RowKit

def litF (s : St) (l : Ltl) : St := (buildF s l.t).1.emit { op := 12, a := (buildF s l.t).2, neg := l.neg }
theorem bodyF_cons (s : St) (l : Ltl) (ls : List Ltl) : bodyF s (l :: ls) = bodyF (litF s l) ls := rfl
theorem litF_room {s : St} {l : Ltl} {k : Nat} (h : s.room (bwt l.t + (k + 1))) : (litF s l).room k := room_emit _ (buildF_room _ _ _ h)

set_option maxRecDepth 100000 in
set_option maxHeartbeats 8000000 in
theorem mLiteral_any (W : World) (base bm bq : Nat) (hWb : W.heap.size ≤ base) (st : St) (l : Ltl) (A : Option Addr) (n cap : Nat) (w : World) (hk3 : l.t.c0.kind = 3) (hW : IsC W A n cap l.t.flat) (hbW : Below W.heap.size W w)
    (hM : Mk w base bm bq st) (hT : l.t.ok = true) (hTs : l.t.size ≤ 200) (hr : st.room (bwt l.t + 1)) :
    Calls Try.prog 32 #[.pointer (some ⟨bm, 0, none⟩), .agg #[.bool l.neg, .slice A n cap]] w (RetMk w base bm bq (litF st l)) := by
  have hmf : ∀ (fn : Fn) (first cap : Array Value) (w : World), (Instr.makeFunc fn first cap).run Try.prog w = .ok (.func fn first cap) w := fun _ _ _ _ => rfl
  have hMlt := hM.lt
  have hsmall := buildF_small st l.t (hr.le (by omega))
  have hroom := buildF_room l.t st 1 hr
  have hrc := hroom.code
  go_enter Try.func32, Try.ntmps32
  go_wp2_with fail
  refine wp_world (Φ := fun X => Below w.heap.size w X ∧ w.heap.size + 3 ≤ X.heap.size ∧ X.heap[w.heap.size]? = some (.cells #[.pointer (some ⟨bm, 0, none⟩)] 60 (0, 0)) ∧ X.heap[w.heap.size + 1]? = some (.cells #[.bool l.neg, .slice A n cap] 55 (0, 0)) ∧
      X.heap[w.heap.size + 2]? = some (.cells #[.func (.func 55) #[] #[.pointer (some ⟨w.heap.size + 2, 0, none⟩), .pointer (some ⟨w.heap.size, 0, none⟩)]] 51 (0, 0)))
    ⟨(((Below.refl _ _).alloc (Nat.le_refl _) _).alloc (by simp) _).alloc (by simp; omega) _, by simp, (alloc_past (by simp; omega)).trans ((alloc_past (by simp)).trans (alloc_at rfl)), (alloc_past (by simp)).trans (alloc_at (by simp)), alloc_at (by simp)⟩ ?_
  rintro X ⟨hbX, hsX, x0, x1, x2⟩
  have hMX := hM.keep hbX
  have hMd := hMX.keep (Below.refl _ _).drew
  have hKX : Kept w X.drew bm bq := (Kept.below (bm := bm) (bq := bq) hbX hMlt.2.1).trans (Kept.below (Below.refl _ _).drew hMX.lt.2.1)
  have f0 : Free X.drew bm bq w.heap.size := ⟨by simp; omega, by omega, by omega, by rw [cblk_same (show X.drew.heap[bm]? = w.heap[bm]? from hbX.block bm hMlt.2.1)]; exact hM.cblk_lt (Nat.le_refl _)⟩
  have f1 : Free X.drew bm bq (w.heap.size + 1) := ⟨by simp; omega, by omega, by omega, by rw [cblk_same (show X.drew.heap[bm]? = w.heap[bm]? from hbX.block bm hMlt.2.1)]; exact hM.cblk_lt (by omega)⟩
  have f2 : Free X.drew bm bq (w.heap.size + 2) := ⟨by simp; omega, by omega, by omega, by rw [cblk_same (show X.drew.heap[bm]? = w.heap[bm]? from hbX.block bm hMlt.2.1)]; exact hM.cblk_lt (by omega)⟩
  have y0 := cells_of x0 0
  have y10 := cells_of x1 0
  have y11 := cells_of x1 1
  have y2 := cells_of x2 0
  simp at y0 y10 y11 y2
  have hC : Caught X.drew bm bq (w.heap.size + 2) w.heap.size := ⟨f2, f0, y2, y0⟩
  have hbb : Below base w X.drew := (hbX.mono (by omega)).drew
  have hrec := mBuild_any W base bm bq (w.heap.size + 2) w.heap.size hWb l.t.size st l.t A n cap X.drew (Nat.le_refl _) hk3 hW ((hbW.trans (hbX.mono hbW.size)).drew) hMd hT hTs (hr.le (by omega)) hC
  have Hrec := Lib.hid hrec
  have hC5 : ∀ w5, Kept X.drew w5 bm bq → w5.cell? ⟨w.heap.size + 2, 0, none⟩ = some (.func (.func 55) #[] #[.pointer (some ⟨w.heap.size + 2, 0, none⟩), .pointer (some ⟨w.heap.size, 0, none⟩)]) := fun w5 hk => (hC.kept hk).ct
  clear hrec hC
  go_region_held3 (fun w' => w'.cell? ⟨w.heap.size, 0, none⟩ = some (.pointer (some ⟨bm, 0, none⟩)) ∧ w'.cell? ⟨w.heap.size + 1, 0, none⟩ = some (.bool l.neg) ∧ w'.cell? ⟨w.heap.size + 1, 1, none⟩ = some (.slice A n cap) ∧
      (w'.cell? ⟨w.heap.size + 2, 0, none⟩ = some (.func (.func 55) #[] #[.pointer (some ⟨w.heap.size + 2, 0, none⟩), .pointer (some ⟨w.heap.size, 0, none⟩)])))
    (go_keep)
    (first
      | (go_at_call 55; refine Hrec.out.mono ?_; rintro e w5 ⟨rfl, hM5, hb5, hk5⟩; (have q0 := (World.cell?_of_block (a := ⟨w.heap.size, 0, none⟩) (hk5.free _ f0).1).trans y0); (have q10 := (World.cell?_of_block (a := ⟨w.heap.size + 1, 0, none⟩) (hk5.free _ f1).1).trans y10); (have q11 := (World.cell?_of_block (a := ⟨w.heap.size + 1, 1, none⟩) (hk5.free _ f1).1).trans y11); have q2 := hC5 w5 hk5)
      | (go_at_call 33; refine (mEmit_any base bm bq (buildF st l.t).1 { op := 12, a := (buildF st l.t).2, neg := l.neg } w5 hM5 (wfI (i64_small (by decide) (by decide)) i64_0 (i64_small (by omega) (by omega)) i64_0 empty_size) (by omega)).mono ?_; rintro e w7 ⟨rfl, hM7, hb7, hk7⟩; have hk57 := hk5.trans hk7; (have p0 := (World.cell?_of_block (a := ⟨w.heap.size, 0, none⟩) (hk57.free _ f0).1).trans y0); (have p10 := (World.cell?_of_block (a := ⟨w.heap.size + 1, 0, none⟩) (hk57.free _ f1).1).trans y10); (have p11 := (World.cell?_of_block (a := ⟨w.heap.size + 1, 1, none⟩) (hk57.free _ f1).1).trans y11); have p2 := hC5 w7 hk57)
      | fail)
  go_end0
  exact ⟨rfl, hM7, hbb.trans (hb5.trans hb7), hKX.trans (hk5.trans hk7)⟩
end Go.Proofs.Ytdeaeiolehglaaa

/- What the reader keeps in memory. -/
namespace Go.Proofs.Ytdeaeiolehglaaa
open Go.RowKit Go.Maps

def ivals (l : List (Int × Int)) : List (Int × Value) := l.map fun p => (p.1, .int .i64 p.2)
theorem look_ivals (l : List (Int × Int)) (k : Int) : look (ivals l) k = (lk l k).map (Value.int .i64) := by
  induction l with
  | nil => rfl
  | cons p r ih =>
    simp only [ivals, List.map_cons, look, lk]
    split
    · rfl
    · exact ih
theorem put_ivals (l : List (Int × Int)) (k v : Int) : putA (ivals l) k (.int .i64 v) = ivals (pt l k v) := by
  induction l with
  | nil => rfl
  | cons p r ih =>
    simp only [ivals, List.map_cons, putA, pt]
    split
    · rfl
    · rw [List.map_cons]; congr 1
theorem len_ivals (l : List (Int × Int)) : (ivals l).length = l.length := by simp [ivals]
/-- the rows of structures in memory -/
structure StR (w : World) (ml : List (Int × Value)) (l : List (Int × List In)) : Prop where
  len : ml.length = l.length
  rel : ∀ k, (look ml k = none ∧ lk l k = none) ∨ ∃ A n c row, look ml k = some (.slice A n c) ∧ lk l k = some row ∧ IsK w A n c row ∧ 0 < n
theorem StR.nil (w : World) : StR w [] [] := ⟨rfl, fun _ => .inl ⟨rfl, rfl⟩⟩
theorem StR.keep {w w' : World} {ml : List (Int × Value)} {l : List (Int × List In)} (h : StR w ml l) (hk : ∀ k A n c row, look ml k = some (.slice A n c) → 0 < n → IsK w A n c row → IsK w' A n c row) : StR w' ml l :=
  ⟨h.len, fun k => (h.rel k).imp id fun ⟨A, n, c, row, h1, h2, h3, h4⟩ => ⟨A, n, c, row, h1, h2, hk k A n c row h1 h4 h3, h4⟩⟩
theorem StR.below {w w' : World} {ml : List (Int × Value)} {l : List (Int × List In)} (h : StR w ml l) (hb : Below w.heap.size w w') : StR w' ml l := h.keep fun _ _ _ _ _ _ _ h => IsG.below keepsIn h hb
theorem pt_len {α β : Type} (ml : List (Int × α)) (l : List (Int × β)) (k : Int) (a : α) (b : β) : ml.length = l.length → (lk ml k).isSome = (lk l k).isSome → (pt ml k a).length = (pt l k b).length := by
  have key : ∀ {γ : Type} (m : List (Int × γ)) (x : γ), (pt m k x).length = if (lk m k).isSome then m.length else m.length + 1 := by
    intro γ m x
    induction m with
    | nil => rfl
    | cons p r ih =>
      simp only [pt, lk]
      split
      · rfl
      · rw [List.length_cons, ih]; split <;> simp
  intro h1 h2
  rw [key, key, h1, h2]
theorem look_lk (l : List (Int × Value)) (k : Int) : look l k = lk l k := by
  induction l with
  | nil => rfl
  | cons p r ih => simp only [look, lk]; split <;> simp_all
theorem putA_pt (l : List (Int × Value)) (k : Int) (v : Value) : putA l k v = pt l k v := by
  induction l with
  | nil => rfl
  | cons p r ih => simp only [putA, pt]; split <;> simp_all
theorem StR.put {w w' : World} {ml : List (Int × Value)} {l : List (Int × List In)} (h : StR w ml l) (k : Int) {A : Option Addr} {n c : Nat} {row : List In} (hnew : IsK w' A n c row) (hn : 0 < n)
    (hk : ∀ j A n c row, j ≠ k → look ml j = some (.slice A n c) → 0 < n → IsK w A n c row → IsK w' A n c row) : StR w' (putA ml k (.slice A n c)) (pt l k row) := by
  refine ⟨?_, fun j => ?_⟩
  · rw [putA_pt]
    refine pt_len _ _ _ _ _ h.len ?_
    rcases h.rel k with ⟨h1, h2⟩ | ⟨A', n', c', row', h1, h2, _, _⟩
    · rw [look_lk] at h1; rw [h1, h2]; rfl
    · rw [look_lk] at h1; rw [h1, h2]; rfl
  · rw [look_putA, lk_pt]
    by_cases hj : k = j
    · rw [if_pos hj, if_pos hj]
      exact .inr ⟨A, n, c, row, rfl, rfl, hnew, hn⟩
    · rw [if_neg hj, if_neg hj]
      exact (h.rel j).imp id fun ⟨A, n, c, row, h1, h2, h3, h4⟩ => ⟨A, n, c, row, h1, h2, hk j A n c row (fun he => hj he.symm) h1 h4 h3, h4⟩
theorem But.grown {w w' : World} {b : Nat} (h : w.grownBy w' (some b)) : But w w' b := ⟨h.os, h.tape, h.output, h.size, fun k hk hne => h.block k hk (by simpa using hne)⟩
/-- a row lies in no map's block -/
theorem Sl.offMap {w : World} {A : Option Addr} {size n c b : Nat} {xs : List Value} {es : Array MapEntry} {clock : Nat} (h : Sl w size A n c xs) (hs : 0 < size) (hb : w.heap[b]? = some (.map es clock)) : Off A n b := fun hn a ha => by
  obtain ⟨g, off, rfl, hlt, hc⟩ := h.cells hn
  cases ha
  intro he
  have hl := h.len
  have hpos : 0 < xs.length := by rw [hl]; exact Nat.mul_pos hn hs
  have h0 := hc 0 _ (List.getElem?_eq_getElem hpos)
  simp only at he
  subst he
  simp [World.cell?, hb] at h0
theorem IsG.offMap {α : Type} {Rl : World → α → List Value → Prop} {w : World} {A : Option Addr} {k n c b : Nat} {xs : List α} {es : Array MapEntry} {clock : Nat} (h : IsG Rl k w A n c xs) (hs : 0 < k) (hb : w.heap[b]? = some (.map es clock)) : Off A n b := by
  obtain ⟨vs, h1, h2, h3, h4⟩ := h.rows
  exact h3.offMap hs hb
theorem IsK.grown {w w' : World} {P : Program} {K : TypeId} {ml : List (Int × Value)} {A : Option Addr} {n c b : Nat} {xs : List In} (h : IsK w A n c xs) (hm : MapI P K w b ml) (hg : w.grownBy w' (some b)) : IsK w' A n c xs := by
  obtain ⟨es, clock, hb⟩ := hm.isMap
  exact h.but (fun _ _ _ _ h => h) (But.grown hg) (h.offMap (by omega) hb)
theorem IsG.far {α : Type} {Rl : World → α → List Value → Prop} {w w' : World} {T T' A : Option Addr} {k n c : Nat} {xs : List α} (hR : ∀ w w' x v, Rl w x v → Rl w' x v) (h : IsG Rl k w A n c xs) (hap : Apart w w' T T') (hf : Far T A n) : IsG Rl k w' A n c xs := by
  obtain ⟨vs, h1, h2, h3, h4⟩ := h.rows
  exact ⟨h.len, vs, h1, h2, h3.far hap hf, fun i x v hx hv => hR _ _ _ _ (h4 i x v hx hv)⟩
theorem IsG.farApp {α : Type} {Rl : World → α → List Value → Prop} {w w' : World} {T T' A : Option Addr} {k n c : Nat} {xs : List α} (h : IsG Rl k w A n c xs) (hap : Apart w w' T T') (hf : Far T A n) : Far T' A n := by
  obtain ⟨vs, h1, h2, h3, h4⟩ := h.rows
  exact hf.app hap h3
/-- the row that is open is the reader's own, and no other one's -/
def Opn (w : World) (base : Nat) (ml : List (Int × Value)) (l : List (Int × List In)) (opn : Int) : Prop :=
  0 ≤ opn → ∃ A n c row, look ml opn = some (.slice A n c) ∧ lk l opn = some row ∧ TailG RIn 6 w base 48 A n c row ∧ 0 < n ∧ (∀ k A' n' c', k ≠ opn → look ml k = some (.slice A' n' c') → Far A A' n')
theorem Opn.keep {w w' : World} {base : Nat} {ml : List (Int × Value)} {l : List (Int × List In)} {opn : Int} (h : Opn w base ml l opn) (hk : ∀ (g : Nat) (x : Array Value), w.heap[g]? = some (Obj.cells x 48 (0, 0)) → w'.heap[g]? = w.heap[g]?) : Opn w' base ml l opn := fun ho => by
  obtain ⟨A, n, c, row, h1, h2, ht, h4, h5⟩ := h ho
  refine ⟨A, n, c, row, h1, h2, ?_, h4, h5⟩
  obtain ⟨vs, v1, v2, v3, v4⟩ := ht.rows
  refine ⟨ht.len, vs, v1, v2, ⟨v3.len, v3.hcap, v3.hmax, v3.form.imp id fun ⟨g, off, cur, q1, q2, q3, r⟩ => ⟨g, off, cur, q1, q2, by rw [hk g cur q3]; exact q3, r⟩⟩, v4⟩
theorem tail_lit {w : World} {g base : Nat} {cs : Array Value} {t : TypeId} {size : Nat} (h : w.heap[g]? = some (.cells cs t (0, 0))) (hb : base ≤ g) (hl : cs.size = size) (hm : 1 ≤ maxLen) : Tail w base t size (some ⟨g, 0, none⟩) 1 1 cs.toList :=
  ⟨by simp [hl], Nat.le_refl _, hm, .inr ⟨g, 0, cs, rfl, hb, h, by simp [hl], by simp [List.take_of_length_le (by simp [hl] : cs.toList.length ≤ size)]⟩⟩
theorem run_map_get {P : Program} {K : TypeId} {w : World} {b : Nat} {l : List (Int × Value)} {t : TypeId} (e : TypeId) (hk : P.underlying K = some (.int .i64)) (ht : P.underlying t = some (.map K e))
    {z : Value} (hz : (zeroValue e).run P w = .ok z w) (h : MapI P K w b l) {k : Int} (hw : i64 k) {r : Value} (hr : (look l k).getD z = r) : (Instr.lookup t (.map (some b)) (.int .i64 k) false).run P w = .ok r w := by
  obtain ⟨D, h1, h2, h3, h4⟩ := h.has
  obtain ⟨v, ps, hrun, hv⟩ := h1.lookup (int_keyed hk) ht hz (zd := .held z) (zp := []) rfl (keyOf_int_mk hk (i64_wf hw))
  simp only [rawR, Option.some.injEq, Prod.mk.injEq] at hv
  have hv1 := hv.1
  rw [h4 k z hw] at hv1
  injection hv1 with hv1
  rw [hrun, hv1, hr]
section
variable {P : Program} {K : TypeId} {w : World} {b : Nat} {l : List (Int × Value)} {ops : Array Oper} {o : Oper} {a : Act} {Q : Exit → Act → World → Prop}
/-- 'm[k]' in a drawn region -/
theorem step_map_get {K' : Act → World → Prop} {E : Prop} (hwt : Region.wanted o (yielded ops a.tmps) = true) (m x : Operand) (t : TypeId) (hop : o.op = Op.lookup t m x false) (e : TypeId) (hk : P.underlying K = some (.int .i64)) (ht : P.underlying t = some (.map K e))
    {z : Value} (hz : (zeroValue e).run P w = .ok z w) (hm : a.eval m = .map (some b)) (h : MapI P K w b l) {k : Int} (hx : a.eval x = .int .i64 k) (hw : i64 k)
    (hK : K' (a.put o.dst ((look l k).getD z)) w) : if Region.wanted o (yielded ops a.tmps) = true then o.wp P a w K' Q else E := by
  obtain ⟨D, h1, h2, h3, h4⟩ := h.has
  obtain ⟨v, ps, hrun, hv⟩ := h1.lookup (int_keyed hk) ht hz (zd := .held z) (zp := []) rfl (keyOf_int_mk hk (i64_wf hw))
  simp only [rawR, Option.some.injEq, Prod.mk.injEq] at hv
  have hv1 := hv.1
  rw [h4 k z hw] at hv1
  injection hv1 with hv1
  subst hv1
  rw [if_pos hwt]
  unfold Oper.wp
  simp [execOp, hop, hm, hx, hrun, Result.andThen]
  exact hK
/-- 'len(m)' in a drawn region -/
theorem step_map_len {K' : Act → World → Prop} {E : Prop} (hwt : Region.wanted o (yielded ops a.tmps) = true) (m : Operand) (t : TypeId) (hop : o.op = Op.call { callee := Callee.builtin Builtin.len, args := #[m], argTypes := #[t] }) (e : TypeId) (ht : P.underlying t = some (.map K e))
    (hm : a.eval m = .map (some b)) (h : MapI P K w b l) (hK : K' (a.put o.dst (.int .i64 l.length)) w) : if Region.wanted o (yielded ops a.tmps) = true then o.wp P a w K' Q else E := by
  obtain ⟨D, h1, h2, h3, h4⟩ := h.has
  rw [if_pos hwt]
  unfold Oper.wp
  simp [execOp, hop, resolve, invoke, builtin, hm, h1.len ht o.type, Result.andThen]
  rw [h2]
  exact hK
end
/-- the reader -/
structure RdAt (w : World) (base br mv ms mq mi : Nat) (ml : List (Int × Value)) (M : Rm) (v : Rv) : Prop where
  blk : w.heap[br]? = some (.cells #[.map (some mv), .map (some ms), .map (some mq), .map (some mi), .int .i64 v.cells] 107 (0, 0))
  hv : MapI Try.prog 3 w mv (ivals v.vars)
  hs : MapI Try.prog 3 w ms ml
  hq : MapI Try.prog 3 w mq (ivals M.same)
  hi : MapI Try.prog 3 w mi (ivals M.ints)
  st : StR w ml M.structs
  low : base ≤ br ∧ base ≤ mv ∧ base ≤ ms ∧ base ≤ mq ∧ base ≤ mi
  ne : mv ≠ ms ∧ mv ≠ mq ∧ mv ≠ mi ∧ ms ≠ mq ∧ ms ≠ mi ∧ mq ≠ mi
theorem map_ne {P : Program} {K : TypeId} {w : World} {b g : Nat} {l : List (Int × Value)} {x : Array Value} {t : TypeId} (h : MapI P K w b l) (hg : w.heap[g]? = some (.cells x t (0, 0))) : g ≠ b := by
  rintro rfl
  obtain ⟨es, clock, hb⟩ := h.isMap
  rw [hg] at hb
  cases hb
theorem MapI.other {P : Program} {K : TypeId} {w w' : World} {b g : Nat} {l : List (Int × Value)} (h : MapI P K w b l) (hg : w.grownBy w' (some g)) (hne : b ≠ g) : MapI P K w' b l := h.block (hg.block b h.lt (by simpa using hne))
theorem RdAt.below {w w' : World} {base br mv ms mq mi : Nat} {ml : List (Int × Value)} {M : Rm} {v : Rv} (h : RdAt w base br mv ms mq mi ml M v) (hb : Below w.heap.size w w') : RdAt w' base br mv ms mq mi ml M v :=
  ⟨(hb.block br (block_lt h.blk)).trans h.blk, h.hv.below hb, h.hs.below hb, h.hq.below hb, h.hi.below hb, h.st.below hb, h.low, h.ne⟩
theorem RdAt.same {w w' : World} {base br mv ms mq mi : Nat} {ml : List (Int × Value)} {M : Rm} {v : Rv} {l' : List (Int × Int)} (h : RdAt w base br mv ms mq mi ml M v) (hg : w.grownBy w' (some mq)) (hq : MapI Try.prog 3 w' mq (ivals l')) : RdAt w' base br mv ms mq mi ml { M with same := l' } v :=
  ⟨(hg.block br (block_lt h.blk) (by simpa using map_ne h.hq h.blk)).trans h.blk, h.hv.other hg h.ne.2.1, h.hs.other hg h.ne.2.2.2.1, hq, h.hi.other hg (fun e => h.ne.2.2.2.2.2 e.symm), h.st.keep fun _ _ _ _ _ _ _ hk => hk.grown h.hq hg, h.low, h.ne⟩
theorem RdAt.ints {w w' : World} {base br mv ms mq mi : Nat} {ml : List (Int × Value)} {M : Rm} {v : Rv} {l' : List (Int × Int)} (h : RdAt w base br mv ms mq mi ml M v) (hg : w.grownBy w' (some mi)) (hq : MapI Try.prog 3 w' mi (ivals l')) : RdAt w' base br mv ms mq mi ml { M with ints := l' } v :=
  ⟨(hg.block br (block_lt h.blk) (by simpa using map_ne h.hi h.blk)).trans h.blk, h.hv.other hg h.ne.2.2.1, h.hs.other hg h.ne.2.2.2.2.1, h.hq.other hg h.ne.2.2.2.2.2, hq, h.st.keep fun _ _ _ _ _ _ _ hk => hk.grown h.hi hg, h.low, h.ne⟩
theorem RdAt.structs {w w' : World} {base br mv ms mq mi : Nat} {ml ml' : List (Int × Value)} {M : Rm} {v : Rv} {l' : List (Int × List In)} (opn : Int) (h : RdAt w base br mv ms mq mi ml M v) (hg : w.grownBy w' (some ms)) (hq : MapI Try.prog 3 w' ms ml') (hst : StR w' ml' l') : RdAt w' base br mv ms mq mi ml' { M with structs := l', opn := opn } v :=
  ⟨(hg.block br (block_lt h.blk) (by simpa using map_ne h.hs h.blk)).trans h.blk, h.hv.other hg h.ne.1, hq, h.hq.other hg (fun e => h.ne.2.2.2.1 e.symm), h.hi.other hg (fun e => h.ne.2.2.2.2.1 e.symm), hst, h.low, h.ne⟩
theorem RdAt.opn {w : World} {base br mv ms mq mi : Nat} {ml : List (Int × Value)} {M : Rm} {v : Rv} (opn : Int) (h : RdAt w base br mv ms mq mi ml M v) : RdAt w base br mv ms mq mi ml { M with opn := opn } v := ⟨h.blk, h.hv, h.hs, h.hq, h.hi, h.st, h.low, h.ne⟩
theorem Opn.map {P : Program} {K : TypeId} {w w' : World} {base b : Nat} {ml l0 : List (Int × Value)} {l : List (Int × List In)} {opn : Int} (h : Opn w base ml l opn) (hm : MapI P K w b l0) (hg : w.grownBy w' (some b)) : Opn w' base ml l opn := h.keep fun g x hx => hg.block g (block_lt hx) (by simpa using map_ne hm hx)
theorem RdAt.ms1 {w w1 : World} {base br mv ms mq mi : Nat} {ml : List (Int × Value)} {M : Rm} {v : Rv} {A A1 : Option Addr} (h : RdAt w base br mv ms mq mi ml M v) (hap : Apart w w1 A A1)
    (hA : ∀ a, A = some a → ∃ cur, w.heap[a.block]? = some (Obj.cells cur 48 (0, 0))) : MapI Try.prog 3 w1 ms ml ∧ w1.heap[br]? = w.heap[br]? := ⟨h.hs.block (hap.old ms h.hs.lt fun a ha he => by
    obtain ⟨cur, hc⟩ := hA a ha
    exact map_ne h.hs hc he), hap.old br (block_lt h.blk) fun a ha he => by
    obtain ⟨cur, hc⟩ := hA a ha
    rw [he, h.blk] at hc
    cases hc⟩
theorem RdAt.grow {w w1 w2 : World} {base br mv ms mq mi n1 c1 : Nat} {ml : List (Int × Value)} {M : Rm} {v : Rv} {A A1 : Option Addr} {row row1 : List In} {opn : Int} (h : RdAt w base br mv ms mq mi ml M v) (hap : Apart w w1 A A1)
    (hA : ∀ a, A = some a → ∃ cur, w.heap[a.block]? = some (Obj.cells cur 48 (0, 0))) (hbase : ∀ a, A = some a → base ≤ a.block) (hlk : lk M.structs opn = some row)
    (hfar : ∀ k A' n' c', k ≠ opn → look ml k = some (.slice A' n' c') → Far A A' n') (ht : TailG RIn 6 w1 base 48 A1 n1 c1 row1) (hbw : base ≤ w.heap.size) (h1 : 0 < n1) (hg2 : w1.grownBy w2 (some ms)) (hq2 : MapI Try.prog 3 w2 ms (putA ml opn (.slice A1 n1 c1))) :
    RdAt w2 base br mv ms mq mi (putA ml opn (.slice A1 n1 c1)) { M with structs := pt M.structs opn row1, opn := opn } v ∧ Opn w2 base (putA ml opn (.slice A1 n1 c1)) (pt M.structs opn row1) opn ∧ MapI Try.prog 3 w1 ms ml := by
  have hmap : ∀ {b : Nat} {l : List (Int × Value)}, MapI Try.prog 3 w b l → MapI Try.prog 3 w1 b l := fun {b l} hm => hm.block (hap.old b hm.lt fun a ha he => by
    obtain ⟨cur, hc⟩ := hA a ha
    exact map_ne hm hc he)
  have hm1 := hmap h.hs
  have hbr : w1.heap[br]? = w.heap[br]? := hap.old br (block_lt h.blk) fun a ha he => by
    obtain ⟨cur, hc⟩ := hA a ha
    rw [he, h.blk] at hc
    cases hc
  have htt : TailG RIn 6 w2 base 48 A1 n1 c1 row1 := ht.at_ (fun _ _ _ _ h => h) fun a ha => by
    obtain ⟨vs, v1, v2, v3, v4⟩ := ht.rows
    rcases v3.form with h0 | ⟨g, off, cur, q1, q2, q3, _⟩
    · have := v3.hcap; omega
    · rw [q1] at ha; cases ha
      exact hg2.block g (block_lt q3) (by simpa using map_ne hm1 q3)
  have hbr2 : w2.heap[br]? = some _ := (hg2.block br (block_lt (hbr.trans h.blk)) (by simpa using map_ne hm1 (hbr.trans h.blk))).trans (hbr.trans h.blk)
  refine ⟨⟨hbr2, (hmap h.hv).other hg2 h.ne.1, hq2, (hmap h.hq).other hg2 (fun e => h.ne.2.2.2.1 e.symm), (hmap h.hi).other hg2 (fun e => h.ne.2.2.2.2.1 e.symm), ?_, h.low, h.ne⟩, ?_, hm1⟩
  · exact h.st.put opn (htt.is (by omega)) h1 fun j A' n' c' row' hj hl hn hk => IsK.grown (IsG.far (fun _ _ _ _ h => h) hk hap (hfar j A' n' c' hj hl)) hm1 hg2
  · intro _
    refine ⟨A1, n1, c1, row1, by rw [look_putA, if_pos rfl], by rw [lk_pt, if_pos rfl], htt, h1, fun j A' n' c' hj hl => ?_⟩
    rw [look_putA, if_neg (fun e => hj e.symm)] at hl
    rcases h.st.rel j with ⟨q1, _⟩ | ⟨A2, n2, c2, row2, q1, q2, q3, q4⟩
    · rw [hl] at q1; cases q1
    · rw [hl] at q1
      injection q1 with q1
      injection q1 with e1 e2 e3
      subst e1 e2 e3
      exact IsG.farApp q3 hap (hfar j _ _ _ hj hl)
theorem zeroIs (w : World) : (zeroValue 26).run Try.prog w = .ok (.slice none 0 0) w := by kernel_rfl
end Go.Proofs.Ytdeaeiolehglaaa

/- The walks that ask whether a clause may be. -/
namespace Go.Proofs.Ytdeaeiolehglaaa
open Go.RowKit

def atomB (t : List C) : Bool := rightB t && (match t with | c :: _ => c.kind == 3 | [] => false)
/-- a clause as it lies in memory -/
abbrev Raw := List C × List (Bool × List C)
def mayB (c : Raw) : Bool := atomB c.1 && (decide (c.2.length ≤ 8) && c.2.all fun l => atomB l.2)
theorem atomB_tree {t : List C} (h : atomB t = true) : ∃ T : Tm, T.ok = true ∧ T.flat = t ∧ T.size ≤ 200 ∧ T.c0.kind = 3 := by
  unfold atomB at h
  rw [Bool.and_eq_true] at h
  obtain ⟨T, h1, h2, h3⟩ := right_tree h.1
  refine ⟨T, h1, h2, h3, ?_⟩
  rw [← h2, flat_cons] at h
  simpa using h.2
/-- a clause, and how it lies in memory -/
structure IsCls (c : Cls) (r : Raw) : Prop where
  head : c.head.flat = r.1
  hok : c.head.ok = true ∧ c.head.size ≤ 200 ∧ c.head.c0.kind = 3
  body : c.body.map (fun l => (l.neg, l.t.flat)) = r.2
  bok : ∀ l ∈ c.body, l.t.ok = true ∧ l.t.size ≤ 200 ∧ l.t.c0.kind = 3
  len : c.body.length ≤ 8
theorem mayB_cls {r : Raw} (h : mayB r = true) : ∃ c, IsCls c r := by
  obtain ⟨t, b⟩ := r
  simp only [mayB, Bool.and_eq_true, decide_eq_true_eq, List.all_eq_true] at h
  obtain ⟨h1, h2, h3⟩ := h
  obtain ⟨T, t1, t2, t3, t4⟩ := atomB_tree h1
  have key : ∀ b : List (Bool × List C), (∀ l ∈ b, atomB l.2 = true) → ∃ ls : List Ltl, ls.map (fun l => (l.neg, l.t.flat)) = b ∧ ∀ l ∈ ls, l.t.ok = true ∧ l.t.size ≤ 200 ∧ l.t.c0.kind = 3 := by
    intro b
    induction b with
    | nil => intro _; exact ⟨[], rfl, by simp⟩
    | cons x b ih =>
      intro hb
      obtain ⟨ls, l1, l2⟩ := ih (fun l hl => hb l (by simp [hl]))
      obtain ⟨U, u1, u2, u3, u4⟩ := atomB_tree (hb x (by simp))
      refine ⟨⟨x.1, U⟩ :: ls, by simp [l1, u2], fun l hl => ?_⟩
      rcases List.mem_cons.1 hl with rfl | hl
      · exact ⟨u1, u3, u4⟩
      · exact l2 l hl
  obtain ⟨ls, l1, l2⟩ := key b h3
  exact ⟨⟨T, ls⟩, t2, ⟨t1, t3, t4⟩, l1, l2, by have := congrArg List.length l1; simp at this; simp; omega⟩

theorem tRight_all (A : Option Addr) (n cap : Nat) (t : List C) (w : World) (h : IsC w A n cap t) : Calls Try.prog 49 #[.slice A n cap] w (RetV w (.bool (rightB t))) := by
  by_cases hr : n ≤ 100000
  · exact tRight_any A n cap t w h hr
  · have Hl := Lib.hid h.len
    have h1 : (n : Int) < 1 ∨ 200 < (n : Int) := by omega
    go_enter Try.func49, Try.ntmps49
    go_wp2_with (first
      | (go_at_call 62; go_must (refine (in_no _ 1 200 _ h1).mono ?_); rintro e w1 ⟨rfl, rfl⟩))
    go_ret
    exact ⟨ret_bool (right_no t n Hl.out (by omega)).symm, Below.refl _ _⟩
theorem atom_any (A : Option Addr) (n cap : Nat) (t : List C) (w : World) (h : IsC w A n cap t) (hn : n ≤ 1000000000000) :
    Calls Try.prog 29 #[.slice A n cap] w (RetV w (.bool (atomB t))) := by
  cases hr : rightB t
  · have ha : atomB t = false := by simp [atomB, hr]
    have Ha := Lib.hid ha
    have hR := tRight_all A n cap t w h
    rw [hr] at hR
    have HR := Lib.hid hR
    clear ha hR hr
    go_enter Try.func29, Try.ntmps29
    go_wp2_with (first | (go_at_call 49; go_must (refine HR.out.mono ?_); rintro e w1 ⟨rfl, hb⟩))
    go_ret
    exact ⟨ret_bool Ha.out.symm, hb⟩
  · obtain ⟨hsk, hl1, _⟩ := right_skip hr
    match t, hl1 with
    | c :: cs, _ =>
      have hc0 : (c :: cs)[0]? = some c := rfl
      obtain ⟨b, off, rfl, hbb, _, h0, h1, h2⟩ := h.at_ hc0
      simp only [Nat.zero_mul, Nat.add_zero] at h0 h1 h2
      have hl := h.len
      have hn0 : (0 : Int) < (n : Int) := by simp at hl; omega
      have ha : atomB (c :: cs) = (c.kind == 3) := by simp [atomB, hr]
      have Ha := Lib.hid ha
      have hR := tRight_all _ n cap (c :: cs) w h
      rw [hr] at hR
      have HR := Lib.hid hR
      clear ha hR hr hl hc0 hsk
      go_enter Try.func29, Try.ntmps29
      go_wp2_with (first | (go_at_call 49; go_must (refine HR.out.mono ?_); rintro e w1 ⟨rfl, hb⟩; have q0 := ((bcell hb).1 b off hbb).trans h0; have hlt := Nat.lt_of_lt_of_le hbb hb.size))
      go_ret
      exact ⟨ret_bool Ha.out.symm, hb⟩
theorem rAtom_any (A : Option Addr) (n cap : Nat) (t : List C) (w : World) (h : IsC w A n cap t) (hn : n ≤ 100000) :
    Calls Try.prog 44 #[.slice A n cap] w (RetV w (.bool (atomB t))) := by
  cases hr : rightB t
  · have ha : atomB t = false := by simp [atomB, hr]
    have Ha := Lib.hid ha
    have hR := rRight_any A n cap t w h hn
    rw [hr] at hR
    have HR := Lib.hid hR
    clear ha hR hr
    go_enter Try.func44, Try.ntmps44
    go_wp2_with (first | (go_at_call 59; go_must (refine HR.out.mono ?_); rintro e w1 ⟨rfl, hb⟩))
    go_ret
    exact ⟨ret_bool Ha.out.symm, hb⟩
  · obtain ⟨hsk, hl1, _⟩ := right_skip hr
    match t, hl1 with
    | c :: cs, _ =>
      have hc0 : (c :: cs)[0]? = some c := rfl
      obtain ⟨b, off, rfl, hbb, _, h0, h1, h2⟩ := h.at_ hc0
      simp only [Nat.zero_mul, Nat.add_zero] at h0 h1 h2
      have hl := h.len
      have hn0 : (0 : Int) < (n : Int) := by simp at hl; omega
      have ha : atomB (c :: cs) = (c.kind == 3) := by simp [atomB, hr]
      have Ha := Lib.hid ha
      have hR := rRight_any _ n cap (c :: cs) w h hn
      rw [hr] at hR
      have HR := Lib.hid hR
      clear ha hR hr hl hc0 hsk
      go_enter Try.func44, Try.ntmps44
      go_wp2_with (first | (go_at_call 59; go_must (refine HR.out.mono ?_); rintro e w1 ⟨rfl, hb⟩; have q0 := ((bcell hb).1 b off hbb).trans h0; have hlt := Nat.lt_of_lt_of_le hbb hb.size))
      go_ret
      exact ⟨ret_bool Ha.out.symm, hb⟩
theorem odd_any (neg : Bool) (A : Option Addr) (n cap : Nat) (t : List C) (w : World) (h : IsC w A n cap t) (hn : n ≤ 1000000000000) :
    Calls Try.prog 28 #[.agg #[.bool neg, .slice A n cap]] w (RetV w (.bool (!atomB t))) := by
  have hal : Below w.heap.size w (w.alloc (.cells #[.bool neg, .slice A n cap] 55)) := (Below.refl _ _).alloc (Nat.le_refl _) _
  go_enter Try.func28, Try.ntmps28
  go_wp2_with (first | (go_at_call 29; go_must (refine (atom_any A n cap t _ (h.below hal) hn).mono ?_); rintro e w1 ⟨rfl, hb⟩))
  go_ret
  exact ⟨rfl, hal.trans (hb.mono hal.size)⟩

set_option maxHeartbeats 400000 in
theorem indexLit_any (A : Option Addr) (n cap : Nat) (l : List (Bool × List C)) (w : World) (h : IsLs w A n cap l) (hn : n ≤ 100000) (hs : ∀ x ∈ l, x.2.length ≤ 1000000000000) :
    Calls Try.prog 50 #[.slice A n cap, .func (.func 28) #[] #[]] w (RetV w (.int .i64 (idxF (fun x : Bool × List C => !atomB x.2) 0 l))) := by
  go_enter Try.func50, Try.ntmps50
  go_wp2
  go_loopw [8] (fun i wr => ∃ k : Nat, k ≤ n ∧ i = .int .i64 k ∧ Hid (idxF (fun x : Bool × List C => !atomB x.2) k (l.drop k) = idxF (fun x : Bool × List C => !atomB x.2) 0 l) ∧ Below w.heap.size w wr) (fun i _ => n - (intOf i).toNat)
  case atStart => exact ⟨0, Nat.zero_le _, rfl, rfl, Below.refl _ _⟩
  case round =>
    obtain ⟨k, hk, rfl, hres, hb⟩ := hrel
    by_cases hlt : k < n
    · obtain ⟨x, hxk⟩ := h.get hlt
      obtain ⟨b, off, v, rfl, hbb, _, ⟨A', n', c', rfl, hx⟩, hcells⟩ := h.at_ hxk
      have h0 := hcells 0 _ rfl
      have h1 := hcells 1 _ rfl
      have hd := drop_get hxk
      have hxs := hs x (List.mem_of_getElem? hxk)
      have hx' := hx.below hb
      have hxl := hx.len
      have Hd := Lib.hid hd
      obtain ⟨hc, hf⟩ := bcell hb
      have g0 := (hc b _ hbb).trans h0
      have g1 := (hc b _ hbb).trans h1
      simp only [Nat.add_zero] at g0
      have hcap := h.cap_le
      clear hxk hd hcells h0 h1 hc hf
      cases ho : atomB x.2
      all_goals
        have hg := odd_any x.1 A' n' c' x.2 wr hx' (by omega)
        rw [ho] at hg
        have Ho := Lib.hid ho
        have Hg := Lib.hid hg
        clear ho hg
        go_wp2_with (first | (go_at_call 28; go_must (refine Hg.out.mono ?_); rintro e w1 ⟨rfl, hb1⟩))
      · go_ret
        exact ⟨ret_int (by have := hres.out; rw [Hd.out, idxF, if_pos (by simp [Ho.out])] at this; exact this), hb.trans (hb1.mono hb.size)⟩
      · go_roundw
        case rel => exact ⟨k + 1, by omega, by go_num, by have := hres.out; rw [Hd.out, idxF, if_neg (by simp [Ho.out])] at this; exact this, hb.trans (hb1.mono hb.size)⟩
        case measure => simp [intOf]; omega
    · go_wp2
      go_ret
      exact ⟨ret_int (by have := hres.out; rw [drop_end h.len hlt] at this; simpa [idxF] using this), hb⟩
theorem containsLit_any (A : Option Addr) (n cap : Nat) (l : List (Bool × List C)) (w : World) (h : IsLs w A n cap l) (hn : n ≤ 100000) (hs : ∀ x ∈ l, x.2.length ≤ 1000000000000) :
    Calls Try.prog 30 #[.slice A n cap, .func (.func 28) #[] #[]] w (RetV w (.bool (!(l.all fun x => atomB x.2)))) := by
  have hi := idxF_any (fun x : Bool × List C => !atomB x.2) l 0
  have ha : (l.any fun x => !atomB x.2) = !(l.all fun x => atomB x.2) := by rw [← List.not_all_eq_any_not]
  rw [ha] at hi
  have Hi := Lib.hid hi
  clear hi ha
  go_enter Try.func30, Try.ntmps30
  go_wp2_with (go_at_call 50; go_must (refine (indexLit_any A n cap l _ h hn hs).mono ?_); rintro e w1 ⟨rfl, hb⟩)
  go_ret
  exact ⟨ret_bool Hi.out, hb⟩
end Go.Proofs.Ytdeaeiolehglaaa

/- The clause that code may be of. No program in sight. -/
namespace Go.Proofs.Ytdeaeiolehglaaa
open Go.RowKit

theorem MOk.step {M : Rm} {i : In} {k : Nat} (h : MOk M) (hl : ∀ j row, lk M.structs j = some row → row.length ≤ k) (hi : i.wf) : MOk (rdStep M i) ∧ ∀ j row, lk (rdStep M i).structs j = some row → row.length ≤ k + 1 := by
  have hl1 : ∀ j row, lk M.structs j = some row → row.length ≤ k + 1 := fun j row hr => Nat.le_succ_of_le (hl j row hr)
  unfold rdStep
  split
  · exact ⟨⟨h.ints, fun r n hr => by (simp only [lk_pt] at hr; split at hr; (cases hr; exact hi.x); (exact h.same r n hr)), h.rows⟩, hl1⟩
  · split
    · exact ⟨⟨fun r n hr => by (simp only [lk_pt] at hr; split at hr; (cases hr; exact hi.n); (exact h.ints r n hr)), h.same, h.rows⟩, hl1⟩
    · split
      · exact ⟨⟨h.ints, h.same, fun r row hr => by (simp only [lk_pt] at hr; split at hr; (cases hr; exact ⟨by simp, fun x hx => by simp at hx; subst hx; exact hi⟩); (exact h.rows r row hr))⟩, fun j row hr => by (simp only [lk_pt] at hr; split at hr; (cases hr; simp); (exact hl1 j row hr))⟩
      · split
        · have hold : ∀ x ∈ (lk M.structs M.opn).getD [], x.wf := by
            intro x hx
            cases hq : lk M.structs M.opn with
            | none => rw [hq] at hx; simp at hx
            | some row => rw [hq] at hx; exact (h.rows _ _ hq).2 x hx
          have hlen : ((lk M.structs M.opn).getD []).length ≤ k := by
            cases hq : lk M.structs M.opn with
            | none => simp
            | some row => exact hl _ _ hq
          refine ⟨⟨h.ints, h.same, fun r row hr => ?_⟩, fun j row hr => ?_⟩
          · simp only [lk_pt] at hr
            split at hr
            · cases hr
              exact ⟨by simp, fun x hx => (List.mem_append.1 hx).elim (hold x) (fun hx => by simp at hx; subst hx; exact hi)⟩
            · exact h.rows r row hr
          · simp only [lk_pt] at hr
            split at hr
            · cases hr; simp; omega
            · exact hl1 j row hr
        · exact ⟨h, hl1⟩
theorem readG_ok : ∀ (l : List In) (M : Rm) (k : Nat), MOk M → (∀ j row, lk M.structs j = some row → row.length ≤ k) → (∀ i ∈ l, i.wf) → MOk (readG M l) ∧ ∀ j row, lk (readG M l).structs j = some row → row.length ≤ k + l.length
  | [], M, k, h, hl, _ => ⟨h, hl⟩
  | i :: l, M, k, h, hl, hw => by
    obtain ⟨h1, h2⟩ := h.step hl (hw i (by simp))
    obtain ⟨h3, h4⟩ := readG_ok l (rdStep M i) (k + 1) h1 h2 (fun x hx => hw x (by simp [hx]))
    exact ⟨h3, fun j row hr => by have := h4 j row hr; simp; omega⟩
theorem readF_ok {l : List In} (hw : ∀ i ∈ l, i.wf) : MOk (readF l) ∧ ∀ j row, lk (readF l).structs j = some row → row.length ≤ l.length := by
  have := readG_ok l ⟨[], [], [], -1⟩ 0 ⟨fun r n h => by simp [lk] at h, fun r n h => by simp [lk] at h, fun r n h => by simp [lk] at h⟩ (fun j row h => by simp [lk] at h) hw
  simpa [readF] using this
/-- the head's arguments, k of them from register i on -/
def headR (M : Rm) : Nat → Rv → Nat → Rv × List C
  | 0, v, _ => (v, [])
  | k + 1, v, i => ((headR M k (termF M 1810 v i).1 (i + 1)).1, (termF M 1810 v i).2 ++ (headR M k (termF M 1810 v i).1 (i + 1)).2)
def bodyR (M : Rm) : Rv → List In → Rv × List (Bool × List C)
  | v, [] => (v, [])
  | v, i :: l => if i.op = 12 then ((bodyR M (termF M 1810 v i.a).1 l).1, (i.neg, (termF M 1810 v i.a).2) :: (bodyR M (termF M 1810 v i.a).1 l).2) else bodyR M v l
def candG (M : Rm) (l : List In) (e : In) : Raw := (⟨3, e.name, e.n⟩ :: (headR M e.n.toNat ⟨[], 0⟩ 0).2, (bodyR M (headR M e.n.toNat ⟨[], 0⟩ 0).1 l).2)
def candF (l : List In) (e : In) : Raw := candG (readF l) l e
/-- may the last instruction be a clause's last? -/
def endOk (e : In) : Prop := e.op = 13 ∧ 0 ≤ e.n ∧ e.n ≤ 6
instance (e : In) : Decidable (endOk e) := inferInstanceAs (Decidable (_ ∧ _))
theorem bodyR_len (M : Rm) : ∀ (l : List In) (v : Rv), (bodyR M v l).2.length ≤ l.length
  | [], _ => Nat.le_refl _
  | i :: l, v => by
    unfold bodyR
    split
    · have := bodyR_len M l (termF M 1810 v i.a).1; simp; omega
    · have := bodyR_len M l v; simp; omega
end Go.Proofs.Ytdeaeiolehglaaa

/- What registers hold when a clause's code is read: each term in its register. No program in sight. -/
namespace Go.Proofs.Ytdeaeiolehglaaa
open Go.RowKit

/-- a variable's register -/
def vr (s : St) (x : Int) : Option Int := lk (s.vars.zip s.regs) x
theorem idx_ge {α : Type} (p : α → Bool) : ∀ (l : List α) (k : Nat), idxF p k l = -1 ∨ (k : Int) ≤ idxF p k l
  | [], k => .inl rfl
  | x :: l, k => by
    rw [idxF]
    split
    · exact .inr (Int.le_refl _)
    · rcases idx_ge p l (k + 1) with h | h
      · exact .inl h
      · exact .inr (by omega)
theorem look_zip : ∀ (vars regs : List Int) (k : Nat) (x : Int), vars.length = regs.length →
    (match regs[(idxF (fun y => y == x) k vars).toNat - k]?, decide (0 ≤ idxF (fun y => y == x) k vars) with
      | some r, true => some r
      | _, _ => none) = lk (vars.zip regs) x
  | [], [], k, x, _ => by simp [idxF, lk]
  | y :: vars, r :: regs, k, x, h => by
    simp only [List.zip_cons_cons, lk]
    by_cases hy : y = x
    · rw [if_pos hy, idxF, if_pos (by simpa using hy)]
      simp
    · rw [if_neg hy, ← look_zip vars regs (k + 1) x (by simpa using h), idxF, if_neg (by simpa using hy)]
      rcases idx_ge (fun y => y == x) vars (k + 1) with h1 | h1
      · rw [h1]; simp
      · have e : (idxF (fun y => y == x) (k + 1) vars).toNat - k = ((idxF (fun y => y == x) (k + 1) vars).toNat - (k + 1)) + 1 := by omega
        rw [e, List.getElem?_cons_succ]
  | [], _ :: _, _, _, h => by simp at h
  | _ :: _, [], _, _, h => by simp at h
/-- a state's registers of variables -/
structure SOk (s : St) : Prop where
  len : s.vars.length = s.regs.length
  lt : RegLt s
  nd : s.regs.Nodup
theorem regF_vr {s : St} (h : SOk s) (v : Int) : regF s v = match vr s v with
    | some r => (s, r, false)
    | none => (s.bump.addv v s.next, (s.next : Int), true) := by
  have hl := look_zip s.vars s.regs 0 v h.len
  simp only [Nat.sub_zero] at hl
  have hp : placeI s.vars v = idxF (fun y => y == v) 0 s.vars := rfl
  unfold regF vr
  rw [← hl, hp]
  cases s.regs[(idxF (fun y => y == v) 0 s.vars).toNat]? with
  | none => rfl
  | some r => cases decide (0 ≤ idxF (fun y => y == v) 0 s.vars) <;> rfl
theorem lk_mem {α : Type} : ∀ {l : List (Int × α)} {x : Int} {q : α}, lk l x = some q → (x, q) ∈ l
  | p :: l, x, q, h => by
    simp only [lk] at h
    split at h
    · rename_i hp
      obtain ⟨a, b⟩ := p
      simp only at hp h
      cases h; subst hp
      simp
    · exact List.mem_cons_of_mem _ (lk_mem h)
theorem lk_snoc {α : Type} : ∀ (l : List (Int × α)) (v : Int) (r : α) (x : Int), lk (l ++ [(v, r)]) x = match lk l x with
    | some q => some q
    | none => if v = x then some r else none
  | [], v, r, x => by simp [lk]
  | p :: l, v, r, x => by
    simp only [List.cons_append, lk]
    split
    · rfl
    · exact lk_snoc l v r x
theorem vr_mem {s : St} {x q : Int} (h : vr s x = some q) : q ∈ s.regs := (List.of_mem_zip (lk_mem h)).2
theorem zip_inj : ∀ {as_ bs : List Int} {x y q : Int}, bs.Nodup → (x, q) ∈ as_.zip bs → (y, q) ∈ as_.zip bs → x = y
  | [], _, _, _, _, _, h, _ => by simp at h
  | _ :: _, [], _, _, _, _, h, _ => by simp at h
  | a :: as_, b :: bs, x, y, q, hn, h, h' => by
    rw [List.nodup_cons] at hn
    simp only [List.zip_cons_cons, List.mem_cons, Prod.mk.injEq] at h h'
    rcases h with ⟨rfl, rfl⟩ | h
    · rcases h' with ⟨rfl, _⟩ | h'
      · rfl
      · exact absurd (List.of_mem_zip h').2 hn.1
    · rcases h' with ⟨rfl, rfl⟩ | h'
      · exact absurd (List.of_mem_zip h).2 hn.1
      · exact zip_inj hn.2 h h'
theorem vr_inj {s : St} (h : SOk s) {x y q : Int} (hx : vr s x = some q) (hy : vr s y = some q) : x = y := zip_inj h.nd (lk_mem hx) (lk_mem hy)
def Ext (V V' : Int → Option Int) : Prop := ∀ x q, V x = some q → V' x = some q
/-- a state that goes on from another one -/
structure Adv (s s' : St) : Prop where
  ok : SOk s'
  ext : Ext (vr s) (vr s')
  next : s.next ≤ s'.next
  new : ∀ q ∈ s'.regs, q ∈ s.regs ∨ (s.next : Int) ≤ q
theorem Adv.refl {s : St} (h : SOk s) : Adv s s := ⟨h, fun _ _ h => h, Nat.le_refl _, fun _ h => .inl h⟩
theorem Adv.trans {a b c : St} (h : Adv a b) (h' : Adv b c) : Adv a c := ⟨h'.ok, fun x q hx => h'.ext x q (h.ext x q hx), Nat.le_trans h.next h'.next, fun q hq => (h'.new q hq).elim (h.new q) (fun h1 => .inr (by have := h.next; omega))⟩
theorem adv_emit {s : St} (h : SOk s) (i : In) : Adv s (s.emit i) := ⟨⟨h.len, h.lt, h.nd⟩, fun _ _ h => h, Nat.le_refl _, fun _ h => .inl h⟩
theorem adv_bump {s : St} (h : SOk s) : Adv s s.bump := ⟨⟨h.len, fun r hr => by have := h.lt r hr; simp [St.bump]; omega, h.nd⟩, fun _ _ h => h, by simp [St.bump], fun _ h => .inl h⟩
theorem adv_reg {s : St} (h : SOk s) (v : Int) : Adv s (regF s v).1 ∧ vr (regF s v).1 v = some (regF s v).2.1 := by
  rw [regF_vr h]
  cases hv : vr s v with
  | some r => exact ⟨Adv.refl h, hv⟩
  | none =>
    have hz : ∀ x, vr (s.bump.addv v s.next) x = match vr s x with
        | some q => some q
        | none => if v = x then some (s.next : Int) else none := fun x => by
      unfold vr
      have : (s.bump.addv v s.next).vars.zip (s.bump.addv v s.next).regs = s.vars.zip s.regs ++ [(v, (s.next : Int))] := by
        simp only [St.addv, St.bump]
        rw [List.zip_append h.len]; rfl
      rw [this, lk_snoc]
      cases lk (s.vars.zip s.regs) x <;> rfl
    refine ⟨⟨⟨by simp [St.addv, St.bump, h.len], regLt_new h.lt v, ?_⟩, fun x q hx => by rw [hz, hx], by simp [St.addv, St.bump], ?_⟩, ?_⟩
    · simp only [St.addv, St.bump]
      rw [List.nodup_append]
      refine ⟨h.nd, by simp, fun a ha b hb hab => ?_⟩
      simp at hb
      have := h.lt a ha
      omega
    · intro q hq
      simp [St.addv, St.bump] at hq
      rcases hq with hq | rfl
      · exact .inl hq
      · exact .inr (Int.le_refl _)
    · simp only
      rw [hz, hv]
      simp
/-- what a structure's parts' instructions are, and which wait in the row -/
def Shp (V : Int → Option Int) : List Tm → List In → List (Tm × Int) → Prop
  | [], u, add => u = [] ∧ add = []
  | t :: ts, u, add => ∃ i v, u = i :: v ∧
      ((t.c0.kind = 2 ∧ i.op = 7 ∧ t.c0.n = i.n ∧ Shp V ts v add) ∨ (t.c0.kind = 1 ∧ (i.op = 5 ∨ i.op = 6) ∧ V t.c0.n = some i.x ∧ Shp V ts v add) ∨ (t.c0.kind = 3 ∧ i.op = 5 ∧ ∃ rest, add = (t, i.x) :: rest ∧ Shp V ts v rest))
theorem Shp.ext {V V' : Int → Option Int} (h : Ext V V') : ∀ {ts : List Tm} {u : List In} {add : List (Tm × Int)}, Shp V ts u add → Shp V' ts u add
  | [], _, _, hs => hs
  | t :: ts, u, add, ⟨i, v, hu, hs⟩ => by
    refine ⟨i, v, hu, ?_⟩
    rcases hs with ⟨h1, h2, h3, h4⟩ | ⟨h1, h2, h3, h4⟩ | ⟨h1, h2, rest, h3, h4⟩
    · exact .inl ⟨h1, h2, h3, h4.ext h⟩
    · exact .inr (.inl ⟨h1, h2, h _ _ h3, h4.ext h⟩)
    · exact .inr (.inr ⟨h1, h2, rest, h3, h4.ext h⟩)
/-- terms that wait, with new registers -/
structure RowNew (s s1 : St) (add : List (Tm × Int)) : Prop where
  range : ∀ p ∈ add, (s.next : Int) ≤ p.2 ∧ p.2 < s1.next
  nd : (add.map (·.2)).Nodup
  off : ∀ p ∈ add, p.2 ∉ s1.regs
theorem RowNew.nil (s s1 : St) : RowNew s s1 [] := ⟨by simp, by simp, by simp⟩
/-- an argument that is a variable, or a number -/
theorem adv_one (a b c : Int) {s : St} (h : SOk s) (t : Tm) (hk : t.c0.kind ≠ 3) : Adv s (oneF a b c s t) ∧ ∃ i, (oneF a b c s t).code = s.code ++ [i] ∧
    ((t.c0.kind = 2 ∧ i.op = c ∧ t.c0.n = i.n) ∨ (t.c0.kind = 1 ∧ (i.op = a ∨ i.op = b) ∧ vr (oneF a b c s t) t.c0.n = some i.x)) := by
  cases t with
  | v n =>
    obtain ⟨h1, h2⟩ := adv_reg h n
    refine ⟨h1.trans (adv_emit h1.ok _), { op := if (regF s n).2.2 then a else b, x := (regF s n).2.1 }, by simp only [oneF, St.emit, regF_code], .inr ⟨rfl, ?_, h2⟩⟩
    simp only
    split
    · exact .inl rfl
    · exact .inr rfl
  | i n => exact ⟨adv_emit h _, _, rfl, .inl ⟨rfl, rfl, rfl⟩⟩
  | f nm us => exact absurd rfl hk
theorem unis_shp : ∀ (ts : List Tm) (s : St), SOk s → ∃ u, (unisF s ts).1.code = s.code ++ u ∧ Adv s (unisF s ts).1 ∧ Shp (vr (unisF s ts).1) ts u (unisF s ts).2 ∧ RowNew s (unisF s ts).1 (unisF s ts).2
  | [], s, h => ⟨[], by simp [unisF], Adv.refl h, ⟨rfl, rfl⟩, RowNew.nil _ _⟩
  | t :: ts, s, h => by
    by_cases hk : t.c0.kind = 3
    · rw [unisF_fun s t ts hk]
      have h0 := (adv_emit h { op := 5, x := (s.next : Int) }).trans (adv_bump (adv_emit h { op := 5, x := (s.next : Int) }).ok)
      obtain ⟨u, h1, h2, h3, h4⟩ := unis_shp ts (s.emit { op := 5, x := (s.next : Int) }).bump h0.ok
      have hnx : (s.emit { op := 5, x := (s.next : Int) }).bump.next = s.next + 1 := rfl
      have hle := h2.next
      rw [hnx] at hle
      refine ⟨{ op := 5, x := (s.next : Int) } :: u, by rw [h1]; simp [St.bump, St.emit], h0.trans h2, ⟨_, u, rfl, .inr (.inr ⟨hk, rfl, _, rfl, h3⟩)⟩, ?_⟩
      refine ⟨fun p hp => ?_, ?_, fun p hp hr => ?_⟩
      · rcases List.mem_cons.1 hp with rfl | hp
        · simp only; omega
        · have := h4.range p hp; rw [hnx] at this; simp only; omega
      · simp only [List.map_cons, List.nodup_cons]
        refine ⟨fun hm => ?_, h4.nd⟩
        obtain ⟨p, hp, he⟩ := List.mem_map.1 hm
        have := h4.range p hp
        rw [hnx] at this; omega
      · rcases List.mem_cons.1 hp with rfl | hp
        · rcases h2.new _ hr with h5 | h5
          · have := h.lt _ h5; simp only at this; omega
          · rw [hnx] at h5; simp only at h5; omega
        · exact h4.off p hp hr
    · rw [unisF_one s t ts hk]
      obtain ⟨h0, i, hi, hs⟩ := adv_one 5 6 7 h t hk
      obtain ⟨u, h1, h2, h3, h4⟩ := unis_shp ts _ h0.ok
      refine ⟨i :: u, by rw [h1, hi]; simp, h0.trans h2, ⟨i, u, rfl, ?_⟩, ⟨fun p hp => ?_, h4.nd, h4.off⟩⟩
      · rcases hs with ⟨a, b, c⟩ | ⟨a, b, c⟩
        · exact .inl ⟨a, b, c, h3⟩
        · exact .inr (.inl ⟨a, b, h2.ext _ _ c, h3⟩)
      · have := h4.range p hp
        have := h0.next
        omega
/-- what a structure's parts' instructions are in a body -/
def ShpS (V : Int → Option Int) : List Tm → List In → List Int → Prop
  | [], u, _ => u = []
  | _ :: _, _, [] => False
  | t :: ts, u, x :: xs => ∃ i v, u = i :: v ∧ ((t.c0.kind = 2 ∧ i.op = 11 ∧ t.c0.n = i.n) ∨ (t.c0.kind = 1 ∧ (i.op = 9 ∨ i.op = 10) ∧ V t.c0.n = some i.x) ∨ (t.c0.kind = 3 ∧ i.op = 10 ∧ i.x = x)) ∧ ShpS V ts v xs
theorem sets_shp : ∀ (ts : List Tm) (xs : List Int) (s : St), xs.length = ts.length → SOk s → ∃ u, (setsF s ts xs).code = s.code ++ u ∧ Adv s (setsF s ts xs) ∧ ShpS (vr (setsF s ts xs)) ts u xs
  | [], [], s, _, h => ⟨[], by simp [setsF], Adv.refl h, rfl⟩
  | t :: ts, x :: xs, s, hl, h => by
    have hl' : xs.length = ts.length := by simpa using hl
    by_cases hk : t.c0.kind = 3
    · rw [setsF_fun _ _ _ _ _ hk]
      have h0 := adv_emit h { op := 10, x := x }
      obtain ⟨u, h1, h2, h3⟩ := sets_shp ts xs _ hl' h0.ok
      exact ⟨{ op := 10, x := x } :: u, by rw [h1]; simp [St.emit], h0.trans h2, _, u, rfl, .inr (.inr ⟨hk, rfl, rfl⟩), h3⟩
    · rw [setsF_one _ _ _ _ _ hk]
      obtain ⟨h0, i, hi, hs⟩ := adv_one 9 10 11 h t hk
      obtain ⟨u, h1, h2, h3⟩ := sets_shp ts xs _ hl' h0.ok
      refine ⟨i :: u, by rw [h1, hi]; simp, h0.trans h2, i, u, rfl, ?_, h3⟩
      rcases hs with ⟨a, b, c⟩ | ⟨a, b, c⟩
      · exact .inl ⟨a, b, c⟩
      · exact .inr (.inl ⟨a, b, h2.ext _ _ c⟩)
  | [], _ :: _, _, h, _ => by simp at h
  | _ :: _, [], _, h, _ => by simp at h

/-! ### reading -/
theorem readG_append : ∀ (a b : List In) (M : Rm), readG M (a ++ b) = readG (readG M a) b
  | [], _, _ => rfl
  | i :: a, b, M => readG_append a b _
/-- the same stands in a register -/
structure Lk (M M' : Rm) (r : Int) : Prop where
  same : lk M'.same r = lk M.same r
  ints : lk M'.ints r = lk M.ints r
  structs : lk M'.structs r = lk M.structs r
theorem Lk.refl (M : Rm) (r : Int) : Lk M M r := ⟨rfl, rfl, rfl⟩
theorem Lk.trans {M M' M'' : Rm} {r : Int} (h : Lk M M' r) (h' : Lk M' M'' r) : Lk M M'' r := ⟨h'.same.trans h.same, h'.ints.trans h.ints, h'.structs.trans h.structs⟩
structure Unset (M : Rm) (r : Int) : Prop where
  same : lk M.same r = none
  ints : lk M.ints r = none
  structs : lk M.structs r = none
theorem Unset.lk {M M' : Rm} {r : Int} (h : Unset M r) (h' : Lk M M' r) : Unset M' r := ⟨h'.same.trans h.same, h'.ints.trans h.ints, h'.structs.trans h.structs⟩
theorem read_parts : ∀ (us : List In) (M : Rm) (row : List In), lk M.structs M.opn = some row → 0 ≤ M.opn → (∀ i ∈ us, isPart i) →
    (readG M us).same = M.same ∧ (readG M us).ints = M.ints ∧ ∀ r, lk (readG M us).structs r = if M.opn = r then some (row ++ us) else lk M.structs r
  | [], M, row, h, _, _ => ⟨rfl, rfl, fun r => by
      split
      · rename_i hr; subst hr; simpa [readG] using h
      · rfl⟩
  | i :: us, M, row, h, h0, hp => by
    have hi := hp i (by simp)
    have hst : rdStep M i = { M with structs := pt M.structs M.opn (row ++ [i]) } := by
      have h' := hi
      unfold isPart at h'
      unfold rdStep
      rw [if_neg (by omega), if_neg (by omega), if_neg (by omega), if_pos ⟨hi, h0⟩, h]
      rfl
    have e : readG M (i :: us) = readG (rdStep M i) us := rfl
    rw [e, hst]
    obtain ⟨h1, h2, h3⟩ := read_parts us { M with structs := pt M.structs M.opn (row ++ [i]) } (row ++ [i]) (by simp only [lk_pt]; rw [if_pos trivial]) h0 fun x hx => hp x (by simp [hx])
    refine ⟨h1, h2, fun r => ?_⟩
    rw [h3]
    simp only [lk_pt]
    split
    · simp
    · rfl
theorem read_group (M : Rm) (i : In) (us : List In) (hi : i.op = 4 ∨ i.op = 8) (ha : 0 ≤ i.a) (hp : ∀ x ∈ us, isPart x) :
    (∀ r, i.a ≠ r → Lk M (readG M (i :: us)) r) ∧ (readG M (i :: us)).ints = M.ints ∧ lk (readG M (i :: us)).structs i.a = some (i :: us) := by
  have hst : rdStep M i = { M with structs := pt M.structs i.a [i], opn := i.a } := by
    unfold rdStep
    rw [if_neg (by omega), if_neg (by omega), if_pos hi]
  have e : readG M (i :: us) = readG (rdStep M i) us := rfl
  rw [e, hst]
  obtain ⟨h1, h2, h3⟩ := read_parts us { M with structs := pt M.structs i.a [i], opn := i.a } [i] (by simp only [lk_pt]; rw [if_pos trivial]) ha hp
  refine ⟨fun r hr => ⟨by rw [h1], by rw [h2], ?_⟩, h2, ?_⟩
  · rw [h3, if_neg hr]
    simp only [lk_pt]
    rw [if_neg hr]
  · rw [h3, if_pos rfl]; rfl

mutual
/-- a register holds a term -/
def Holds (M : Rm) (V : Int → Option Int) (B : Int) : Tm → Int → Prop
  | .v x, r => (0 ≤ r ∧ r < B) ∧ lk M.ints r = none ∧ lk M.structs r = none ∧ V x = some ((lk M.same r).getD r)
  | .i n, r => (0 ≤ r ∧ r < B) ∧ lk M.ints r = some n
  | .f nm ts, r => (0 ≤ r ∧ r < B) ∧ lk M.ints r = none ∧ ∃ h l, lk M.structs r = some (h :: l) ∧ h.name = nm ∧ h.n = ts.length ∧ PartsH M V B ts l
def PartsH (M : Rm) (V : Int → Option Int) (B : Int) : List Tm → List In → Prop
  | [], l => l = []
  | t :: ts, l => ∃ i l', l = i :: l' ∧ ((t.c0.kind = 2 ∧ (i.op = 7 ∨ i.op = 11) ∧ t.c0.n = i.n) ∨ (t.c0.kind ≠ 2 ∧ i.op ≠ 7 ∧ i.op ≠ 11 ∧ Holds M V B t i.x)) ∧ PartsH M V B ts l'
end
mutual
theorem Holds.mono {M M' : Rm} {V V' : Int → Option Int} {B B' : Int} (hM : ∀ r, 0 ≤ r → r < B → Lk M M' r) (hV : Ext V V') (hB : B ≤ B') : ∀ (t : Tm) (r : Int), Holds M V B t r → Holds M' V' B' t r
  | .v x, r, h => by
    rw [Holds] at h ⊢
    obtain ⟨h1, h2, h3, h4⟩ := h
    have hl := hM r h1.1 h1.2
    exact ⟨⟨h1.1, by omega⟩, hl.ints.trans h2, hl.structs.trans h3, by rw [hl.same]; exact hV _ _ h4⟩
  | .i n, r, h => by
    rw [Holds] at h ⊢
    exact ⟨⟨h.1.1, by omega⟩, (hM r h.1.1 h.1.2).ints.trans h.2⟩
  | .f nm ts, r, h => by
    rw [Holds] at h ⊢
    obtain ⟨h1, h2, hd, l, h3, h4, h5, h6⟩ := h
    have hl := hM r h1.1 h1.2
    exact ⟨⟨h1.1, by omega⟩, hl.ints.trans h2, hd, l, hl.structs.trans h3, h4, h5, PartsH.mono hM hV hB ts l h6⟩
theorem PartsH.mono {M M' : Rm} {V V' : Int → Option Int} {B B' : Int} (hM : ∀ r, 0 ≤ r → r < B → Lk M M' r) (hV : Ext V V') (hB : B ≤ B') : ∀ (ts : List Tm) (l : List In), PartsH M V B ts l → PartsH M' V' B' ts l
  | [], l, h => h
  | t :: ts, l, h => by
    rw [PartsH] at h ⊢
    obtain ⟨i, l', h1, h2, h3⟩ := h
    refine ⟨i, l', h1, ?_, PartsH.mono hM hV hB ts l' h3⟩
    rcases h2 with h2 | ⟨a, b, c, d⟩
    · exact .inl h2
    · exact .inr ⟨a, b, c, Holds.mono hM hV hB t _ d⟩
end
theorem kinds (t : Tm) : t.c0.kind = 1 ∨ t.c0.kind = 2 ∨ t.c0.kind = 3 := by cases t <;> simp [Tm.c0]
theorem holds_var {M : Rm} {V : Int → Option Int} {B q : Int} {t : Tm} (hk : t.c0.kind = 1) (hV : V t.c0.n = some q) (hu : Unset M q) (h0 : 0 ≤ q) (hB : q < B) : Holds M V B t q := by
  cases t with
  | v x => rw [Holds]; exact ⟨⟨h0, hB⟩, hu.ints, hu.structs, by rw [hu.same]; exact hV⟩
  | i n => simp [Tm.c0] at hk
  | f nm us => simp [Tm.c0] at hk
theorem shp_parts {M : Rm} {V V' : Int → Option Int} {B : Int} (hV : Ext V V') (hun : ∀ x q, V' x = some q → Unset M q ∧ 0 ≤ q ∧ q < B) : ∀ (ts : List Tm) (u : List In) (add : List (Tm × Int)), Shp V ts u add → (∀ p ∈ add, Holds M V' B p.1 p.2) → PartsH M V' B ts u
  | [], u, add, h, _ => by rw [PartsH]; exact h.1
  | t :: ts, u, add, ⟨i, v, hu, hs⟩, ha => by
    rw [PartsH]
    rcases hs with ⟨h1, h2, h3, h4⟩ | ⟨h1, h2, h3, h4⟩ | ⟨h1, h2, rest, h3, h4⟩
    · exact ⟨i, v, hu, .inl ⟨h1, .inl h2, h3⟩, shp_parts hV hun ts v add h4 ha⟩
    · obtain ⟨k1, k2, k3⟩ := hun _ _ (hV _ _ h3)
      exact ⟨i, v, hu, .inr ⟨by omega, by omega, by omega, holds_var h1 (hV _ _ h3) k1 k2 k3⟩, shp_parts hV hun ts v add h4 ha⟩
    · subst h3
      exact ⟨i, v, hu, .inr ⟨by omega, by omega, by omega, ha (t, i.x) (by simp)⟩, shp_parts hV hun ts v rest h4 fun p hp => ha p (by simp [hp])⟩
theorem shps_parts {M : Rm} {V : Int → Option Int} {B : Int} (hun : ∀ x q, V x = some q → Unset M q ∧ 0 ≤ q ∧ q < B) : ∀ (ts : List Tm) (u : List In) (xs : List Int), ShpS V ts u xs → (∀ (j : Nat) t x, ts[j]? = some t → xs[j]? = some x → t.c0.kind = 3 → Holds M V B t x) → PartsH M V B ts u
  | [], u, xs, h, _ => by rw [PartsH]; exact h
  | t :: ts, u, x :: xs, ⟨i, v, hu, hs, hr⟩, ha => by
    rw [PartsH]
    refine ⟨i, v, hu, ?_, shps_parts hun ts v xs hr fun j t' x' h1 h2 h3 => ha (j + 1) t' x' h1 h2 h3⟩
    rcases hs with ⟨h1, h2, h3⟩ | ⟨h1, h2, h3⟩ | ⟨h1, h2, h3⟩
    · exact .inl ⟨h1, .inr h2, h3⟩
    · obtain ⟨k1, k2, k3⟩ := hun _ _ h3
      exact .inr ⟨by omega, by omega, by omega, holds_var h1 h3 k1 k2 k3⟩
    · exact .inr ⟨by omega, by omega, by omega, by rw [h3]; exact ha 0 t x rfl rfl h1⟩
theorem shp_part : ∀ (ts : List Tm) {V : Int → Option Int} {u : List In} {add : List (Tm × Int)}, Shp V ts u add → u.length = ts.length ∧ ∀ i ∈ u, isPart i
  | [], V, u, add, h => by rw [h.1]; simp
  | t :: ts, V, u, add, ⟨i, v, hu, hs⟩ => by
    subst hu
    have key : isPart i ∧ ∃ r, Shp V ts v r := by
      rcases hs with ⟨h1, h2, h3, h4⟩ | ⟨h1, h2, h3, h4⟩ | ⟨h1, h2, rest, h3, h4⟩
      · exact ⟨by unfold isPart; omega, _, h4⟩
      · exact ⟨by unfold isPart; omega, _, h4⟩
      · exact ⟨by unfold isPart; omega, _, h4⟩
    obtain ⟨k1, r, k2⟩ := key
    obtain ⟨h5, h6⟩ := shp_part ts k2
    refine ⟨by simp [h5], fun j hj => ?_⟩
    rcases List.mem_cons.1 hj with rfl | hj
    · exact k1
    · exact h6 j hj
theorem shps_part : ∀ (ts : List Tm) {V : Int → Option Int} {u : List In} {xs : List Int}, ShpS V ts u xs → u.length = ts.length ∧ ∀ i ∈ u, isPart i
  | [], V, u, xs, h => by cases xs <;> (rw [show u = [] from h]; simp)
  | t :: ts, V, u, x :: xs, ⟨i, v, hu, hs, hr⟩ => by
    subst hu
    obtain ⟨h5, h6⟩ := shps_part ts hr
    refine ⟨by simp [h5], fun j hj => ?_⟩
    rcases List.mem_cons.1 hj with rfl | hj
    · unfold isPart; omega
    · exact h6 j hj

/-! ### the head -/
structure HInv (s : St) (row : List (Tm × Int)) (M : Rm) : Prop where
  ok : SOk s
  nd : (row.map (·.2)).Nodup
  rlt : ∀ p ∈ row, 0 ≤ p.2 ∧ p.2 < s.next
  off : ∀ p ∈ row, p.2 ∉ s.regs
  unset : ∀ r, (∃ p ∈ row, p.2 = r) ∨ r ∈ s.regs ∨ (s.next : Int) ≤ r → Unset M r
/-- what a row's term leaves behind -/
def Left (M : Rm) (V : Int → Option Int) (p : Tm × Int) (add : List (Tm × Int)) : Prop :=
  (p.1.c0.kind = 1 ∧ lk M.ints p.2 = none ∧ lk M.structs p.2 = none ∧ ∃ q, V p.1.c0.n = some q ∧ lk M.same p.2 = some q) ∨ (p.1.c0.kind = 2 ∧ lk M.ints p.2 = some p.1.c0.n) ∨
  (p.1.c0.kind = 3 ∧ lk M.ints p.2 = none ∧ ∃ h l, lk M.structs p.2 = some (h :: l) ∧ h.name = p.1.c0.name ∧ h.n = p.1.args.length ∧ Shp V p.1.args l add)
theorem head_read {s : St} {p : Tm × Int} {row : List (Tm × Int)} {M : Rm} (h : HInv s (p :: row) M) : ∃ u, (headF s p).1.code = s.code ++ u ∧ HInv (headF s p).1 (row ++ (headF s p).2) (readG M u) ∧
    Adv s (headF s p).1 ∧ (∀ r, r ≠ p.2 → Lk M (readG M u) r) ∧ Left (readG M u) (vr (headF s p).1) p (headF s p).2 ∧ (∀ q ∈ (headF s p).2, (s.next : Int) ≤ q.2) := by
  have hpu := h.unset p.2 (.inl ⟨p, by simp, rfl⟩)
  have hplt := h.rlt p (by simp)
  have hpoff := h.off p (by simp)
  have hnd := h.nd
  simp only [List.map_cons, List.nodup_cons] at hnd
  -- what follows from the pieces
  have key : ∀ (s1 : St) (add : List (Tm × Int)) (M1 : Rm), Adv s s1 → RowNew s s1 add → (∀ r, r ≠ p.2 → Lk M M1 r) → HInv s1 (row ++ add) M1 := by
    intro s1 add M1 ha hrn hlk
    refine ⟨ha.ok, ?_, fun q hq => ?_, fun q hq hr => ?_, fun r hr => ?_⟩
    · rw [List.map_append, List.nodup_append]
      refine ⟨hnd.2, hrn.nd, fun a h1 b h2 hab => ?_⟩
      obtain ⟨q, hq, rfl⟩ := List.mem_map.1 h1
      obtain ⟨q', hq', rfl⟩ := List.mem_map.1 h2
      have := h.rlt q (by simp [hq])
      have := hrn.range q' hq'
      omega
    · rcases List.mem_append.1 hq with hq | hq
      · have := h.rlt q (by simp [hq]); have := ha.next; omega
      · have := hrn.range q hq; have := ha.next; omega
    · rcases List.mem_append.1 hq with hq | hq
      · rcases ha.new _ hr with h1 | h1
        · exact h.off q (by simp [hq]) h1
        · have := h.rlt q (by simp [hq]); omega
      · exact hrn.off q hq hr
    · have hold : ((∃ q ∈ p :: row, q.2 = r) ∨ r ∈ s.regs ∨ (s.next : Int) ≤ r) ∧ r ≠ p.2 := by
        rcases hr with ⟨q, hq, rfl⟩ | hr | hr
        · rcases List.mem_append.1 hq with hq | hq
          · exact ⟨.inl ⟨q, by simp [hq], rfl⟩, fun he => hnd.1 (List.mem_map.2 ⟨q, hq, he⟩)⟩
          · have := hrn.range q hq
            exact ⟨.inr (.inr this.1), by omega⟩
        · rcases ha.new _ hr with h1 | h1
          · exact ⟨.inr (.inl h1), fun he => hpoff (he ▸ h1)⟩
          · exact ⟨.inr (.inr h1), by omega⟩
        · have := ha.next
          exact ⟨.inr (.inr (by omega)), by omega⟩
      exact (h.unset r hold.1).lk (hlk r hold.2)
  obtain ⟨t, g⟩ := p
  simp only at hpu hplt hpoff key
  cases t with
  | v n =>
    obtain ⟨h1, h2⟩ := adv_reg h.ok n
    have ha := h1.trans (adv_emit h1.ok { op := if (regF s n).2.2 then 1 else 2, x := (regF s n).2.1, a := g })
    have hop : (if (regF s n).2.2 = true then (1 : Int) else 2) = 1 ∨ (if (regF s n).2.2 = true then (1 : Int) else 2) = 2 := by
      split
      · exact .inl rfl
      · exact .inr rfl
    have hst : readG M [{ op := if (regF s n).2.2 then 1 else 2, x := (regF s n).2.1, a := g }] = { M with same := pt M.same g (regF s n).2.1 } := by
      simp only [readG]
      unfold rdStep
      rw [if_pos hop]
    have hlk : ∀ r, r ≠ g → Lk M (readG M [{ op := if (regF s n).2.2 then 1 else 2, x := (regF s n).2.1, a := g }]) r := fun r hr => by
      rw [hst]
      exact ⟨by simp only [lk_pt]; rw [if_neg (fun he => hr he.symm)], rfl, rfl⟩
    refine ⟨[{ op := if (regF s n).2.2 then 1 else 2, x := (regF s n).2.1, a := g }], by simp only [headF, St.emit, regF_code], key _ [] _ ha (RowNew.nil _ _) hlk, ha, hlk, .inl ⟨rfl, ?_, ?_, (regF s n).2.1, h2, ?_⟩, by simp [headF]⟩
    · rw [hst]; exact hpu.ints
    · rw [hst]; exact hpu.structs
    · rw [hst]; simp only [lk_pt]; rw [if_pos trivial]
  | i n =>
    have ha := adv_emit h.ok { op := 3, a := g, n := n }
    have hst : readG M [{ op := 3, a := g, n := n }] = { M with ints := pt M.ints g n } := by
      simp only [readG]
      unfold rdStep
      rw [if_neg (by simp), if_pos rfl]
    have hlk : ∀ r, r ≠ g → Lk M (readG M [{ op := 3, a := g, n := n }]) r := fun r hr => by
      rw [hst]
      exact ⟨rfl, by simp only [lk_pt]; rw [if_neg (fun he => hr he.symm)], rfl⟩
    refine ⟨[{ op := 3, a := g, n := n }], rfl, key _ [] _ ha (RowNew.nil _ _) hlk, ha, hlk, .inr (.inl ⟨rfl, ?_⟩), by simp [headF]⟩
    rw [hst]; simp only [lk_pt]; rw [if_pos trivial]; rfl
  | f nm us =>
    rw [headF_fun s _ g rfl]
    have h0 := adv_emit h.ok { op := 4, a := g, name := (Tm.f nm us).c0.name, n := (Tm.f nm us).c0.n }
    obtain ⟨u, h1, h2, h3, h4⟩ := unis_shp (Tm.f nm us).args _ h0.ok
    obtain ⟨k1, k2⟩ := shp_part _ h3
    obtain ⟨g1, g2, g3⟩ := read_group M { op := 4, a := g, name := (Tm.f nm us).c0.name, n := (Tm.f nm us).c0.n } u (.inl rfl) hplt.1 k2
    have hlk : ∀ r, r ≠ g → Lk M (readG M ({ op := 4, a := g, name := (Tm.f nm us).c0.name, n := (Tm.f nm us).c0.n } :: u)) r := fun r hr => g1 r fun he => hr he.symm
    refine ⟨_ :: u, by rw [h1]; simp [St.emit], key _ _ _ (h0.trans h2) ⟨h4.range, h4.nd, h4.off⟩ hlk, h0.trans h2, hlk, .inr (.inr ⟨rfl, ?_, _, u, g3, rfl, rfl, h3⟩), fun q hq => (h4.range q hq).1⟩
    rw [g2]; exact hpu.ints
theorem heads_read : ∀ (f : Nat) (s : St) (row : List (Tm × Int)) (M : Rm), rsz row ≤ f → HInv s row M → ∃ u, (headsF f s row).code = s.code ++ u ∧ HInv (headsF f s row) [] (readG M u) ∧ Adv s (headsF f s row) ∧
    (∀ r : Int, r < s.next → (∀ p ∈ row, p.2 ≠ r) → Lk M (readG M u) r) ∧ (∀ p ∈ row, Holds (readG M u) (vr (headsF f s row)) (headsF f s row).next p.1 p.2)
  | 0, s, p :: row, M, hf, _ => by have := p.1.size_pos; simp only [rsz] at hf; omega
  | f, s, [], M, _, h => by
    rw [headsF_nil]
    exact ⟨[], by simp, h, Adv.refl h.ok, fun r _ _ => Lk.refl _ _, by simp⟩
  | f + 1, s, p :: row, M, hf, h => by
    rw [headsF_cons]
    have hrz := headF_rsz s p
    obtain ⟨u, c1, i1, a1, l1, left, nw⟩ := head_read h
    obtain ⟨v, c2, i2, a2, l2, hh⟩ := heads_read f (headF s p).1 (row ++ (headF s p).2) (readG M u) (by rw [rsz_append]; simp only [rsz] at hf; omega) i1
    have hnd := h.nd
    simp only [List.map_cons, List.nodup_cons] at hnd
    have hplt := h.rlt p (by simp)
    have hle1 := a1.next
    have hle2 := a2.next
    refine ⟨u ++ v, by rw [c2, c1, List.append_assoc], by rw [readG_append]; exact i2, a1.trans a2, fun r hr hne => ?_, fun q hq => ?_⟩
    · rw [readG_append]
      refine (l1 r fun he => hne p (by simp) he.symm).trans (l2 r (by omega) fun q hq => ?_)
      rcases List.mem_append.1 hq with hq | hq
      · exact hne q (by simp [hq])
      · have := nw q hq; omega
    · rw [readG_append]
      rcases List.mem_cons.1 hq with rfl | hq
      · have hl := l2 q.2 (by omega) fun q' hq' => by
          rcases List.mem_append.1 hq' with hq' | hq'
          · exact fun he => hnd.1 (List.mem_map.2 ⟨q', hq', he⟩)
          · have := nw q' hq'; omega
        have hr : 0 ≤ q.2 ∧ q.2 < (headsF f (headF s q).1 (row ++ (headF s q).2)).next := ⟨hplt.1, by omega⟩
        obtain ⟨t, g⟩ := q
        simp only at hl hr left ⊢
        rcases left with ⟨k1, k2, k3, x, k4, k5⟩ | ⟨k1, k2⟩ | ⟨k1, k2, hd, l, k3, k4, k5, k6⟩
        · cases t with
          | v n => rw [Holds]; exact ⟨hr, hl.ints.trans k2, hl.structs.trans k3, by rw [hl.same, k5]; exact a2.ext _ _ k4⟩
          | i n => simp [Tm.c0] at k1
          | f nm us => simp [Tm.c0] at k1
        · cases t with
          | v n => simp [Tm.c0] at k1
          | i n => rw [Holds]; exact ⟨hr, hl.ints.trans k2⟩
          | f nm us => simp [Tm.c0] at k1
        · cases t with
          | v n => simp [Tm.c0] at k1
          | i n => simp [Tm.c0] at k1
          | f nm us =>
            rw [Holds]
            refine ⟨hr, hl.ints.trans k2, hd, l, hl.structs.trans k3, k4, k5, ?_⟩
            refine shp_parts a2.ext (fun x q hx => ?_) us l _ k6 fun p hp => hh p (by simp [hp])
            have hm := vr_mem hx
            have := i2.ok.lt q hm
            exact ⟨i2.unset q (.inr (.inl hm)), this.1, by omega⟩
      · exact hh q (by simp [hq])

/-! ### the body -/
theorem inv_unset {s : St} {M : Rm} (h : HInv s [] M) : ∀ x q, vr s x = some q → Unset M q ∧ 0 ≤ q ∧ q < s.next := fun x q hx => by
  have hm := vr_mem hx
  have := h.ok.lt q hm
  exact ⟨h.unset q (.inr (.inl hm)), this.1, this.2⟩
theorem inv_emit {s : St} {M M' : Rm} (h : HInv s [] M) (i : In) (hl : ∀ r, Lk M M' r) : HInv (s.emit i) [] M' := ⟨(adv_emit h.ok i).ok, by simp, by simp, by simp, fun r hr => (h.unset r hr).lk (hl r)⟩
mutual
theorem build_read : ∀ (t : Tm) (s : St) (M : Rm), HInv s [] M → ∃ u, (buildF s t).1.code = s.code ++ u ∧ HInv (buildF s t).1 [] (readG M u) ∧ Adv s (buildF s t).1 ∧ (∀ r : Int, r < s.next → Lk M (readG M u) r) ∧
    (t.c0.kind = 3 → Holds (readG M u) (vr (buildF s t).1) (buildF s t).1.next t (buildF s t).2)
  | .v n, s, M, h => ⟨[], by simp [buildF], h, Adv.refl h.ok, fun r _ => Lk.refl _ _, fun hk => by simp [Tm.c0] at hk⟩
  | .i n, s, M, h => ⟨[], by simp [buildF], h, Adv.refl h.ok, fun r _ => Lk.refl _ _, fun hk => by simp [Tm.c0] at hk⟩
  | .f nm us, s, M, h => by
    obtain ⟨u, c1, i1, a1, l1, hh⟩ := args_read us s M h
    rw [buildF_fun s _ rfl]
    simp only [Tm.args]
    obtain ⟨s1, hs1⟩ : ∃ s1, (argsF s us).1 = s1 := ⟨_, rfl⟩
    obtain ⟨xs, hxs⟩ : ∃ xs, (argsF s us).2 = xs := ⟨_, rfl⟩
    have hlen := argsF_len us s
    rw [hs1] at c1 i1 a1 hh ⊢
    rw [hxs] at hh hlen ⊢
    have a0 := (adv_bump i1.ok).trans (adv_emit (adv_bump i1.ok).ok { op := 8, a := (s1.next : Int), name := (Tm.f nm us).c0.name, n := (Tm.f nm us).c0.n })
    obtain ⟨v, c2, a2, sh⟩ := sets_shp us xs _ hlen a0.ok
    obtain ⟨k1, k2⟩ := shps_part _ sh
    obtain ⟨g1, g2, g3⟩ := read_group (readG M u) { op := 8, a := (s1.next : Int), name := (Tm.f nm us).c0.name, n := (Tm.f nm us).c0.n } v (.inr rfl) (by simp) k2
    simp only at g1 g3
    have hnx : (s1.bump.emit { op := 8, a := (s1.next : Int), name := (Tm.f nm us).c0.name, n := (Tm.f nm us).c0.n }).next = s1.next + 1 := rfl
    have hrg : (s1.bump.emit { op := 8, a := (s1.next : Int), name := (Tm.f nm us).c0.name, n := (Tm.f nm us).c0.n }).regs = s1.regs := rfl
    have hle := a2.next
    have hle1 := a1.next
    have hnew := a2.new
    rw [hnx] at hle hnew
    rw [hrg] at hnew
    have i3 : HInv (setsF (s1.bump.emit { op := 8, a := (s1.next : Int), name := (Tm.f nm us).c0.name, n := (Tm.f nm us).c0.n }) us xs) [] (readG (readG M u) ({ op := 8, a := (s1.next : Int), name := (Tm.f nm us).c0.name, n := (Tm.f nm us).c0.n } :: v)) := by
      refine ⟨a2.ok, by simp, by simp, by simp, fun r hr => ?_⟩
      have hold : (r ∈ s1.regs ∨ (s1.next : Int) ≤ r) ∧ (s1.next : Int) ≠ r := by
        rcases hr with ⟨q, hq, _⟩ | hr | hr
        · simp at hq
        · rcases hnew r hr with h1 | h1
          · have := i1.ok.lt r h1
            exact ⟨.inl h1, by omega⟩
          · exact ⟨.inr (by omega), by omega⟩
        · exact ⟨.inr (by omega), by omega⟩
      exact (i1.unset r (.inr hold.1)).lk (g1 r hold.2)
    have hu1 := i1.unset (s1.next : Int) (.inr (.inr (Int.le_refl _)))
    refine ⟨u ++ ({ op := 8, a := (s1.next : Int), name := (Tm.f nm us).c0.name, n := (Tm.f nm us).c0.n } :: v), by rw [c2]; simp [St.emit, St.bump, c1], by rw [readG_append]; exact i3, a1.trans (a0.trans a2), fun r hr => ?_, fun _ => ?_⟩
    · rw [readG_append]
      exact (l1 r hr).trans (g1 r (by omega))
    · rw [readG_append, Holds]
      refine ⟨⟨by simp, by omega⟩, by rw [g2]; exact hu1.ints, _, v, g3, rfl, rfl, ?_⟩
      refine shps_parts (inv_unset i3) us v xs sh fun j t x h1 h2 h3 => ?_
      exact Holds.mono (fun r _ hr => g1 r (by omega)) (fun y q hy => a2.ext y q (a0.ext y q hy)) (by omega) t x (hh j t x h1 h2 h3)
theorem args_read : ∀ (ts : List Tm) (s : St) (M : Rm), HInv s [] M → ∃ u, (argsF s ts).1.code = s.code ++ u ∧ HInv (argsF s ts).1 [] (readG M u) ∧ Adv s (argsF s ts).1 ∧ (∀ r : Int, r < s.next → Lk M (readG M u) r) ∧
    (∀ (j : Nat) t x, ts[j]? = some t → (argsF s ts).2[j]? = some x → t.c0.kind = 3 → Holds (readG M u) (vr (argsF s ts).1) (argsF s ts).1.next t x)
  | [], s, M, h => ⟨[], by simp [argsF], h, Adv.refl h.ok, fun r _ => Lk.refl _ _, fun j t x h1 => by simp at h1⟩
  | t :: ts, s, M, h => by
    rw [argsF_cons]
    obtain ⟨u, c1, i1, a1, l1, h1⟩ := build_read t s M h
    obtain ⟨v, c2, i2, a2, l2, h2⟩ := args_read ts (buildF s t).1 (readG M u) i1
    have hle := a1.next
    have hle2 := a2.next
    refine ⟨u ++ v, by rw [c2, c1, List.append_assoc], by rw [readG_append]; exact i2, a1.trans a2, fun r hr => by rw [readG_append]; exact (l1 r hr).trans (l2 r (by omega)), fun j t' x h3 h4 hk => ?_⟩
    rw [readG_append]
    cases j with
    | zero =>
      simp at h3 h4
      subst h3 h4
      exact Holds.mono (fun r _ hr => l2 r hr) a2.ext (by simp only; omega) _ _ (h1 hk)
    | succ j => exact h2 j t' x (by simpa using h3) (by simpa using h4) hk
end
/-- the calls hold the literals -/
def LitsH (M : Rm) (V : Int → Option Int) (B : Int) : List Ltl → List In → Prop
  | [], l => l = []
  | x :: ls, l => ∃ i l', l = i :: l' ∧ i.op = 12 ∧ i.neg = x.neg ∧ Holds M V B x.t i.a ∧ LitsH M V B ls l'
def calls (l : List In) : List In := l.filter fun i => i.op == 12
theorem calls_append (a b : List In) : calls (a ++ b) = calls a ++ calls b := by simp [calls]
theorem calls_none {l : List In} (h : ∀ i ∈ l, i.op ≠ 12) : calls l = [] := List.filter_eq_nil_iff.2 fun i hi => by simpa using h i hi
theorem body_read : ∀ (ls : List Ltl) (s : St) (M : Rm), HInv s [] M → (∀ l ∈ ls, l.t.c0.kind = 3) → ∃ u, (bodyF s ls).code = s.code ++ u ∧ HInv (bodyF s ls) [] (readG M u) ∧ Adv s (bodyF s ls) ∧ (∀ r : Int, r < s.next → Lk M (readG M u) r) ∧
    LitsH (readG M u) (vr (bodyF s ls)) (bodyF s ls).next ls (calls u)
  | [], s, M, h, _ => ⟨[], by simp [bodyF], h, Adv.refl h.ok, fun r _ => Lk.refl _ _, rfl⟩
  | l :: ls, s, M, h, hk => by
    rw [bodyF_cons']
    obtain ⟨u, c1, i1, a1, l1, h1⟩ := build_read l.t s M h
    have hl1 := h1 (hk l (by simp))
    obtain ⟨g, hg1, hg2⟩ := em_build l.t s
    have hug : u = g := by rw [c1] at hg1; exact List.append_cancel_left hg1
    have hstep : ∀ N : Rm, readG N [{ op := 12, a := (buildF s l.t).2, neg := l.neg }] = N := fun N => by
      simp only [readG]
      unfold rdStep isPart
      simp
    have i1' := inv_emit i1 { op := 12, a := (buildF s l.t).2, neg := l.neg } (fun r => Lk.refl (readG M u) r)
    have a0 := adv_emit i1.ok { op := 12, a := (buildF s l.t).2, neg := l.neg }
    obtain ⟨v, c2, i2, a2, l2, h2⟩ := body_read ls _ (readG M u) i1' fun x hx => hk x (by simp [hx])
    have hle := a1.next
    have hle2 := a2.next
    have hnx : ((buildF s l.t).1.emit { op := 12, a := (buildF s l.t).2, neg := l.neg }).next = (buildF s l.t).1.next := rfl
    rw [hnx] at hle2
    have hM : readG M (u ++ ({ op := 12, a := (buildF s l.t).2, neg := l.neg } :: v)) = readG (readG M u) v := by
      rw [readG_append]
      have : readG (readG M u) ([{ op := 12, a := (buildF s l.t).2, neg := l.neg }] ++ v) = readG (readG M u) v := by rw [readG_append, hstep]
      exact this
    refine ⟨u ++ ({ op := 12, a := (buildF s l.t).2, neg := l.neg } :: v), by rw [c2]; simp [St.emit, c1], by rw [hM]; exact i2, a1.trans (a0.trans a2), fun r hr => by rw [hM]; exact (l1 r hr).trans (l2 r (by rw [hnx]; omega)), ?_⟩
    rw [hM, calls_append, hug, calls_none fun i hi => (hg2.no12 i hi).1]
    have hc : calls ({ op := 12, a := (buildF s l.t).2, neg := l.neg } :: v) = { op := 12, a := (buildF s l.t).2, neg := l.neg } :: calls v := by simp [calls]
    rw [hc]
    refine ⟨_, calls v, rfl, rfl, rfl, ?_, by rw [← hug]; exact h2⟩
    rw [← hug]
    exact Holds.mono (fun r _ hr => l2 r (by rw [hnx]; exact hr)) a2.ext (by omega) _ _ hl1
theorem comp_read {c : Cls} (hk : ∀ l ∈ c.body, l.t.c0.kind = 3) : ∃ (V : Int → Option Int) (B : Int), (∀ x y q, V x = some q → V y = some q → x = y) ∧ (∀ (j : Nat) t, c.head.args[j]? = some t → Holds (readF (compF c)) V B t j) ∧ LitsH (readF (compF c)) V B c.body (calls (compF c)) := by
  have h0 : HInv (startF c.head) (numbered 0 c.head.args) ⟨[], [], [], -1⟩ := by
    refine ⟨⟨rfl, fun r hr => by simp [startF] at hr, by simp [startF]⟩, ?_, fun p hp => ?_, fun p hp => by simp [startF], fun r _ => ⟨rfl, rfl, rfl⟩⟩
    · have : ∀ (ts : List Tm) (j : Nat), ((numbered j ts).map (·.2)).Nodup ∧ ∀ p ∈ numbered j ts, (j : Int) ≤ p.2 := by
        intro ts
        induction ts with
        | nil => intro j; simp [numbered]
        | cons t ts ih =>
          intro j
          obtain ⟨h1, h2⟩ := ih (j + 1)
          simp only [numbered, List.map_cons, List.nodup_cons]
          refine ⟨⟨fun hm => ?_, h1⟩, fun p hp => ?_⟩
          · obtain ⟨p, hp, he⟩ := List.mem_map.1 hm
            have := h2 p hp; omega
          · rcases List.mem_cons.1 hp with rfl | hp
            · exact Int.le_refl _
            · have := h2 p hp; omega
      exact (this _ 0).1
    · have := numbered_mem hp
      simp [startF]; omega
  obtain ⟨u, c1, i1, a1, l1, h1⟩ := heads_read (sizes c.head.args) (startF c.head) (numbered 0 c.head.args) _ (by rw [rsz_numbered]; exact Nat.le_refl _) h0
  obtain ⟨v, c2, i2, a2, l2, h2⟩ := body_read c.body _ _ i1 hk
  have hcode : compF c = u ++ (v ++ [lastI c.head]) := by rw [compF, c2, c1]; simp [startF]
  have hlast : ∀ N : Rm, readG N [lastI c.head] = N := fun N => by
    simp only [readG]
    unfold rdStep isPart
    simp [lastI]
  have hM : readF (compF c) = readG (readG ⟨[], [], [], -1⟩ u) v := by rw [readF, hcode, readG_append, readG_append, hlast]
  obtain ⟨g, hg1, hg2⟩ := em_heads (sizes c.head.args) (startF c.head) (numbered 0 c.head.args)
  have hug : u = g := by rw [c1] at hg1; exact List.append_cancel_left hg1
  have hcalls : calls (compF c) = calls v := by
    rw [hcode, calls_append, calls_append, calls_none fun i hi => ((hug ▸ hg2).no12 i hi).1]
    simp [calls, lastI]
  refine ⟨vr (bodyF (headsF (sizes c.head.args) (startF c.head) (numbered 0 c.head.args)) c.body), _, fun x y q hx hy => vr_inj i2.ok hx hy, fun j t hj => ?_, by rw [hM, hcalls]; exact h2⟩
  have := h1 _ (numbered_get c.head.args 0 j t hj)
  simp only [Nat.zero_add] at this
  rw [hM]
  exact Holds.mono (fun r _ hr => l2 r hr) a2.ext (by have := a2.next; omega) _ _ this
end Go.Proofs.Ytdeaeiolehglaaa

/- The live questions of layer 10, in plain words. No program in sight. -/
namespace Go.Proofs.Ytdeaeiolehglaaa
open Go.RowKit

mutual
theorem flat_inj : ∀ (a b : Tm) (r r' : List C), a.flat ++ r = b.flat ++ r' → a = b ∧ r = r'
  | .v n, .v m, r, r', h => by simp [Tm.flat] at h; exact ⟨by rw [h.1], h.2⟩
  | .v n, .i m, r, r', h => by simp [Tm.flat] at h
  | .v n, .f s us, r, r', h => by simp [Tm.flat] at h
  | .i n, .v m, r, r', h => by simp [Tm.flat] at h
  | .i n, .i m, r, r', h => by simp [Tm.flat] at h; exact ⟨by rw [h.1], h.2⟩
  | .i n, .f s us, r, r', h => by simp [Tm.flat] at h
  | .f s us, .v m, r, r', h => by simp [Tm.flat] at h
  | .f s us, .i m, r, r', h => by simp [Tm.flat] at h
  | .f s us, .f s' us', r, r', h => by
    simp only [Tm.flat, List.cons_append, List.cons.injEq, C.mk.injEq, true_and] at h
    obtain ⟨⟨h1, h2⟩, h3⟩ := h
    obtain ⟨h4, h5⟩ := flats_inj us us' r r' (by omega) h3
    exact ⟨by rw [h1, h4], h5⟩
theorem flats_inj : ∀ (as_ bs : List Tm) (r r' : List C), as_.length = bs.length → flats as_ ++ r = flats bs ++ r' → as_ = bs ∧ r = r'
  | [], [], r, r', _, h => ⟨rfl, by simpa [flats] using h⟩
  | a :: as_, b :: bs, r, r', hl, h => by
    rw [flats_cons, flats_cons, List.append_assoc, List.append_assoc] at h
    obtain ⟨h1, h2⟩ := flat_inj a b _ _ h
    obtain ⟨h3, h4⟩ := flats_inj as_ bs r r' (by simpa using hl) h2
    exact ⟨by rw [h1, h3], h4⟩
  | [], b :: bs, r, r', hl, _ => by simp at hl
  | a :: as_, [], r, r', hl, _ => by simp at hl
end
theorem tm_inj {a b : Tm} (h : a.flat = b.flat) : a = b := (flat_inj a b [] [] (by simpa using h)).1
theorem lits_inj : ∀ (a b : List Ltl), a.map (fun l => (l.neg, l.t.flat)) = b.map (fun l => (l.neg, l.t.flat)) → a = b
  | [], [], _ => rfl
  | x :: a, y :: b, h => by
    simp only [List.map_cons, List.cons.injEq, Prod.mk.injEq] at h
    obtain ⟨⟨h1, h2⟩, h3⟩ := h
    have := tm_inj h2
    obtain ⟨n, t⟩ := x
    obtain ⟨n', t'⟩ := y
    simp only at h1 this
    rw [h1, this, lits_inj a b h3]
  | [], y :: b, h => by simp at h
  | x :: a, [], h => by simp at h
theorem IsCls.inj {c c' : Cls} {r : Raw} (h : IsCls c r) (h' : IsCls c' r) : c = c' := by
  obtain ⟨hd, bd⟩ := c
  obtain ⟨hd', bd'⟩ := c'
  have h1 := tm_inj (h.head.trans h'.head.symm)
  have h2 := lits_inj _ _ (h.body.trans h'.body.symm)
  simp only at h1 h2
  rw [h1, h2]
def nP : ByteArray := ⟨#[112]⟩
def nF : ByteArray := ⟨#[102]⟩
def nQ : ByteArray := ⟨#[113]⟩
def nG : ByteArray := ⟨#[103]⟩
def clsA : Cls := ⟨.f nP [.v 7, .f nF [.v 7]], []⟩
def clsA0 : Cls := ⟨.f nP [.v 0, .f nF [.v 0]], []⟩
def clsA1 : Cls := ⟨.f nP [.v 0, .f nF [.v 1]], []⟩
def clsB : Cls := ⟨.f nP [], [⟨true, .f nQ [.f nG [.i 1]]⟩]⟩
def want : List In := [{ op := 1, x := 2 }, { op := 4, a := 1, name := nF, n := 1 }, { op := 6, x := 2 }, { op := 13, name := nP, n := 2 }]
def want1 : List In := [{ op := 4, a := 1, name := nF, n := 1 }, { op := 6, x := 2 }, { op := 13, name := nP, n := 2 }]
def wmore : List In := [{ op := 8, name := nG, n := 1 }, { op := 11, n := 1 }, { op := 8, a := 1, name := nQ, n := 1 }, { op := 10 }, { op := 12, a := 1, neg := true }, { op := 13, name := nP }]
def lastW : In := { op := 13, name := nP, n := 2 }
def cellsF : List C := [⟨3, nP, 2⟩, ⟨1, ⟨#[]⟩, 7⟩, ⟨3, nF, 1⟩, ⟨1, ⟨#[]⟩, 7⟩]
def cellsQ : List C := [⟨3, nQ, 1⟩, ⟨3, nG, 1⟩, ⟨2, ⟨#[]⟩, 1⟩]
def cellsP : List C := [⟨3, nP, 0⟩]
def cellsA0 : List C := [⟨3, nP, 2⟩, ⟨1, ⟨#[]⟩, 0⟩, ⟨3, nF, 1⟩, ⟨1, ⟨#[]⟩, 0⟩]
def cellsA1 : List C := [⟨3, nP, 2⟩, ⟨1, ⟨#[]⟩, 0⟩, ⟨3, nF, 1⟩, ⟨1, ⟨#[]⟩, 1⟩]
theorem codeA : compF clsA = want := by kernel_rfl
theorem codeA0 : compF clsA0 = want := by kernel_rfl
theorem codeA1 : compF clsA1 ≠ want1 := by
  have h : compF clsA1 = [{ op := 1, x := 2, a := 0 }, { op := 4, a := 1, name := nF, n := 1 }, { op := 5, x := 3 }, { op := 13, name := nP, n := 2 }] := by kernel_rfl
  rw [h]
  intro he
  have := congrArg List.length he
  simp [want1] at this
theorem codeB : compF clsB = wmore := by kernel_rfl
theorem candA : candF want lastW = (cellsA0, []) := by kernel_rfl
theorem candA1 : candF want1 lastW = (cellsA1, []) := by kernel_rfl
theorem regsA : regsF 0 want = 3 := by kernel_rfl
theorem regsB : regsF 0 wmore = 2 := by kernel_rfl
theorem isA : IsCls clsA (cellsF, []) := ⟨by kernel_rfl, ⟨by kernel_rfl, by decide, by kernel_rfl⟩, rfl, by simp [clsA], by simp [clsA]⟩
theorem isA0 : IsCls clsA0 (cellsA0, []) := ⟨by kernel_rfl, ⟨by kernel_rfl, by decide, by kernel_rfl⟩, rfl, by simp [clsA0], by simp [clsA0]⟩
theorem isA1 : IsCls clsA1 (cellsA1, []) := ⟨by kernel_rfl, ⟨by kernel_rfl, by decide, by kernel_rfl⟩, rfl, by simp [clsA1], by simp [clsA1]⟩
theorem isB : IsCls clsB (cellsP, [(true, cellsQ)]) := ⟨by kernel_rfl, ⟨by kernel_rfl, by decide, by kernel_rfl⟩, by kernel_rfl, by
  intro l hl
  simp [clsB] at hl
  subst hl
  exact ⟨by kernel_rfl, by decide, by kernel_rfl⟩, by simp [clsB]⟩
theorem mayA : mayB (cellsF, []) = true := by kernel_rfl
theorem mayB' : mayB (cellsP, [(true, cellsQ)]) = true := by kernel_rfl
theorem mayN : mayB ([], []) = false := by kernel_rfl
theorem okA : okRegs want := by
  intro i hi
  simp [want] at hi
  rcases hi with rfl | rfl | rfl | rfl <;> simp
theorem okB : okRegs wmore := by
  intro i hi
  simp [wmore] at hi
  rcases hi with rfl | rfl | rfl | rfl | rfl | rfl <;> simp
end Go.Proofs.Ytdeaeiolehglaaa

/- Reading a clause's code back gives that clause, its variables numbered as they come. No program in sight. -/
namespace Go.Proofs.Ytdeaeiolehglaaa
open Go.RowKit

theorem varsA_ext (cs : List C) : ∀ acc : List Int, ∃ zs, varsA acc cs = acc ++ zs := by
  induction cs with
  | nil => intro acc; exact ⟨[], by simp [varsA_nil]⟩
  | cons c cs ih =>
    intro acc
    rw [varsA_step]
    split
    · obtain ⟨zs, h⟩ := ih (acc ++ [c.n])
      exact ⟨[c.n] ++ zs, by rw [h]; simp⟩
    · exact ih acc
theorem place_ext {l zs : List Int} {x : Int} (hn : (l ++ zs).Nodup) (hx : x ∈ l) : placeI (l ++ zs) x = placeI l x := by
  obtain ⟨i, hi⟩ := List.getElem?_of_mem hx
  have hl := (List.getElem?_eq_some_iff.1 hi).1
  have hn' : l.Nodup := (List.nodup_append.1 hn).1
  rw [place_get hn' hi, place_get hn (by rw [List.getElem?_append_left hl]; exact hi)]
theorem mem_varsA {t : List C} {acc : List Int} {x : Int} : x ∈ varsA acc t ↔ x ∈ acc ∨ ∃ c ∈ t, c.kind = 1 ∧ c.n = x := by
  rw [← inI_iff, vars_in]
  simp [inI]
/-- more variables behind do not turn what stands ahead -/
theorem turn_ext (t u : List C) (acc : List Int) (hn : acc.Nodup) : turnF (placeI (varsA (varsA acc t) u)) t = turnF (placeI (varsA acc t)) t := by
  refine turn_congr fun c hc hk => ?_
  obtain ⟨zs, hz⟩ := varsA_ext u (varsA acc t)
  have hnd := varsA_nodup u _ (varsA_nodup t _ hn)
  rw [hz] at hnd ⊢
  exact place_ext hnd (mem_varsA.2 (.inr ⟨c, hc, hk, rfl⟩))
theorem turn_append (f : Int → Int) (a b : List C) : turnF f (a ++ b) = turnF f a ++ turnF f b := by simp [turnF]
theorem len_pt {α : Type} : ∀ (l : List (Int × α)) (k : Int) (v : α), lk l k = none → (pt l k v).length = l.length + 1
  | [], _, _, _ => rfl
  | p :: l, k, v, h => by
    simp only [lk] at h
    simp only [pt]
    split
    · rename_i hp
      rw [if_pos hp] at h; cases h
    · rename_i hp
      rw [if_neg hp] at h
      simp [len_pt l k v h]

/-- numbers of variables that were met -/
structure Num (V : Int → Option Int) (xs : List Int) (v : Rv) : Prop where
  nd : xs.Nodup
  len : v.vars.length = xs.length
  get : ∀ x ∈ xs, ∃ q, V x = some q ∧ lk v.vars q = some (placeI xs x)
  only : ∀ q k, lk v.vars q = some k → ∃ x ∈ xs, V x = some q
/-- a reading -/
structure Got (V : Int → Option Int) (xs : List Int) (v : Rv) (cs : List C) (k : Nat) (r : Rv × List C) : Prop where
  num : Num V (varsA xs cs) r.1
  out : r.2 = turnF (placeI (varsA xs cs)) cs
  cells : r.1.cells ≤ v.cells + k
theorem Got.append {V : Int → Option Int} {xs : List Int} {v : Rv} {a b : List C} {j k : Nat} {r r' : Rv × List C} (hn : xs.Nodup) (h : Got V xs v a j r) (h' : Got V (varsA xs a) r.1 b k r') : Got V xs v (a ++ b) (j + k) (r'.1, r.2 ++ r'.2) := by
  refine ⟨by rw [varsA_append]; exact h'.num, ?_, by have := h.cells; have := h'.cells; simp only; omega⟩
  rw [varsA_append, turn_append, turn_ext a b xs hn, ← h.out, ← h'.out]
theorem num_tick {V : Int → Option Int} {xs : List Int} {v : Rv} (h : Num V xs v) : Num V xs (tick v) := ⟨h.nd, h.len, h.get, h.only⟩
theorem got_var {V : Int → Option Int} (hinj : ∀ x y q, V x = some q → V y = some q → x = y) {xs : List Int} {v : Rv} {x q : Int} (h : Num V xs v) (hq : V x = some q) : Got V xs v [⟨1, noName, x⟩] 1 (varF (tick v) q) := by
  have hstep : varsA xs [⟨1, noName, x⟩] = if inI xs x = false then xs ++ [x] else xs := by
    rw [varsA_step]
    simp [varsA_nil]
  have hturn : ∀ ys : List Int, turnF (placeI ys) [⟨1, noName, x⟩] = [⟨1, noName, placeI ys x⟩] := fun ys => by simp [turnF]
  unfold varF
  cases hl : lk (tick v).vars q with
  | some k =>
    obtain ⟨y, hy, hVy⟩ := h.only q k hl
    have hyx := hinj y x q hVy hq
    subst hyx
    obtain ⟨q', h1, h2⟩ := h.get y hy
    rw [hq] at h1; cases h1
    have hk : placeI xs y = k := by
      have : lk v.vars q = some k := hl
      rw [h2] at this; injection this
    have hin : inI xs y = true := (inI_iff xs y).2 hy
    have hv : varsA xs [⟨1, noName, y⟩] = xs := by rw [hstep, hin]; simp
    exact ⟨by rw [hv]; exact num_tick h, by rw [hv, hturn, hk], by simp [tick]⟩
  | none =>
    have hx : x ∉ xs := fun hx => by
      obtain ⟨q', h1, h2⟩ := h.get x hx
      rw [hq] at h1; cases h1
      have : lk v.vars q = none := hl
      rw [h2] at this; cases this
    have hin : inI xs x = false := by rw [← Bool.not_eq_true, inI_iff]; exact hx
    have hv : varsA xs [⟨1, noName, x⟩] = xs ++ [x] := by rw [hstep, hin]; simp
    have hnd : (xs ++ [x]).Nodup := by rw [← hv]; exact varsA_nodup _ _ h.nd
    have hpl : placeI (xs ++ [x]) x = xs.length := place_get hnd (by simp)
    refine ⟨?_, ?_, by simp [tick]⟩
    · rw [hv]
      refine ⟨hnd, ?_, fun y hy => ?_, fun r k hr => ?_⟩
      · simp only
        rw [len_pt _ _ _ hl]
        have := h.len
        simp [tick, this]
      · rcases List.mem_append.1 hy with hy | hy
        · obtain ⟨q', h1, h2⟩ := h.get y hy
          refine ⟨q', h1, ?_⟩
          simp only [lk_pt]
          rw [if_neg, place_ext hnd hy]
          · exact h2
          · rintro rfl
            exact hx (by rw [hinj x y q hq h1]; exact hy)
        · simp at hy; subst hy
          refine ⟨q, hq, ?_⟩
          simp only [lk_pt]
          rw [if_pos trivial, hpl]
          have := h.len
          simp [tick, this]
      · simp only [lk_pt] at hr
        split at hr
        · rename_i he; subst he
          exact ⟨x, by simp, hq⟩
        · obtain ⟨y, h1, h2⟩ := h.only r k hr
          exact ⟨y, by simp [h1], h2⟩
    · rw [hv, hturn, hpl]
      have := h.len
      simp [tick, this]
mutual
theorem term_read (M : Rm) {V : Int → Option Int} (hinj : ∀ x y q, V x = some q → V y = some q → x = y) {B : Int} : ∀ (t : Tm) (f : Nat) (r : Int) (xs : List Int) (v : Rv), Holds M V B t r → t.size ≤ f → v.cells + t.size ≤ 1809 → Num V xs v → Got V xs v t.flat t.size (termF M f v r)
  | t, 0, r, xs, v, _, hf, _, _ => by have := t.size_pos; omega
  | .v x, f + 1, r, xs, v, h, hf, hc, hn => by
    rw [Holds] at h
    obtain ⟨_, h2, h3, h4⟩ := h
    have e : (Tm.v x).size = 1 := rfl
    rw [e] at hc
    unfold termF
    rw [if_neg (by omega), h2, h3]
    exact got_var hinj hn h4
  | .i n, f + 1, r, xs, v, h, hf, hc, hn => by
    rw [Holds] at h
    have e : (Tm.i n).size = 1 := rfl
    rw [e] at hc
    unfold termF
    rw [if_neg (by omega), h.2]
    have hv : varsA xs (Tm.i n).flat = xs := by
      simp only [Tm.flat]
      rw [varsA_step, if_neg (by simp), varsA_nil]
    exact ⟨by rw [hv]; exact num_tick hn, by rw [hv]; simp [turnF, Tm.flat, noName], by simp [tick, e]⟩
  | .f nm ts, f + 1, r, xs, v, h, hf, hc, hn => by
    rw [Holds] at h
    obtain ⟨_, h2, hd, l, h3, h4, h5, h6⟩ := h
    have e : (Tm.f nm ts).size = 1 + sizes ts := rfl
    rw [e] at hc hf
    unfold termF
    rw [if_neg (by omega), h2, h3]
    have hr := parts_read M hinj ts f l xs (tick v) h6 (by omega) (by simp only [tick]; omega) (num_tick hn)
    have hfl : (Tm.f nm ts).flat = ⟨3, nm, ts.length⟩ :: flats ts := rfl
    have hv : varsA xs (Tm.f nm ts).flat = varsA xs (flats ts) := by rw [hfl, varsA_step, if_neg (by simp)]
    refine ⟨by rw [hv]; exact hr.num, ?_, ?_⟩
    · rw [hv, hfl]
      simp only
      rw [hr.out, h4, h5]
      simp [turnF]
    · have := hr.cells
      rw [e]
      simp only [tick] at this ⊢
      omega
theorem parts_read (M : Rm) {V : Int → Option Int} (hinj : ∀ x y q, V x = some q → V y = some q → x = y) {B : Int} : ∀ (ts : List Tm) (f : Nat) (l : List In) (xs : List Int) (v : Rv), PartsH M V B ts l → sizes ts ≤ f → v.cells + sizes ts ≤ 1809 → Num V xs v → Got V xs v (flats ts) (sizes ts) (restF (termF M f) v l)
  | [], f, l, xs, v, h, _, _, hn => by
    rw [PartsH] at h
    subst h
    exact ⟨by rw [flats_nil, varsA_nil]; exact hn, rfl, by simp [restF, sizes]⟩
  | t :: ts, f, l, xs, v, h, hf, hc, hn => by
    rw [PartsH] at h
    obtain ⟨i, l', rfl, h2, h3⟩ := h
    rw [sizes_cons] at hf hc ⊢
    rw [flats_cons]
    unfold restF
    rcases h2 with ⟨k1, k2, k3⟩ | ⟨k1, k2, k3, k4⟩
    · rw [if_pos k2]
      cases t with
      | v x => simp [Tm.c0] at k1
      | f nm us => simp [Tm.c0] at k1
      | i n =>
        simp only [Tm.c0] at k3
        have hv : varsA xs (Tm.i n).flat = xs := by
          simp only [Tm.flat]
          rw [varsA_step, if_neg (by simp), varsA_nil]
        have g1 : Got V xs v (Tm.i n).flat (Tm.i n).size (v, [⟨2, noName, i.n⟩]) := ⟨by rw [hv]; exact hn, by rw [hv, ← k3]; simp [turnF, Tm.flat, noName], by simp⟩
        have g2 := parts_read M hinj ts f l' xs v h3 (by omega) (by omega) hn
        exact g1.append hn.nd (by rw [hv]; exact g2)
    · rw [if_neg (by omega)]
      have g1 := term_read M hinj t f i.x xs v k4 (by omega) (by omega) hn
      have g2 := parts_read M hinj ts f l' _ (termF M f v i.x).1 h3 (by omega) (by have := g1.cells; omega) g1.num
      exact g1.append hn.nd g2
end
theorem head_got (M : Rm) {V : Int → Option Int} (hinj : ∀ x y q, V x = some q → V y = some q → x = y) {B : Int} : ∀ (ts : List Tm) (j : Nat) (xs : List Int) (v : Rv), (∀ (k : Nat) t, ts[k]? = some t → Holds M V B t ((j + k : Nat) : Int)) → v.cells + sizes ts ≤ 1809 → Num V xs v →
    Got V xs v (flats ts) (sizes ts) (headR M ts.length v j)
  | [], j, xs, v, _, _, hn => ⟨by rw [flats_nil, varsA_nil]; exact hn, rfl, by simp [headR]⟩
  | t :: ts, j, xs, v, h, hc, hn => by
    rw [sizes_cons] at hc ⊢
    rw [flats_cons, List.length_cons]
    unfold headR
    have h0 : Holds M V B t (j : Int) := by simpa using h 0 t rfl
    have g1 := term_read M hinj t 1810 j xs v h0 (by omega) (by omega) hn
    have g2 := head_got M hinj ts (j + 1) _ (termF M 1810 v j).1 (fun k t' hk => by
      have := h (k + 1) t' (by simpa using hk)
      rwa [show j + (k + 1) = j + 1 + k by omega] at this) (by have := g1.cells; omega) g1.num
    exact g1.append hn.nd g2
theorem bodyR_calls (M : Rm) : ∀ (l : List In) (v : Rv), bodyR M v l = bodyR M v (calls l)
  | [], v => rfl
  | i :: l, v => by
    by_cases hi : i.op = 12
    · have : calls (i :: l) = i :: calls l := by simp [calls, hi]
      rw [this, bodyR, bodyR, if_pos hi, if_pos hi, bodyR_calls M l]
    · have : calls (i :: l) = calls l := by simp [calls, hi]
      rw [this, bodyR, if_neg hi, bodyR_calls M l]
/-- the variables of literals, behind others -/
def varsL : List Int → List Ltl → List Int
  | xs, [] => xs
  | xs, l :: ls => varsL (varsA xs l.t.flat) ls
def lsizes : List Ltl → Nat
  | [] => 0
  | l :: ls => l.t.size + lsizes ls
theorem varsL_ext : ∀ (ls : List Ltl) (acc : List Int), acc.Nodup → ∃ zs, varsL acc ls = acc ++ zs ∧ (varsL acc ls).Nodup
  | [], acc, h => ⟨[], by simp [varsL], h⟩
  | l :: ls, acc, h => by
    obtain ⟨z1, h1⟩ := varsA_ext l.t.flat acc
    obtain ⟨z2, h2, h3⟩ := varsL_ext ls (varsA acc l.t.flat) (varsA_nodup _ _ h)
    exact ⟨z1 ++ z2, by rw [varsL, h2, h1, List.append_assoc], h3⟩
theorem turn_extL (t : List C) (ls : List Ltl) (acc : List Int) (hn : acc.Nodup) : turnF (placeI (varsL (varsA acc t) ls)) t = turnF (placeI (varsA acc t)) t := by
  refine turn_congr fun c hc hk => ?_
  obtain ⟨zs, hz, hnd⟩ := varsL_ext ls (varsA acc t) (varsA_nodup _ _ hn)
  rw [hz] at hnd ⊢
  exact place_ext hnd (mem_varsA.2 (.inr ⟨c, hc, hk, rfl⟩))
theorem body_got (M : Rm) {V : Int → Option Int} (hinj : ∀ x y q, V x = some q → V y = some q → x = y) {B : Int} : ∀ (ls : List Ltl) (l : List In) (xs : List Int) (v : Rv), LitsH M V B ls l → v.cells + lsizes ls ≤ 1809 → Num V xs v →
    (bodyR M v l).2 = ls.map fun x => (x.neg, turnF (placeI (varsL xs ls)) x.t.flat)
  | [], l, xs, v, h, _, hn => by
    rw [show l = [] from h]; rfl
  | x :: ls, l, xs, v, ⟨i, l', hl, h12, hneg, hh, hr⟩, hc, hn => by
    subst hl
    have e : lsizes (x :: ls) = x.t.size + lsizes ls := rfl
    rw [e] at hc
    rw [bodyR, if_pos h12]
    have g1 := term_read M hinj x.t 1810 i.a xs v hh (by omega) (by omega) hn
    have g2 := body_got M hinj ls l' _ (termF M 1810 v i.a).1 hr (by have := g1.cells; omega) g1.num
    simp only [List.map_cons]
    rw [g2, g1.out, hneg]
    simp only [varsL]
    rw [turn_extL _ _ _ hn.nd]
/-- a clause's variables, as they first stand in it -/
def numV (c : Cls) : List Int := varsL (varsF c.head.flat) c.body
/-- the clause with its variables numbered -/
def numC (c : Cls) : Raw := (turnF (placeI (numV c)) c.head.flat, c.body.map fun l => (l.neg, turnF (placeI (numV c)) l.t.flat))
theorem lsizes_le : ∀ (ls : List Ltl), (∀ l ∈ ls, l.t.size ≤ 200) → lsizes ls ≤ 200 * ls.length
  | [], _ => Nat.zero_le _
  | l :: ls, h => by
    have := lsizes_le ls fun x hx => h x (by simp [hx])
    have := h l (by simp)
    simp only [lsizes, List.length_cons]
    omega
/-- reading a clause's code back -/
theorem code_back {c : Cls} {r : Raw} (h : IsCls c r) : candF (compF c) (lastI c.head) = numC c := by
  obtain ⟨hh, ⟨hok, hsz, hk3⟩, hbody, hbok, hblen⟩ := h
  obtain ⟨V, B, hinj, h1, h2⟩ := comp_read (c := c) fun l hl => (hbok l hl).2.2
  have hs := size_args c.head
  have hl := lsizes_le c.body fun l hl => (hbok l hl).2.1
  have hnum : Num V [] ⟨[], 0⟩ := ⟨by simp, rfl, by simp, fun q k hq => by simp [lk] at hq⟩
  have g1 := head_got (readF (compF c)) hinj c.head.args 0 [] ⟨[], 0⟩ (fun k t hk => by simpa using h1 k t hk) (by simp only; omega) hnum
  have hn : (lastI c.head).n.toNat = c.head.args.length := by
    obtain ⟨nm, us, he⟩ := (c0_kind3 c.head).1 hk3
    rw [he]; simp [lastI, Tm.c0, Tm.args]
  have hc0 : c.head.c0 = ⟨3, (lastI c.head).name, (lastI c.head).n⟩ := by
    obtain ⟨nm, us, he⟩ := (c0_kind3 c.head).1 hk3
    rw [he]; rfl
  have hv : varsF c.head.flat = varsA [] (flats c.head.args) := by
    rw [varsF, flat_cons, varsA_step, if_neg (by rw [hk3]; simp)]
  unfold candF candG
  rw [hn, bodyR_calls]
  have g2 := body_got (readF (compF c)) hinj c.body _ _ (headR (readF (compF c)) c.head.args.length ⟨[], 0⟩ 0).1 h2 (by have := g1.cells; simp only at this; omega) g1.num
  rw [g2, g1.out]
  unfold numC numV
  rw [hv]
  congr 1
  rw [flat_cons]
  have : turnF (placeI (varsL (varsA [] (flats c.head.args)) c.body)) (c.head.c0 :: flats c.head.args) = c.head.c0 :: turnF (placeI (varsL (varsA [] (flats c.head.args)) c.body)) (flats c.head.args) := by
    simp [turnF, hk3]
  rw [this, turn_extL _ _ _ (by simp), ← hc0]
end Go.Proofs.Ytdeaeiolehglaaa

/- Clauses that differ in their variables' names alone have one code. No program in sight. -/
namespace Go.Proofs.Ytdeaeiolehglaaa
open Go.RowKit

mutual
def Tm.ren (f : Int → Int) : Tm → Tm
  | .v n => .v (f n)
  | .i n => .i n
  | .f s ts => .f s (rens f ts)
def rens (f : Int → Int) : List Tm → List Tm
  | [] => []
  | t :: ts => t.ren f :: rens f ts
end
mutual
def Tm.all (P : Int → Prop) : Tm → Prop
  | .v n => P n
  | .i _ => True
  | .f _ ts => alls P ts
def alls (P : Int → Prop) : List Tm → Prop
  | [] => True
  | t :: ts => t.all P ∧ alls P ts
end
theorem rens_cons (f : Int → Int) (t : Tm) (ts : List Tm) : rens f (t :: ts) = t.ren f :: rens f ts := rfl
theorem rens_len (f : Int → Int) : ∀ ts : List Tm, (rens f ts).length = ts.length
  | [] => rfl
  | t :: ts => by rw [rens_cons, List.length_cons, List.length_cons, rens_len f ts]
theorem ren_kind (f : Int → Int) (t : Tm) : (t.ren f).c0.kind = t.c0.kind := by cases t <;> rfl
theorem ren_args (f : Int → Int) (t : Tm) : (t.ren f).args = rens f t.args := by cases t <;> rfl
mutual
theorem ren_flat (f : Int → Int) : ∀ t : Tm, (t.ren f).flat = turnF f t.flat
  | .v n => rfl
  | .i n => rfl
  | .f s ts => by
    have := rens_flat f ts
    simp only [Tm.ren, Tm.flat, rens_len]
    rw [this]
    simp [turnF]
theorem rens_flat (f : Int → Int) : ∀ ts : List Tm, flats (rens f ts) = turnF f (flats ts)
  | [] => rfl
  | t :: ts => by rw [rens_cons, flats_cons, flats_cons, turn_append, ren_flat f t, rens_flat f ts]
end
mutual
theorem ren_size (f : Int → Int) : ∀ t : Tm, (t.ren f).size = t.size
  | .v n => rfl
  | .i n => rfl
  | .f s ts => by simp only [Tm.ren, Tm.size, rens_size f ts]
theorem rens_size (f : Int → Int) : ∀ ts : List Tm, sizes (rens f ts) = sizes ts
  | [] => rfl
  | t :: ts => by rw [rens_cons, sizes_cons, sizes_cons, ren_size f t, rens_size f ts]
end
mutual
theorem ren_ok {f : Int → Int} {P : Int → Prop} (hf : ∀ x, P x → 0 ≤ f x ∧ f x ≤ 999) : ∀ t : Tm, t.ok = true → t.all P → (t.ren f).ok = true
  | .v n, h, hp => by
    have := hf n hp
    simp [Tm.ren, Tm.ok, this.1, this.2]
  | .i n, h, hp => h
  | .f s ts, h, hp => by
    simp only [Tm.ren, Tm.ok, Bool.and_eq_true, rens_len] at h ⊢
    exact ⟨h.1, h.2.1, rens_ok hf ts h.2.2 hp⟩
theorem rens_ok {f : Int → Int} {P : Int → Prop} (hf : ∀ x, P x → 0 ≤ f x ∧ f x ≤ 999) : ∀ ts : List Tm, oks ts = true → alls P ts → oks (rens f ts) = true
  | [], _, _ => rfl
  | t :: ts, h, hp => by
    rw [rens_cons]
    rw [oks_cons, Bool.and_eq_true] at h ⊢
    exact ⟨ren_ok hf t h.1 hp.1, rens_ok hf ts h.2 hp.2⟩
end
mutual
theorem all_of {P : Int → Prop} : ∀ t : Tm, (∀ c ∈ t.flat, c.kind = 1 → P c.n) → t.all P
  | .v n, h => h ⟨1, ⟨#[]⟩, n⟩ (by simp [Tm.flat]) rfl
  | .i n, h => trivial
  | .f s ts, h => alls_of ts fun c hc hk => h c (by simp [Tm.flat, hc]) hk
theorem alls_of {P : Int → Prop} : ∀ ts : List Tm, (∀ c ∈ flats ts, c.kind = 1 → P c.n) → alls P ts
  | [], _ => trivial
  | t :: ts, h => ⟨all_of t fun c hc hk => h c (by rw [flats_cons]; simp [hc]) hk, alls_of ts fun c hc hk => h c (by rw [flats_cons]; simp [hc]) hk⟩
end
theorem alls_args {P : Int → Prop} {t : Tm} (h : t.all P) : alls P t.args := by cases t <;> first | trivial | exact h
/-- a state whose variables have other names -/
def St.mapV (f : Int → Int) (s : St) : St := { s with vars := s.vars.map f }
def PV (P : Int → Prop) (s : St) : Prop := ∀ x ∈ s.vars, P x
theorem idx_ren {f : Int → Int} {P : Int → Prop} (hinj : ∀ x y, P x → P y → f x = f y → x = y) {v : Int} (hv : P v) : ∀ (l : List Int) (k : Nat), (∀ x ∈ l, P x) → idxF (fun y => y == f v) k (l.map f) = idxF (fun y => y == v) k l
  | [], _, _ => rfl
  | x :: l, k, h => by
    rw [List.map_cons, idxF, idxF, idx_ren hinj hv l (k + 1) fun y hy => h y (by simp [hy])]
    have : (f x == f v) = (x == v) := by
      rw [Bool.eq_iff_iff]
      simp only [beq_iff_eq]
      exact ⟨fun he => hinj x v (h x (by simp)) hv he, fun he => by rw [he]⟩
    rw [this]
section
variable {f : Int → Int} {P : Int → Prop} (hinj : ∀ x y, P x → P y → f x = f y → x = y)
include hinj
theorem reg_ren (s : St) (v : Int) (hs : PV P s) (hv : P v) : regF (s.mapV f) (f v) = ((regF s v).1.mapV f, (regF s v).2) ∧ PV P (regF s v).1 := by
  have hp : placeI (s.vars.map f) (f v) = placeI s.vars v := idx_ren hinj hv s.vars 0 hs
  refine ⟨?_, ?_⟩
  · unfold regF
    simp only [St.mapV, hp]
    cases s.regs[(placeI s.vars v).toNat]? with
    | none => simp [St.bump, St.addv]
    | some r => cases decide (0 ≤ placeI s.vars v) <;> simp [St.bump, St.addv]
  · rcases regF_cases s v with ⟨r, _, he⟩ | he
    · rw [he]; exact hs
    · rw [he]
      intro x hx
      simp [St.addv, St.bump] at hx
      rcases hx with hx | rfl
      · exact hs x hx
      · exact hv
theorem one_ren (a b c : Int) (s : St) (t : Tm) (hs : PV P s) (ht : t.all P) : oneF a b c (s.mapV f) (t.ren f) = (oneF a b c s t).mapV f ∧ PV P (oneF a b c s t) := by
  cases t with
  | v n =>
    obtain ⟨h1, h2⟩ := reg_ren hinj s n hs ht
    simp only [Tm.ren, oneF, h1]
    exact ⟨rfl, h2⟩
  | i n => exact ⟨rfl, hs⟩
  | f nm us => exact ⟨rfl, hs⟩
omit hinj in
theorem emit_ren (s : St) (i : In) : (s.mapV f).emit i = (s.emit i).mapV f := rfl
def renP (f : Int → Int) (p : Tm × Int) : Tm × Int := (p.1.ren f, p.2)
theorem unis_ren : ∀ (ts : List Tm) (s : St), PV P s → alls P ts → unisF (s.mapV f) (rens f ts) = ((unisF s ts).1.mapV f, (unisF s ts).2.map (renP f)) ∧ PV P (unisF s ts).1 ∧ (∀ p ∈ (unisF s ts).2, p.1.all P)
  | [], s, hs, _ => ⟨rfl, hs, by simp [unisF]⟩
  | t :: ts, s, hs, ht => by
    rw [rens_cons]
    by_cases hk : t.c0.kind = 3
    · rw [unisF_fun s t ts hk, unisF_fun _ _ _ ((ren_kind f t).trans hk)]
      obtain ⟨h1, h2, h3⟩ := unis_ren ts (s.emit { op := 5, x := (s.next : Int) }).bump hs ht.2
      have e : ((s.mapV f).emit { op := 5, x := ((s.mapV f).next : Int) }).bump = (s.emit { op := 5, x := (s.next : Int) }).bump.mapV f := rfl
      rw [e, h1]
      refine ⟨rfl, h2, fun p hp => ?_⟩
      rcases List.mem_cons.1 hp with rfl | hp
      · exact ht.1
      · exact h3 p hp
    · rw [unisF_one s t ts hk, unisF_one _ _ _ (by rw [ren_kind]; exact hk)]
      obtain ⟨h1, h2⟩ := one_ren hinj 5 6 7 s t hs ht.1
      rw [h1]
      exact unis_ren ts _ h2 ht.2
theorem head_ren (s : St) (p : Tm × Int) (hs : PV P s) (hp : p.1.all P) : headF (s.mapV f) (renP f p) = ((headF s p).1.mapV f, (headF s p).2.map (renP f)) ∧ PV P (headF s p).1 ∧ (∀ q ∈ (headF s p).2, q.1.all P) := by
  obtain ⟨t, r⟩ := p
  cases t with
  | v n =>
    obtain ⟨h1, h2⟩ := reg_ren hinj s n hs hp
    simp only [renP, Tm.ren, headF, h1]
    exact ⟨rfl, h2, by simp⟩
  | i n => exact ⟨rfl, hs, by simp [headF]⟩
  | f nm us =>
    have e : renP f (.f nm us, r) = (.f nm (rens f us), r) := rfl
    rw [e, headF_fun s _ r rfl, headF_fun _ _ r rfl]
    have h := unis_ren hinj us (s.emit { op := 4, a := r, name := nm, n := us.length }) hs hp
    simp only [Tm.args, Tm.c0, rens_len]
    exact h
theorem heads_ren : ∀ (k : Nat) (s : St) (row : List (Tm × Int)), PV P s → (∀ p ∈ row, p.1.all P) → headsF k (s.mapV f) (row.map (renP f)) = (headsF k s row).mapV f ∧ PV P (headsF k s row)
  | 0, s, row, hs, _ => ⟨rfl, hs⟩
  | k + 1, s, [], hs, _ => ⟨rfl, hs⟩
  | k + 1, s, p :: row, hs, hr => by
    obtain ⟨h1, h2, h3⟩ := head_ren hinj s p hs (hr p (by simp))
    rw [List.map_cons, headsF_cons, headsF_cons, h1]
    have := heads_ren k (headF s p).1 (row ++ (headF s p).2) h2 fun q hq => (List.mem_append.1 hq).elim (fun h => hr q (by simp [h])) (h3 q)
    rw [List.map_append] at this
    exact this
theorem sets_ren : ∀ (ts : List Tm) (xs : List Int) (s : St), PV P s → alls P ts → setsF (s.mapV f) (rens f ts) xs = (setsF s ts xs).mapV f ∧ PV P (setsF s ts xs)
  | [], xs, s, hs, _ => by
    have h : ∀ s : St, setsF s [] xs = s := fun s => by cases xs <;> rfl
    have e : rens f [] = [] := rfl
    rw [e, h, h]; exact ⟨rfl, hs⟩
  | t :: ts, [], s, hs, _ => by
    have h : ∀ (s : St) (t : Tm) (ts : List Tm), setsF s (t :: ts) [] = s := fun s t ts => by cases t <;> rfl
    rw [rens_cons, h, h]; exact ⟨rfl, hs⟩
  | t :: ts, x :: xs, s, hs, ht => by
    rw [rens_cons]
    by_cases hk : t.c0.kind = 3
    · rw [setsF_fun _ _ _ _ _ hk, setsF_fun _ _ _ _ _ ((ren_kind f t).trans hk), emit_ren]
      exact sets_ren ts xs _ hs ht.2
    · rw [setsF_one _ _ _ _ _ hk, setsF_one _ _ _ _ _ (by rw [ren_kind]; exact hk)]
      obtain ⟨h1, h2⟩ := one_ren hinj 9 10 11 s t hs ht.1
      rw [h1]
      exact sets_ren ts xs _ h2 ht.2
end
mutual
theorem build_ren {f : Int → Int} {P : Int → Prop} (hinj : ∀ x y, P x → P y → f x = f y → x = y) : ∀ (t : Tm) (s : St), PV P s → t.all P → buildF (s.mapV f) (t.ren f) = ((buildF s t).1.mapV f, (buildF s t).2) ∧ PV P (buildF s t).1
  | .v n, s, hs, _ => ⟨rfl, hs⟩
  | .i n, s, hs, _ => ⟨rfl, hs⟩
  | .f nm us, s, hs, ht => by
    have e : (Tm.f nm us).ren f = .f nm (rens f us) := rfl
    obtain ⟨h1, h2⟩ := args_ren hinj us s hs ht
    rw [e, buildF_fun s _ rfl, buildF_fun _ _ rfl]
    simp only [Tm.args, Tm.c0, rens_len, h1]
    have h3 := sets_ren hinj us (argsF s us).2 ((argsF s us).1.bump.emit { op := 8, a := ((argsF s us).1.next : Int), name := nm, n := us.length }) h2 ht
    exact ⟨by rw [← h3.1]; rfl, h3.2⟩
theorem args_ren {f : Int → Int} {P : Int → Prop} (hinj : ∀ x y, P x → P y → f x = f y → x = y) : ∀ (ts : List Tm) (s : St), PV P s → alls P ts → argsF (s.mapV f) (rens f ts) = ((argsF s ts).1.mapV f, (argsF s ts).2) ∧ PV P (argsF s ts).1
  | [], s, hs, _ => ⟨rfl, hs⟩
  | t :: ts, s, hs, ht => by
    obtain ⟨h1, h2⟩ := build_ren hinj t s hs ht.1
    obtain ⟨h3, h4⟩ := args_ren hinj ts (buildF s t).1 h2 ht.2
    rw [rens_cons, argsF_cons, argsF_cons, h1]
    simp only
    rw [h3]
    exact ⟨rfl, h4⟩
end
section
variable {f : Int → Int} {P : Int → Prop} (hinj : ∀ x y, P x → P y → f x = f y → x = y)
include hinj
theorem body_ren : ∀ (ls : List Ltl) (s : St), PV P s → (∀ l ∈ ls, l.t.all P) → bodyF (s.mapV f) (ls.map fun l => ⟨l.neg, l.t.ren f⟩) = (bodyF s ls).mapV f
  | [], s, hs, _ => rfl
  | l :: ls, s, hs, h => by
    obtain ⟨h1, h2⟩ := build_ren hinj l.t s hs (h l (by simp))
    rw [List.map_cons, bodyF_cons', bodyF_cons']
    simp only
    rw [h1]
    simp only
    rw [emit_ren]
    exact body_ren ls _ h2 fun x hx => h x (by simp [hx])
end
def Cls.ren (f : Int → Int) (c : Cls) : Cls := ⟨c.head.ren f, c.body.map fun l => ⟨l.neg, l.t.ren f⟩⟩
theorem numbered_ren (f : Int → Int) : ∀ (ts : List Tm) (j : Nat), numbered j (rens f ts) = (numbered j ts).map (renP f)
  | [], _ => rfl
  | t :: ts, j => by rw [rens_cons, numbered, numbered, List.map_cons, numbered_ren f ts]; rfl
/-- a clause whose variables have other names has the same code -/
theorem comp_ren {f : Int → Int} {P : Int → Prop} (hinj : ∀ x y, P x → P y → f x = f y → x = y) (c : Cls) (hk : c.head.c0.kind = 3) (hh : c.head.all P) (hb : ∀ l ∈ c.body, l.t.all P) : compF (c.ren f) = compF c := by
  have hrow : ∀ p ∈ numbered 0 c.head.args, p.1.all P := fun p hp => by
    have hm := (numbered_mem hp).1
    have : ∀ ts : List Tm, alls P ts → p.1 ∈ ts → p.1.all P := by
      intro ts
      induction ts with
      | nil => intro _ h; simp at h
      | cons t ts ih =>
        intro h1 h2
        rcases List.mem_cons.1 h2 with rfl | h2
        · exact h1.1
        · exact ih h1.2 h2
    exact this _ (alls_args hh) hm
  have hs0 : PV P (startF c.head) := fun x hx => by simp [startF] at hx
  obtain ⟨h1, h2⟩ := heads_ren hinj (sizes c.head.args) (startF c.head) (numbered 0 c.head.args) hs0 hrow
  have e0 : startF (c.head.ren f) = (startF c.head).mapV f := by simp [startF, St.mapV, ren_args, rens_len]
  obtain ⟨nm, us, he⟩ := (c0_kind3 c.head).1 hk
  have hl : lastI (c.head.ren f) = lastI c.head := by
    rw [he]
    simp [lastI, Tm.ren, Tm.c0, rens_len]
  unfold compF Cls.ren
  simp only
  rw [e0, ren_args, rens_size, numbered_ren, h1, body_ren hinj c.body _ h2 hb, hl]
  rfl

/-! ### numbered clauses -/
theorem varsL_mem : ∀ (ls : List Ltl) (acc : List Int) (x : Int), x ∈ varsL acc ls ↔ x ∈ acc ∨ ∃ l ∈ ls, ∃ c ∈ l.t.flat, c.kind = 1 ∧ c.n = x
  | [], acc, x => by simp [varsL]
  | l :: ls, acc, x => by
    rw [varsL, varsL_mem ls, mem_varsA]
    constructor
    · rintro ((h | h) | ⟨l', h1, h2⟩)
      · exact .inl h
      · exact .inr ⟨l, by simp, h⟩
      · exact .inr ⟨l', by simp [h1], h2⟩
    · rintro (h | ⟨l', h1, h2⟩)
      · exact .inl (.inl h)
      · rcases List.mem_cons.1 h1 with rfl | h1
        · exact .inl (.inr h2)
        · exact .inr ⟨l', h1, h2⟩
theorem numV_mem (c : Cls) (x : Int) : x ∈ numV c ↔ (∃ d ∈ c.head.flat, d.kind = 1 ∧ d.n = x) ∨ ∃ l ∈ c.body, ∃ d ∈ l.t.flat, d.kind = 1 ∧ d.n = x := by
  rw [numV, varsL_mem, mem_vars]
theorem numV_nodup (c : Cls) : (numV c).Nodup := (varsL_ext c.body _ (varsF_nodup _)).choose_spec.2
theorem nodup_len : ∀ (k : Nat) (l : List Int), l.Nodup → (∀ x ∈ l, 0 ≤ x ∧ x < k) → l.length ≤ k
  | 0, l, _, h => by
    cases l with
    | nil => simp
    | cons x l => have := h x (by simp); omega
  | k + 1, l, hn, h => by
    have h1 := nodup_len k (l.erase (k : Int)) (hn.erase _) fun x hx => by
      have h2 := (List.Nodup.mem_erase_iff hn).1 hx
      have := h x h2.2
      have := h2.1
      omega
    have := List.length_erase (a := (k : Int)) (l := l)
    split at this <;> omega
theorem var_range {t : Tm} (h : t.ok = true) : t.all fun x => 0 ≤ x ∧ x ≤ 999 := by
  have key : ∀ N : Nat, (∀ t : Tm, t.size ≤ N → t.ok = true → t.all fun x => 0 ≤ x ∧ x ≤ 999) := by
    intro N
    induction N with
    | zero => intro t ht; have := t.size_pos; omega
    | succ N ih =>
      intro t ht ho
      cases t with
      | v n => simp [Tm.ok] at ho; exact ho
      | i n => trivial
      | f nm us =>
        have hall : ∀ ts : List Tm, sizes ts ≤ N → oks ts = true → alls (fun x => 0 ≤ x ∧ x ≤ 999) ts := by
          intro ts
          induction ts with
          | nil => intro _ _; trivial
          | cons u us ih2 =>
            intro h1 h2
            rw [sizes_cons] at h1
            rw [oks_cons, Bool.and_eq_true] at h2
            exact ⟨ih u (by omega) h2.1, ih2 (by omega) h2.2⟩
        exact hall us (by simp only [Tm.size] at ht; omega) (args_ok ho)
  exact key t.size t (Nat.le_refl _) h
mutual
theorem all_flat {P : Int → Prop} : ∀ t : Tm, t.all P → ∀ c ∈ t.flat, c.kind = 1 → P c.n
  | .v n, h, c, hc, hk => by simp [Tm.flat] at hc; subst hc; exact h
  | .i n, h, c, hc, hk => by simp [Tm.flat] at hc; subst hc; simp at hk
  | .f s ts, h, c, hc, hk => by
    simp only [Tm.flat, List.mem_cons] at hc
    rcases hc with rfl | hc
    · simp at hk
    · exact alls_flat ts h c hc hk
theorem alls_flat {P : Int → Prop} : ∀ ts : List Tm, alls P ts → ∀ c ∈ flats ts, c.kind = 1 → P c.n
  | [], _, c, hc, _ => by simp [flats] at hc
  | t :: ts, h, c, hc, hk => by
    rw [flats_cons, List.mem_append] at hc
    rcases hc with hc | hc
    · exact all_flat t h.1 c hc hk
    · exact alls_flat ts h.2 c hc hk
end
theorem numV_range {c : Cls} {r : Raw} (h : IsCls c r) : ∀ x ∈ numV c, 0 ≤ x ∧ x ≤ 999 := by
  intro x hx
  rcases (numV_mem c x).1 hx with ⟨d, h1, h2, rfl⟩ | ⟨l, hl, d, h1, h2, rfl⟩
  · exact all_flat _ (var_range h.hok.1) d h1 h2
  · exact all_flat _ (var_range (h.bok l hl).1) d h1 h2
theorem numV_place {c : Cls} {r : Raw} (h : IsCls c r) : ∀ x, x ∈ numV c → 0 ≤ placeI (numV c) x ∧ placeI (numV c) x ≤ 999 := by
  intro x hx
  have h1 := place_range (numV_nodup c) hx
  have h2 := nodup_len 1000 (numV c) (numV_nodup c) fun y hy => by have := numV_range h y hy; omega
  omega
def numCls (c : Cls) : Cls := c.ren (placeI (numV c))
theorem numCls_is {c : Cls} {r : Raw} (h : IsCls c r) : IsCls (numCls c) (numC c) := by
  have hp := numV_place h
  have hhead : c.head.all (· ∈ numV c) := all_of _ fun d hd hk => (numV_mem c _).2 (.inl ⟨d, hd, hk, rfl⟩)
  have hbody : ∀ l ∈ c.body, l.t.all (· ∈ numV c) := fun l hl => all_of _ fun d hd hk => (numV_mem c _).2 (.inr ⟨l, hl, d, hd, hk, rfl⟩)
  refine ⟨ren_flat _ _, ⟨ren_ok hp _ h.hok.1 hhead, by rw [numCls, Cls.ren]; simp only; rw [ren_size]; exact h.hok.2.1, (ren_kind _ _).trans h.hok.2.2⟩, ?_, ?_, ?_⟩
  · simp only [numCls, Cls.ren, numC, List.map_map]
    apply List.map_congr_left
    intro l _
    simp [ren_flat]
  · intro l hl
    simp only [numCls, Cls.ren] at hl
    obtain ⟨l', hl', rfl⟩ := List.mem_map.1 hl
    obtain ⟨h1, h2, h3⟩ := h.bok l' hl'
    exact ⟨ren_ok hp _ h1 (hbody l' hl'), by rw [ren_size]; exact h2, (ren_kind _ _).trans h3⟩
  · simp [numCls, Cls.ren]; exact h.len
theorem comp_num {c : Cls} {r : Raw} (h : IsCls c r) : compF (numCls c) = compF c :=
  comp_ren (P := (· ∈ numV c)) (fun x y hx hy => place_inj (numV_nodup c) x y hx hy) c h.hok.2.2 (all_of _ fun d hd hk => (numV_mem c _).2 (.inl ⟨d, hd, hk, rfl⟩)) (fun l hl => all_of _ fun d hd hk => (numV_mem c _).2 (.inr ⟨l, hl, d, hd, hk, rfl⟩))
theorem last_eq {u v : List In} {a b : In} (h : u ++ [a] = v ++ [b]) : a = b := by
  have := congrArg List.getLast? h
  simpa using this
/-- CodeAlike in plain words -/
theorem code_alike {a b : Cls} {r s : Raw} (ha : IsCls a r) (hb : IsCls b s) : compF a = compF b ↔ numC a = numC b := by
  constructor
  · intro h
    have hl : lastI a.head = lastI b.head := by
      unfold compF at h
      exact last_eq h
    rw [← code_back ha, ← code_back hb, h, hl]
  · intro h
    have h1 := numCls_is ha
    have h2 := numCls_is hb
    rw [h] at h1
    rw [← comp_num ha, ← comp_num hb, h1.inj h2]
end Go.Proofs.Ytdeaeiolehglaaa
