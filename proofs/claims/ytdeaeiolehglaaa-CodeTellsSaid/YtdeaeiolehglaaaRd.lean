/- What the reader keeps in memory. -/
import Derived.Test.YtdeaeiolehglaaaSpecR
import Derived.Test.YtdeaeiolehglaaaRB
set_option linter.unusedVariables false
set_option linter.unusedSimpArgs false
namespace Go.Proofs.Ytdeaeiolehglaaa
open Go.RowKit Go.Maps

def ivals (l : List (Int × Int)) : List (Int × Value) := l.map fun p => (p.1, .int .i64 p.2)
theorem look_ivals (l : List (Int × Int)) (k : Int) : look (ivals l) k = (lk l k).map (Value.int .i64) := by
  induction l with
  | nil => rfl
  | cons p r ih =>
    simp only [ivals, List.map_cons, look, lk]
    split
    · rfl
    · exact ih
theorem put_ivals (l : List (Int × Int)) (k v : Int) : putA (ivals l) k (.int .i64 v) = ivals (pt l k v) := by
  induction l with
  | nil => rfl
  | cons p r ih =>
    simp only [ivals, List.map_cons, putA, pt]
    split
    · rfl
    · rw [List.map_cons]; congr 1
theorem len_ivals (l : List (Int × Int)) : (ivals l).length = l.length := by simp [ivals]
/-- the rows of structures in memory -/
structure StR (w : World) (ml : List (Int × Value)) (l : List (Int × List In)) : Prop where
  len : ml.length = l.length
  rel : ∀ k, (look ml k = none ∧ lk l k = none) ∨ ∃ A n c row, look ml k = some (.slice A n c) ∧ lk l k = some row ∧ IsK w A n c row ∧ 0 < n
theorem StR.nil (w : World) : StR w [] [] := ⟨rfl, fun _ => .inl ⟨rfl, rfl⟩⟩
theorem StR.keep {w w' : World} {ml : List (Int × Value)} {l : List (Int × List In)} (h : StR w ml l) (hk : ∀ k A n c row, look ml k = some (.slice A n c) → 0 < n → IsK w A n c row → IsK w' A n c row) : StR w' ml l :=
  ⟨h.len, fun k => (h.rel k).imp id fun ⟨A, n, c, row, h1, h2, h3, h4⟩ => ⟨A, n, c, row, h1, h2, hk k A n c row h1 h4 h3, h4⟩⟩
theorem StR.below {w w' : World} {ml : List (Int × Value)} {l : List (Int × List In)} (h : StR w ml l) (hb : Below w.heap.size w w') : StR w' ml l := h.keep fun _ _ _ _ _ _ _ h => IsG.below keepsIn h hb
theorem pt_len {α β : Type} (ml : List (Int × α)) (l : List (Int × β)) (k : Int) (a : α) (b : β) : ml.length = l.length → (lk ml k).isSome = (lk l k).isSome → (pt ml k a).length = (pt l k b).length := by
  have key : ∀ {γ : Type} (m : List (Int × γ)) (x : γ), (pt m k x).length = if (lk m k).isSome then m.length else m.length + 1 := by
    intro γ m x
    induction m with
    | nil => rfl
    | cons p r ih =>
      simp only [pt, lk]
      split
      · rfl
      · rw [List.length_cons, ih]; split <;> simp
  intro h1 h2
  rw [key, key, h1, h2]
theorem look_lk (l : List (Int × Value)) (k : Int) : look l k = lk l k := by
  induction l with
  | nil => rfl
  | cons p r ih => simp only [look, lk]; split <;> simp_all
theorem putA_pt (l : List (Int × Value)) (k : Int) (v : Value) : putA l k v = pt l k v := by
  induction l with
  | nil => rfl
  | cons p r ih => simp only [putA, pt]; split <;> simp_all
theorem StR.put {w w' : World} {ml : List (Int × Value)} {l : List (Int × List In)} (h : StR w ml l) (k : Int) {A : Option Addr} {n c : Nat} {row : List In} (hnew : IsK w' A n c row) (hn : 0 < n)
    (hk : ∀ j A n c row, j ≠ k → look ml j = some (.slice A n c) → 0 < n → IsK w A n c row → IsK w' A n c row) : StR w' (putA ml k (.slice A n c)) (pt l k row) := by
  refine ⟨?_, fun j => ?_⟩
  · rw [putA_pt]
    refine pt_len _ _ _ _ _ h.len ?_
    rcases h.rel k with ⟨h1, h2⟩ | ⟨A', n', c', row', h1, h2, _, _⟩
    · rw [look_lk] at h1; rw [h1, h2]; rfl
    · rw [look_lk] at h1; rw [h1, h2]; rfl
  · rw [look_putA, lk_pt]
    by_cases hj : k = j
    · rw [if_pos hj, if_pos hj]
      exact .inr ⟨A, n, c, row, rfl, rfl, hnew, hn⟩
    · rw [if_neg hj, if_neg hj]
      exact (h.rel j).imp id fun ⟨A, n, c, row, h1, h2, h3, h4⟩ => ⟨A, n, c, row, h1, h2, hk j A n c row (fun he => hj he.symm) h1 h4 h3, h4⟩
theorem But.grown {w w' : World} {b : Nat} (h : w.grownBy w' (some b)) : But w w' b := ⟨h.os, h.tape, h.output, h.size, fun k hk hne => h.block k hk (by simpa using hne)⟩
/-- a row lies in no map's block -/
theorem Sl.offMap {w : World} {A : Option Addr} {size n c b : Nat} {xs : List Value} {es : Array MapEntry} {clock : Nat} (h : Sl w size A n c xs) (hs : 0 < size) (hb : w.heap[b]? = some (.map es clock)) : Off A n b := fun hn a ha => by
  obtain ⟨g, off, rfl, hlt, hc⟩ := h.cells hn
  cases ha
  intro he
  have hl := h.len
  have hpos : 0 < xs.length := by rw [hl]; exact Nat.mul_pos hn hs
  have h0 := hc 0 _ (List.getElem?_eq_getElem hpos)
  simp only at he
  subst he
  simp [World.cell?, hb] at h0
theorem IsG.offMap {α : Type} {Rl : World → α → List Value → Prop} {w : World} {A : Option Addr} {k n c b : Nat} {xs : List α} {es : Array MapEntry} {clock : Nat} (h : IsG Rl k w A n c xs) (hs : 0 < k) (hb : w.heap[b]? = some (.map es clock)) : Off A n b := by
  obtain ⟨vs, h1, h2, h3, h4⟩ := h.rows
  exact h3.offMap hs hb
theorem IsK.grown {w w' : World} {P : Program} {K : TypeId} {ml : List (Int × Value)} {A : Option Addr} {n c b : Nat} {xs : List In} (h : IsK w A n c xs) (hm : MapI P K w b ml) (hg : w.grownBy w' (some b)) : IsK w' A n c xs := by
  obtain ⟨es, clock, hb⟩ := hm.isMap
  exact h.but (fun _ _ _ _ h => h) (But.grown hg) (h.offMap (by omega) hb)
theorem IsG.far {α : Type} {Rl : World → α → List Value → Prop} {w w' : World} {T T' A : Option Addr} {k n c : Nat} {xs : List α} (hR : ∀ w w' x v, Rl w x v → Rl w' x v) (h : IsG Rl k w A n c xs) (hap : Apart w w' T T') (hf : Far T A n) : IsG Rl k w' A n c xs := by
  obtain ⟨vs, h1, h2, h3, h4⟩ := h.rows
  exact ⟨h.len, vs, h1, h2, h3.far hap hf, fun i x v hx hv => hR _ _ _ _ (h4 i x v hx hv)⟩
theorem IsG.farApp {α : Type} {Rl : World → α → List Value → Prop} {w w' : World} {T T' A : Option Addr} {k n c : Nat} {xs : List α} (h : IsG Rl k w A n c xs) (hap : Apart w w' T T') (hf : Far T A n) : Far T' A n := by
  obtain ⟨vs, h1, h2, h3, h4⟩ := h.rows
  exact hf.app hap h3
/-- the row that is open is the reader's own, and no other one's -/
def Opn (w : World) (base : Nat) (ml : List (Int × Value)) (l : List (Int × List In)) (opn : Int) : Prop :=
  0 ≤ opn → ∃ A n c row, look ml opn = some (.slice A n c) ∧ lk l opn = some row ∧ TailG RIn 6 w base 48 A n c row ∧ 0 < n ∧ (∀ k A' n' c', k ≠ opn → look ml k = some (.slice A' n' c') → Far A A' n')
theorem Opn.keep {w w' : World} {base : Nat} {ml : List (Int × Value)} {l : List (Int × List In)} {opn : Int} (h : Opn w base ml l opn) (hk : ∀ (g : Nat) (x : Array Value), w.heap[g]? = some (Obj.cells x 48 (0, 0)) → w'.heap[g]? = w.heap[g]?) : Opn w' base ml l opn := fun ho => by
  obtain ⟨A, n, c, row, h1, h2, ht, h4, h5⟩ := h ho
  refine ⟨A, n, c, row, h1, h2, ?_, h4, h5⟩
  obtain ⟨vs, v1, v2, v3, v4⟩ := ht.rows
  refine ⟨ht.len, vs, v1, v2, ⟨v3.len, v3.hcap, v3.hmax, v3.form.imp id fun ⟨g, off, cur, q1, q2, q3, r⟩ => ⟨g, off, cur, q1, q2, by rw [hk g cur q3]; exact q3, r⟩⟩, v4⟩
theorem tail_lit {w : World} {g base : Nat} {cs : Array Value} {t : TypeId} {size : Nat} (h : w.heap[g]? = some (.cells cs t (0, 0))) (hb : base ≤ g) (hl : cs.size = size) (hm : 1 ≤ maxLen) : Tail w base t size (some ⟨g, 0, none⟩) 1 1 cs.toList :=
  ⟨by simp [hl], Nat.le_refl _, hm, .inr ⟨g, 0, cs, rfl, hb, h, by simp [hl], by simp [List.take_of_length_le (by simp [hl] : cs.toList.length ≤ size)]⟩⟩
theorem run_map_get {P : Program} {K : TypeId} {w : World} {b : Nat} {l : List (Int × Value)} {t : TypeId} (e : TypeId) (hk : P.underlying K = some (.int .i64)) (ht : P.underlying t = some (.map K e))
    {z : Value} (hz : (zeroValue e).run P w = .ok z w) (h : MapI P K w b l) {k : Int} (hw : i64 k) {r : Value} (hr : (look l k).getD z = r) : (Instr.lookup t (.map (some b)) (.int .i64 k) false).run P w = .ok r w := by
  obtain ⟨D, h1, h2, h3, h4⟩ := h.has
  obtain ⟨v, ps, hrun, hv⟩ := h1.lookup (int_keyed hk) ht hz (zd := .held z) (zp := []) rfl (keyOf_int_mk hk (i64_wf hw))
  simp only [rawR, Option.some.injEq, Prod.mk.injEq] at hv
  have hv1 := hv.1
  rw [h4 k z hw] at hv1
  injection hv1 with hv1
  rw [hrun, hv1, hr]
section
variable {P : Program} {K : TypeId} {w : World} {b : Nat} {l : List (Int × Value)} {ops : Array Oper} {o : Oper} {a : Act} {Q : Exit → Act → World → Prop}
/-- 'm[k]' in a drawn region -/
theorem step_map_get {K' : Act → World → Prop} {E : Prop} (hwt : Region.wanted o (yielded ops a.tmps) = true) (m x : Operand) (t : TypeId) (hop : o.op = Op.lookup t m x false) (e : TypeId) (hk : P.underlying K = some (.int .i64)) (ht : P.underlying t = some (.map K e))
    {z : Value} (hz : (zeroValue e).run P w = .ok z w) (hm : a.eval m = .map (some b)) (h : MapI P K w b l) {k : Int} (hx : a.eval x = .int .i64 k) (hw : i64 k)
    (hK : K' (a.put o.dst ((look l k).getD z)) w) : if Region.wanted o (yielded ops a.tmps) = true then o.wp P a w K' Q else E := by
  obtain ⟨D, h1, h2, h3, h4⟩ := h.has
  obtain ⟨v, ps, hrun, hv⟩ := h1.lookup (int_keyed hk) ht hz (zd := .held z) (zp := []) rfl (keyOf_int_mk hk (i64_wf hw))
  simp only [rawR, Option.some.injEq, Prod.mk.injEq] at hv
  have hv1 := hv.1
  rw [h4 k z hw] at hv1
  injection hv1 with hv1
  subst hv1
  rw [if_pos hwt]
  unfold Oper.wp
  simp [execOp, hop, hm, hx, hrun, Result.andThen]
  exact hK
/-- 'len(m)' in a drawn region -/
theorem step_map_len {K' : Act → World → Prop} {E : Prop} (hwt : Region.wanted o (yielded ops a.tmps) = true) (m : Operand) (t : TypeId) (hop : o.op = Op.call { callee := Callee.builtin Builtin.len, args := #[m], argTypes := #[t] }) (e : TypeId) (ht : P.underlying t = some (.map K e))
    (hm : a.eval m = .map (some b)) (h : MapI P K w b l) (hK : K' (a.put o.dst (.int .i64 l.length)) w) : if Region.wanted o (yielded ops a.tmps) = true then o.wp P a w K' Q else E := by
  obtain ⟨D, h1, h2, h3, h4⟩ := h.has
  rw [if_pos hwt]
  unfold Oper.wp
  simp [execOp, hop, resolve, invoke, builtin, hm, h1.len ht o.type, Result.andThen]
  rw [h2]
  exact hK
end
/-- the reader -/
structure RdAt (w : World) (base br mv ms mq mi : Nat) (ml : List (Int × Value)) (M : Rm) (v : Rv) : Prop where
  blk : w.heap[br]? = some (.cells #[.map (some mv), .map (some ms), .map (some mq), .map (some mi), .int .i64 v.cells] 107 (0, 0))
  hv : MapI Try.prog 3 w mv (ivals v.vars)
  hs : MapI Try.prog 3 w ms ml
  hq : MapI Try.prog 3 w mq (ivals M.same)
  hi : MapI Try.prog 3 w mi (ivals M.ints)
  st : StR w ml M.structs
  low : base ≤ br ∧ base ≤ mv ∧ base ≤ ms ∧ base ≤ mq ∧ base ≤ mi
  ne : mv ≠ ms ∧ mv ≠ mq ∧ mv ≠ mi ∧ ms ≠ mq ∧ ms ≠ mi ∧ mq ≠ mi
theorem map_ne {P : Program} {K : TypeId} {w : World} {b g : Nat} {l : List (Int × Value)} {x : Array Value} {t : TypeId} (h : MapI P K w b l) (hg : w.heap[g]? = some (.cells x t (0, 0))) : g ≠ b := by
  rintro rfl
  obtain ⟨es, clock, hb⟩ := h.isMap
  rw [hg] at hb
  cases hb
theorem MapI.other {P : Program} {K : TypeId} {w w' : World} {b g : Nat} {l : List (Int × Value)} (h : MapI P K w b l) (hg : w.grownBy w' (some g)) (hne : b ≠ g) : MapI P K w' b l := h.block (hg.block b h.lt (by simpa using hne))
theorem RdAt.below {w w' : World} {base br mv ms mq mi : Nat} {ml : List (Int × Value)} {M : Rm} {v : Rv} (h : RdAt w base br mv ms mq mi ml M v) (hb : Below w.heap.size w w') : RdAt w' base br mv ms mq mi ml M v :=
  ⟨(hb.block br (block_lt h.blk)).trans h.blk, h.hv.below hb, h.hs.below hb, h.hq.below hb, h.hi.below hb, h.st.below hb, h.low, h.ne⟩
theorem RdAt.same {w w' : World} {base br mv ms mq mi : Nat} {ml : List (Int × Value)} {M : Rm} {v : Rv} {l' : List (Int × Int)} (h : RdAt w base br mv ms mq mi ml M v) (hg : w.grownBy w' (some mq)) (hq : MapI Try.prog 3 w' mq (ivals l')) : RdAt w' base br mv ms mq mi ml { M with same := l' } v :=
  ⟨(hg.block br (block_lt h.blk) (by simpa using map_ne h.hq h.blk)).trans h.blk, h.hv.other hg h.ne.2.1, h.hs.other hg h.ne.2.2.2.1, hq, h.hi.other hg (fun e => h.ne.2.2.2.2.2 e.symm), h.st.keep fun _ _ _ _ _ _ _ hk => hk.grown h.hq hg, h.low, h.ne⟩
theorem RdAt.ints {w w' : World} {base br mv ms mq mi : Nat} {ml : List (Int × Value)} {M : Rm} {v : Rv} {l' : List (Int × Int)} (h : RdAt w base br mv ms mq mi ml M v) (hg : w.grownBy w' (some mi)) (hq : MapI Try.prog 3 w' mi (ivals l')) : RdAt w' base br mv ms mq mi ml { M with ints := l' } v :=
  ⟨(hg.block br (block_lt h.blk) (by simpa using map_ne h.hi h.blk)).trans h.blk, h.hv.other hg h.ne.2.2.1, h.hs.other hg h.ne.2.2.2.2.1, h.hq.other hg h.ne.2.2.2.2.2, hq, h.st.keep fun _ _ _ _ _ _ _ hk => hk.grown h.hi hg, h.low, h.ne⟩
theorem RdAt.structs {w w' : World} {base br mv ms mq mi : Nat} {ml ml' : List (Int × Value)} {M : Rm} {v : Rv} {l' : List (Int × List In)} (opn : Int) (h : RdAt w base br mv ms mq mi ml M v) (hg : w.grownBy w' (some ms)) (hq : MapI Try.prog 3 w' ms ml') (hst : StR w' ml' l') : RdAt w' base br mv ms mq mi ml' { M with structs := l', opn := opn } v :=
  ⟨(hg.block br (block_lt h.blk) (by simpa using map_ne h.hs h.blk)).trans h.blk, h.hv.other hg h.ne.1, hq, h.hq.other hg (fun e => h.ne.2.2.2.1 e.symm), h.hi.other hg (fun e => h.ne.2.2.2.2.1 e.symm), hst, h.low, h.ne⟩
theorem RdAt.opn {w : World} {base br mv ms mq mi : Nat} {ml : List (Int × Value)} {M : Rm} {v : Rv} (opn : Int) (h : RdAt w base br mv ms mq mi ml M v) : RdAt w base br mv ms mq mi ml { M with opn := opn } v := ⟨h.blk, h.hv, h.hs, h.hq, h.hi, h.st, h.low, h.ne⟩
theorem Opn.map {P : Program} {K : TypeId} {w w' : World} {base b : Nat} {ml l0 : List (Int × Value)} {l : List (Int × List In)} {opn : Int} (h : Opn w base ml l opn) (hm : MapI P K w b l0) (hg : w.grownBy w' (some b)) : Opn w' base ml l opn := h.keep fun g x hx => hg.block g (block_lt hx) (by simpa using map_ne hm hx)
theorem RdAt.ms1 {w w1 : World} {base br mv ms mq mi : Nat} {ml : List (Int × Value)} {M : Rm} {v : Rv} {A A1 : Option Addr} (h : RdAt w base br mv ms mq mi ml M v) (hap : Apart w w1 A A1)
    (hA : ∀ a, A = some a → ∃ cur, w.heap[a.block]? = some (Obj.cells cur 48 (0, 0))) : MapI Try.prog 3 w1 ms ml ∧ w1.heap[br]? = w.heap[br]? := ⟨h.hs.block (hap.old ms h.hs.lt fun a ha he => by
    obtain ⟨cur, hc⟩ := hA a ha
    exact map_ne h.hs hc he), hap.old br (block_lt h.blk) fun a ha he => by
    obtain ⟨cur, hc⟩ := hA a ha
    rw [he, h.blk] at hc
    cases hc⟩
theorem RdAt.grow {w w1 w2 : World} {base br mv ms mq mi n1 c1 : Nat} {ml : List (Int × Value)} {M : Rm} {v : Rv} {A A1 : Option Addr} {row row1 : List In} {opn : Int} (h : RdAt w base br mv ms mq mi ml M v) (hap : Apart w w1 A A1)
    (hA : ∀ a, A = some a → ∃ cur, w.heap[a.block]? = some (Obj.cells cur 48 (0, 0))) (hbase : ∀ a, A = some a → base ≤ a.block) (hlk : lk M.structs opn = some row)
    (hfar : ∀ k A' n' c', k ≠ opn → look ml k = some (.slice A' n' c') → Far A A' n') (ht : TailG RIn 6 w1 base 48 A1 n1 c1 row1) (hbw : base ≤ w.heap.size) (h1 : 0 < n1) (hg2 : w1.grownBy w2 (some ms)) (hq2 : MapI Try.prog 3 w2 ms (putA ml opn (.slice A1 n1 c1))) :
    RdAt w2 base br mv ms mq mi (putA ml opn (.slice A1 n1 c1)) { M with structs := pt M.structs opn row1, opn := opn } v ∧ Opn w2 base (putA ml opn (.slice A1 n1 c1)) (pt M.structs opn row1) opn ∧ MapI Try.prog 3 w1 ms ml := by
  have hmap : ∀ {b : Nat} {l : List (Int × Value)}, MapI Try.prog 3 w b l → MapI Try.prog 3 w1 b l := fun {b l} hm => hm.block (hap.old b hm.lt fun a ha he => by
    obtain ⟨cur, hc⟩ := hA a ha
    exact map_ne hm hc he)
  have hm1 := hmap h.hs
  have hbr : w1.heap[br]? = w.heap[br]? := hap.old br (block_lt h.blk) fun a ha he => by
    obtain ⟨cur, hc⟩ := hA a ha
    rw [he, h.blk] at hc
    cases hc
  have htt : TailG RIn 6 w2 base 48 A1 n1 c1 row1 := ht.at_ (fun _ _ _ _ h => h) fun a ha => by
    obtain ⟨vs, v1, v2, v3, v4⟩ := ht.rows
    rcases v3.form with h0 | ⟨g, off, cur, q1, q2, q3, _⟩
    · have := v3.hcap; omega
    · rw [q1] at ha; cases ha
      exact hg2.block g (block_lt q3) (by simpa using map_ne hm1 q3)
  have hbr2 : w2.heap[br]? = some _ := (hg2.block br (block_lt (hbr.trans h.blk)) (by simpa using map_ne hm1 (hbr.trans h.blk))).trans (hbr.trans h.blk)
  refine ⟨⟨hbr2, (hmap h.hv).other hg2 h.ne.1, hq2, (hmap h.hq).other hg2 (fun e => h.ne.2.2.2.1 e.symm), (hmap h.hi).other hg2 (fun e => h.ne.2.2.2.2.1 e.symm), ?_, h.low, h.ne⟩, ?_, hm1⟩
  · exact h.st.put opn (htt.is (by omega)) h1 fun j A' n' c' row' hj hl hn hk => IsK.grown (IsG.far (fun _ _ _ _ h => h) hk hap (hfar j A' n' c' hj hl)) hm1 hg2
  · intro _
    refine ⟨A1, n1, c1, row1, by rw [look_putA, if_pos rfl], by rw [lk_pt, if_pos rfl], htt, h1, fun j A' n' c' hj hl => ?_⟩
    rw [look_putA, if_neg (fun e => hj e.symm)] at hl
    rcases h.st.rel j with ⟨q1, _⟩ | ⟨A2, n2, c2, row2, q1, q2, q3, q4⟩
    · rw [hl] at q1; cases q1
    · rw [hl] at q1
      injection q1 with q1
      injection q1 with e1 e2 e3
      subst e1 e2 e3
      exact IsG.farApp q3 hap (hfar j _ _ _ hj hl)
theorem zeroIs (w : World) : (zeroValue 26).run Try.prog w = .ok (.slice none 0 0) w := by kernel_rfl
end Go.Proofs.Ytdeaeiolehglaaa
