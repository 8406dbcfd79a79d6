/- Rows of bindings that grow, and a term that is got, whose cells are the call's own. -/
import Derived.Test.YtlndjooddkjnoaaLHOrder
import Derived.Test.YtlndjooddkjnoaaHG2
import Derived.Test.YtlndjooddkjnoaaHW1
import Derived.Test.YtlndjooddkjnoaaB7
set_option linter.unusedVariables false
set_option linter.unusedSimpArgs false
namespace Go.Proofs.Ytlndjooddkjnoaa
open Go.RowKit

mutual
/-- a variable's cell has no name -/
theorem flat_vname : ∀ (T : Tm) (c : C), c ∈ T.flat → c.kind = 1 → c.name = ⟨#[]⟩
  | .v m, c, h, _ => by simp [Tm.flat] at h; subst h; rfl
  | .i m, c, h, hk => by simp [Tm.flat] at h; subst h; simp at hk
  | .f s us, c, h, hk => by
    simp only [Tm.flat, List.mem_cons] at h
    rcases h with rfl | h
    · simp at hk
    · exact flats_vname us c h hk
theorem flats_vname : ∀ (us : List Tm) (c : C), c ∈ flats us → c.kind = 1 → c.name = ⟨#[]⟩
  | u :: us, c, h, hk => by
    rw [flats_cons] at h
    rcases List.mem_append.1 h with h | h
    · exact flat_vname u c h hk
    · exact flats_vname us c h hk
end
theorem infoBd : (Try.prog.info? 57).map (fun i => (i.zero, i.size, i.bytes)) = some (some (.agg #[.int .i64 0, .slice none 0 0]), 2, 32) := by kernel_rfl
/-- a binding whose term's cells are the call's own -/
def RBo (base : Nat) : World → Int × List C → List Value → Prop := fun w p v => ∃ A n c, v = [.int .i64 p.1, .slice A n c] ∧ w.ownsRow base 54 3 (.slice A n c) n (flatC p.2) ∧ (∀ x ∈ p.2, x.wf) ∧ i64 p.1
theorem keepsBo (base : Nat) : Keeps (RBo base) := fun _ _ _ _ ⟨A, n, c, h1, h2, h3⟩ hb => ⟨A, n, c, h1, own_below h2 hb, h3⟩
theorem RBo.bd {base : Nat} {w : World} {p : Int × List C} {v : List Value} (h : RBo base w p v) : RBd w p v := by
  obtain ⟨A, n, c, h1, h2, h3, h4⟩ := h
  exact ⟨A, n, c, h1, ⟨Sl.own h2 (by omega), h3⟩, h4⟩
theorem own_typ {w : World} {base size n cap : Nat} {e : TypeId} {a : Addr} {xs : List Value} (h : w.ownsRow base e size (.slice (some a) n cap) n xs) : ∃ cur, w.heap[a.block]? = some (.cells cur e (0, 0)) := by
  rcases h.2 with ⟨h1, _⟩ | ⟨g, cap', cur, h1, hb, h2, _⟩
  · cases h1
  · injection h1 with e1 e2 e3
    injection e1 with e1
    subst e1
    exact ⟨_, h2⟩
theorem bind_ne : 57 ≠ 54 := by decide
/-- one binding more -/
theorem bo_snoc {w w5 : World} {base q c9 m n cap5 : Nat} {As A5 At : Option Addr} {s : List (Int × List C)} {p : Int × List C} {o : Obj} {vs : List (List Value)}
    (h1 : vs.length = s.length) (h2 : ∀ v ∈ vs, v.length = 2) (h3 : w.ownsRow base 57 2 (.slice As q c9) q vs.flatten) (h4 : ∀ (i : Nat) (x : Int × List C) (v : List Value), s[i]? = some x → vs[i]? = some v → RBo base w x v) (hq : s.length = q)
    (hp : w.ownsRow base 54 3 (.slice At n m) n (flatC p.2)) (hpw : ∀ x ∈ p.2, x.wf) (hpi : i64 p.1)
    (hown : w5.ownsRow base 57 2 (.slice A5 (q + 1) cap5) (q + 1) (vs.flatten ++ [.int .i64 p.1, .slice At n m])) (hgr : (w.alloc o).grownBy w5 (Value.slice As q c9).ownBlock) : OwnG (RBo base) 2 w5 base 57 (.slice A5 (q + 1) cap5) (q + 1) (s ++ [p]) := by
  have keep : ∀ {A : Option Addr} {n c : Nat} {xs : List Value}, w.ownsRow base 54 3 (.slice A n c) n xs → w5.ownsRow base 54 3 (.slice A n c) n xs := by
    intro A n c xs hr
    refine own_at hr (fun a ha => ?_)
    have hlt := (Own0.lt hr a ha).2
    refine (grown_block (g := a.block) hgr (by simp; omega) ?_).trans (alloc_past hlt)
    intro b hb
    subst hb
    obtain ⟨cur, hcur⟩ := own_typ h3
    exact fun e => own_ne hr hcur (by intro cur' he; injection he with f1 f2 f3; exact bind_ne f2) a ha e.symm
  refine OwnG.snoc hown hq h1 h2 rfl (fun i x v hx hv => ?_) ⟨At, n, m, rfl, keep hp, hpw, hpi⟩
  obtain ⟨A, n', c', e1, e2, e3, e4⟩ := h4 i x v hx hv
  exact ⟨A, n', c', e1, keep e2, e3, e4⟩
theorem bo_is {w : World} {base q c : Nat} {A : Option Addr} {s : List (Int × List C)} (h : OwnG (RBo base) 2 w base 57 (.slice A q c) q s) : IsBs w A q c s := by
  obtain ⟨vs, h1, h2, h3, h4⟩ := h.rows
  exact IsG.own h3 (by omega) h.len h1 h2 (fun i x v hx hv => (h4 i x v hx hv).bd)
theorem one_bd (x : Int) (A : Option Addr) (n c : Nat) : ∀ u ∈ [Value.int .i64 x, .slice A n c], u.oneCell' = true := by
  intro u hu
  simp at hu
  rcases hu with rfl | rfl <;> rfl
/-- got, with the row's owner told -/
theorem getO8 {w : World} {A B : Option Addr} {c d : Nat} {r : Int} {l : List C} {tr : List Int} (h : IsC w A l.length c l) (ho : OkH ⟨l, tr, r⟩) (x : Int) : Calls Try.prog 21 #[.agg #[.slice A l.length c, .slice B tr.length d, .int .i64 r], .int .i64 x] w (RetGetO w (getZ l x)) := by
  obtain ⟨h1, h2⟩ := ho.tr_len
  exact hGetO_any A B l.length c tr.length d r x l w h ho.good (by omega)
theorem getZ_pre {l L : List C} {tr : List Int} {r : Int} (ho : OkH ⟨l, tr, r⟩) (hO : OkH ⟨L, tr, r⟩) (hp : Pre l L) {x : Int} (hx : 0 ≤ x ∧ x < (l.length : Int)) : getZ L x = getZ l x := by
  have := hp.le
  unfold getZ
  rw [if_pos hx, if_pos (by omega)]
  unfold getF
  rw [hp.den ho.good hO.good x.toNat (by omega)]
theorem getF_len {l : List C} {p : Nat} {t : List C} (h : getF l p = some t) : t.length ≤ 200 := by
  unfold getF at h
  split at h
  · rename_i h1
    injection h with h
    subst h
    rw [flat_size]; exact h1.1
  · cases h
end Go.Proofs.Ytlndjooddkjnoaa
