/- What a layer holds in memory: two rows of its own behind a pointer; what is none of it. -/
import Derived.Test.YtlndjooddkjnoaaAppZ
import Derived.Test.YtlndjooddkjnoaaB3
import Derived.Test.YtlndjooddkjnoaaB1
set_option linter.unusedVariables false
set_option linter.unusedSimpArgs false
namespace Go.Proofs.Ytlndjooddkjnoaa
open Go.RowKit

/-- the block of a row with room -/
def vblkZ : Option Value → Option Nat
  | some (Value.slice (some a) _ (_ + 1)) => some a.block
  | _ => none
def lyB (w : World) (bl k : Nat) : Option Nat := match w.heap[bl]? with
  | some (Obj.cells cs _ _) => vblkZ cs[k]?
  | _ => none
/-- a block that is none of the layer's -/
structure LFree (w : World) (bl g : Nat) : Prop where
  lt : g < w.heap.size
  m : g ≠ bl
  c0 : lyB w bl 0 ≠ some g
  c1 : lyB w bl 1 ≠ some g
structure LKept (w w' : World) (bl : Nat) : Prop where
  free : ∀ g, LFree w bl g → w'.heap[g]? = w.heap[g]? ∧ LFree w' bl g
theorem LKept.refl (w : World) (bl : Nat) : LKept w w bl := ⟨fun g hg => ⟨rfl, hg⟩⟩
theorem LKept.trans {w w' w'' : World} {bl : Nat} (h : LKept w w' bl) (h' : LKept w' w'' bl) : LKept w w'' bl := ⟨fun g hg => by
  obtain ⟨h1, h2⟩ := h.free g hg
  obtain ⟨h3, h4⟩ := h'.free g h2
  exact ⟨h3.trans h1, h4⟩⟩
theorem lyB_same {w w' : World} {bl k : Nat} (h : w'.heap[bl]? = w.heap[bl]?) : lyB w' bl k = lyB w bl k := by unfold lyB; rw [h]
theorem lyB_0 {w : World} {bl : Nat} {x y : Value} {t : TypeId} (h : w.heap[bl]? = some (.cells #[x, y] t (0, 0))) : lyB w bl 0 = vblkZ (some x) := by unfold lyB; rw [h]; rfl
theorem lyB_1 {w : World} {bl : Nat} {x y : Value} {t : TypeId} (h : w.heap[bl]? = some (.cells #[x, y] t (0, 0))) : lyB w bl 1 = vblkZ (some y) := by unfold lyB; rw [h]; rfl
theorem vblkZ_some {A : Option Addr} {n c g : Nat} (h : vblkZ (some (.slice A n c)) = some g) : ∃ a, A = some a ∧ a.block = g ∧ 0 < c := by
  cases A with
  | none => cases h
  | some a =>
    cases c with
    | zero => cases h
    | succ c => injection h with h; exact ⟨a, rfl, h, by omega⟩
theorem vblkZ_ne {A : Option Addr} {n c g : Nat} (h : vblkZ (some (.slice A n c)) ≠ some g) : 0 < c → ∀ a, A = some a → a.block ≠ g := by
  intro hc a ha he
  subst ha
  obtain ⟨k, rfl⟩ : ∃ k, c = k + 1 := ⟨c - 1, by omega⟩
  exact h (by simp [vblkZ, he])
/-- whatever leaves all old blocks as they were -/
theorem LKept.below {w w' : World} {bl : Nat} (hb : Below w.heap.size w w') (hm : bl < w.heap.size) : LKept w w' bl := ⟨fun g hg =>
  ⟨hb.block g hg.lt, ⟨Nat.lt_of_lt_of_le hg.lt hb.size, hg.m, by rw [lyB_same (hb.block bl hm)]; exact hg.c0, by rw [lyB_same (hb.block bl hm)]; exact hg.c1⟩⟩⟩
/-- the layer in block bl -/
structure Ly (w : World) (base bl : Nat) (T : TypeId) (l : List C) (a : List Int) : Prop where
  has : ∃ A n c B m d, base ≤ bl ∧ w.heap[bl]? = some (.cells #[.slice A n c, .slice B m d] T (0, 0)) ∧ Own0 w base 68 3 (.slice A n c) n (flatC l) ∧ Own0 w base 3 1 (.slice B m d) m (a.map (Value.int .i64))
  wfc : ∀ c ∈ l, c.wf
  wfi : ∀ x ∈ a, i64 x
theorem Ly.below {w w' : World} {base bl : Nat} {T : TypeId} {l : List C} {a : List Int} (h : Ly w base bl T l a) (hb : Below w.heap.size w w') : Ly w' base bl T l a := by
  obtain ⟨A, n, c, B, m, d, h1, h2, h3, h4⟩ := h.has
  exact ⟨⟨A, n, c, B, m, d, h1, (hb.block bl (block_lt h2)).trans h2, h3.below hb, h4.below hb⟩, h.wfc, h.wfi⟩
theorem Ly.lt {w : World} {base bl : Nat} {T : TypeId} {l : List C} {a : List Int} (h : Ly w base bl T l a) : base ≤ bl ∧ bl < w.heap.size := by
  obtain ⟨A, n, c, B, m, d, h1, h2, h3, h4⟩ := h.has
  exact ⟨h1, block_lt h2⟩
theorem own0_len {w : World} {base size n : Nat} {e : TypeId} {v : Value} {xs : List Value} (h : Own0 w base e size v n xs) : xs.length = n * size := by
  rcases h with ⟨_, _, rfl, rfl⟩ | h
  · simp
  · exact h.1
/-- an own row in other worlds that leave its block -/
theorem own0_at {w w' : World} {base size n cap : Nat} {e : TypeId} {A : Option Addr} {xs : List Value} (h : Own0 w base e size (.slice A n cap) n xs) (hk : 0 < cap → ∀ a, A = some a → w'.heap[a.block]? = w.heap[a.block]?) : Own0 w' base e size (.slice A n cap) n xs := by
  rcases Nat.eq_zero_or_pos cap with h0 | h0
  · subst h0
    obtain ⟨rfl, rfl⟩ := own_capz h
    exact .inl ⟨A, rfl, rfl, rfl⟩
  · rcases h with ⟨A', he, h1, h2⟩ | h
    · exact .inl ⟨A', he, h1, h2⟩
    · exact .inr (own_at h (hk h0))
/-- with room, an own row's block is of its type -/
theorem own0_typ {w : World} {base size n cap : Nat} {e : TypeId} {A : Option Addr} {xs : List Value} (h : Own0 w base e size (.slice A n cap) n xs) (hc : 0 < cap) : ∀ a, A = some a → base ≤ a.block ∧ ∃ cur, w.heap[a.block]? = some (.cells cur e (0, 0)) := by
  intro a ha
  subst ha
  rcases h with ⟨A', he, h1, h2⟩ | h
  · injection he with e1 e2 e3; omega
  · rcases h.2 with ⟨h1, _⟩ | ⟨g, cap', cur, h1, hb, h2, _⟩
    · cases h1
    · injection h1 with e1 e2 e3
      injection e1 with e1
      subst e1
      exact ⟨hb, cur, h2⟩
theorem own0_ne {w : World} {base size n cap g : Nat} {e : TypeId} {A : Option Addr} {xs : List Value} {x : Obj} (h : Own0 w base e size (.slice A n cap) n xs) (hx : w.heap[g]? = some x) (hne : ∀ cur, x ≠ .cells cur e (0, 0)) : 0 < cap → ∀ a, A = some a → a.block ≠ g := by
  intro hc a ha he
  obtain ⟨_, cur, h2⟩ := own0_typ h hc a ha
  rw [he, hx] at h2
  injection h2 with h2
  exact hne cur h2
theorem own0_lt {w : World} {base size n cap : Nat} {e : TypeId} {A : Option Addr} {xs : List Value} (h : Own0 w base e size (.slice A n cap) n xs) (hc : 0 < cap) : ∀ a, A = some a → base ≤ a.block ∧ a.block < w.heap.size := by
  intro a ha
  obtain ⟨h1, cur, h2⟩ := own0_typ h hc a ha
  exact ⟨h1, block_lt h2⟩
def RetLy (w : World) (base bl : Nat) (T : TypeId) (l : List C) (a : List Int) (v : Value) (e : Ending) (w' : World) : Prop := e = .returned v ∧ Ly w' base bl T l a ∧ Below base w w' ∧ LKept w w' bl
/-- the first row grown -/
theorem Ly.grow0 {w w' : World} {base bl : Nat} {T : TypeId} {l : List C} {a : List Int} {A B A' : Option Addr} {n c m d cap' : Nat} {x : C} (hTs : T ≠ 68) (hTi : T ≠ 3) (hst : 68 ≠ 3)
    (h2 : w.heap[bl]? = some (.cells #[.slice A n c, .slice B m d] T (0, 0))) (h1 : base ≤ bl) (h3 : Own0 w base 68 3 (.slice A n c) n (flatC l)) (h4 : Own0 w base 3 1 (.slice B m d) m (a.map (Value.int .i64)))
    (wfc : ∀ c ∈ l, c.wf) (wfi : ∀ x ∈ a, i64 x) (hx : x.wf) (hown : w'.ownsRow base 68 3 (.slice A' (n + 1) cap') (n + 1) (flatC l ++ x.flat)) (hap : ApartZ w w' A c A') (hb : Below base w w') :
    Ly (w'.setCell ⟨bl, 0, none⟩ (.slice A' (n + 1) cap')) base bl T (l ++ [x]) a ∧ Below base w (w'.setCell ⟨bl, 0, none⟩ (.slice A' (n + 1) cap')) ∧ LKept w (w'.setCell ⟨bl, 0, none⟩ (.slice A' (n + 1) cap')) bl := by
  have nA := own0_ne h3 h2 (by intro cur he; injection he with e1 e2 e3; exact hTs e2)
  have hm' := (hap.old bl (block_lt h2) nA).trans h2
  have hnew : (w'.setCell ⟨bl, 0, none⟩ (.slice A' (n + 1) cap')).heap[bl]? = some (.cells #[.slice A' (n + 1) cap', .slice B m d] T (0, 0)) := by
    have := set_block (k := 0) hm' (.slice A' (n + 1) cap'); simpa using this
  have nA' : ∀ a', A' = some a' → a'.block ≠ bl := own_ne hown hm' (by intro cur he; injection he with e1 e2 e3; exact hTs e2)
  have nB := own0_ne h4 h2 (by intro cur he; injection he with e1 e2 e3; exact hTi e2)
  have nAB : 0 < d → ∀ b, B = some b → 0 < c → ∀ a, A = some a → a.block ≠ b.block := by
    intro hd b hb hc a ha he
    obtain ⟨_, cur, g1⟩ := own0_typ h4 hd b hb
    obtain ⟨_, cur', g2⟩ := own0_typ h3 hc a ha
    rw [he, g1] at g2
    injection g2 with g2
    injection g2 with e1 e2 e3
    exact hst e2.symm
  refine ⟨⟨⟨A', n + 1, cap', B, m, d, h1, hnew, .inr ?_, ?_⟩, ?_, wfi⟩, hb.setCell h1 _, ⟨fun g hg => ?_⟩⟩
  · rw [flatC_append]
    have : flatC [x] = x.flat := by simp [flatC]
    rw [this]
    exact own_at hown fun a' ha' => set_other (nA' a' ha') _
  · refine own0_at h4 fun hd b hb => ?_
    rw [set_other (nB hd b hb)]
    exact hap.old _ (own0_lt h4 hd b hb).2 (fun hc a ha => nAB hd b hb hc a ha)
  · intro c hc
    rcases List.mem_append.1 hc with hc | hc
    · exact wfc c hc
    · simp at hc; subst hc; exact hx
  · have hg0 := hg.c0
    have hg1 := hg.c1
    rw [lyB_0 h2] at hg0
    rw [lyB_1 h2] at hg1
    have e1 := hap.old g hg.lt (vblkZ_ne hg0)
    refine ⟨(set_other hg.m _).trans e1, ⟨by have := hap.size; have := hg.lt; simp; omega, hg.m, ?_, ?_⟩⟩
    · rw [lyB_0 hnew]
      intro he
      obtain ⟨a', ha', hg', hc'⟩ := vblkZ_some he
      rcases (hap.blk a' ha').2 with ⟨a0, h5, h6, h7⟩ | h5
      · exact vblkZ_ne hg0 h6 a0 h5 (by rw [← h7]; exact hg')
      · have := hg.lt; omega
    · rw [lyB_1 hnew]; exact hg1
/-- the second row grown -/
theorem Ly.grow1 {w w' : World} {base bl : Nat} {T : TypeId} {l : List C} {a : List Int} {A B B' : Option Addr} {n c m d cap' : Nat} {x : Int} (hTs : T ≠ 68) (hTi : T ≠ 3) (hst : 68 ≠ 3)
    (h2 : w.heap[bl]? = some (.cells #[.slice A n c, .slice B m d] T (0, 0))) (h1 : base ≤ bl) (h3 : Own0 w base 68 3 (.slice A n c) n (flatC l)) (h4 : Own0 w base 3 1 (.slice B m d) m (a.map (Value.int .i64)))
    (wfc : ∀ c ∈ l, c.wf) (wfi : ∀ x ∈ a, i64 x) (hx : i64 x) (hown : w'.ownsRow base 3 1 (.slice B' (m + 1) cap') (m + 1) (a.map (Value.int .i64) ++ [.int .i64 x])) (hap : ApartZ w w' B d B') (hb : Below base w w') :
    Ly (w'.setCell ⟨bl, 1, none⟩ (.slice B' (m + 1) cap')) base bl T l (a ++ [x]) ∧ Below base w (w'.setCell ⟨bl, 1, none⟩ (.slice B' (m + 1) cap')) ∧ LKept w (w'.setCell ⟨bl, 1, none⟩ (.slice B' (m + 1) cap')) bl := by
  have nB := own0_ne h4 h2 (by intro cur he; injection he with e1 e2 e3; exact hTi e2)
  have hm' := (hap.old bl (block_lt h2) nB).trans h2
  have hnew : (w'.setCell ⟨bl, 1, none⟩ (.slice B' (m + 1) cap')).heap[bl]? = some (.cells #[.slice A n c, .slice B' (m + 1) cap'] T (0, 0)) := by
    have := set_block (k := 1) hm' (.slice B' (m + 1) cap'); simpa using this
  have nB' : ∀ a', B' = some a' → a'.block ≠ bl := own_ne hown hm' (by intro cur he; injection he with e1 e2 e3; exact hTi e2)
  have nA := own0_ne h3 h2 (by intro cur he; injection he with e1 e2 e3; exact hTs e2)
  have nAB : 0 < c → ∀ a, A = some a → 0 < d → ∀ b, B = some b → b.block ≠ a.block := by
    intro hc a ha hd b hb he
    obtain ⟨_, cur, g1⟩ := own0_typ h4 hd b hb
    obtain ⟨_, cur', g2⟩ := own0_typ h3 hc a ha
    rw [he, g2] at g1
    injection g1 with g1
    injection g1 with e1 e2 e3
    exact hst e2
  refine ⟨⟨⟨A, n, c, B', m + 1, cap', h1, hnew, ?_, .inr ?_⟩, wfc, ?_⟩, hb.setCell h1 _, ⟨fun g hg => ?_⟩⟩
  · refine own0_at h3 fun hc a ha => ?_
    rw [set_other (nA hc a ha)]
    exact hap.old _ (own0_lt h3 hc a ha).2 (fun hd b hb => nAB hc a ha hd b hb)
  · rw [List.map_append]
    exact own_at hown fun a' ha' => set_other (nB' a' ha') _
  · intro c hc
    rcases List.mem_append.1 hc with hc | hc
    · exact wfi c hc
    · simp at hc; subst hc; exact hx
  · have hg0 := hg.c0
    have hg1 := hg.c1
    rw [lyB_0 h2] at hg0
    rw [lyB_1 h2] at hg1
    have e1 := hap.old g hg.lt (vblkZ_ne hg1)
    refine ⟨(set_other hg.m _).trans e1, ⟨by have := hap.size; have := hg.lt; simp; omega, hg.m, ?_, ?_⟩⟩
    · rw [lyB_0 hnew]; exact hg0
    · rw [lyB_1 hnew]
      intro he
      obtain ⟨a', ha', hg', hc'⟩ := vblkZ_some he
      rcases (hap.blk a' ha').2 with ⟨a0, h5, h6, h7⟩ | h5
      · exact vblkZ_ne hg1 h6 a0 h5 (by rw [← h7]; exact hg')
      · have := hg.lt; omega
/-- a store into the first row -/
theorem own0_sets {w : World} {base size n cap i g : Nat} {e : TypeId} {xs : List Value} (h : Own0 w base e size (.slice (some ⟨g, 0, none⟩) n cap) n xs) (hi : i < n * size) (v : Value) : Own0 (w.setCell ⟨g, i, none⟩ v) base e size (.slice (some ⟨g, 0, none⟩) n cap) n (xs.set i v) ∧ g < w.heap.size ∧ base ≤ g := by
  rcases h with ⟨A', he, h1, h2⟩ | h
  · subst h1; simp at hi
  · exact ⟨.inr (h.stored i v).1, (Own0.lt h _ rfl).2, (Own0.lt h _ rfl).1⟩
end Go.Proofs.Ytlndjooddkjnoaa
