/- Texts of this proof that belong together: words of memory, plain laws, walks. -/
import Derived.Deep.LoopGhost
import Derived.Deep.RegionHeld3
import Derived.Test.YtgipiplklaeplaaDoorB01
import Derived.Test.YtgipiplklaeplaaDoorB04
import Derived.Test.YtgipiplklaeplaaDoorB07
import Derived.Test.YtgipiplklaeplaaDoorB08
set_option linter.unusedVariables false
set_option linter.unusedSimpArgs false
namespace Go.Proofs.YtgipiplklaeplaaDoor
open Go.RowKit
def vblkZ : Option Value → Option Nat
 | some (Value.slice (some a) _ (_ + 1)) => some a.block
 | _ => none
def lyB (w : World) (bl k : Nat) : Option Nat := match w.heap[bl]? with
 | some (Obj.cells cs _ _) => vblkZ cs[k]?
 | _ => none
structure LFree (w : World) (bl g : Nat) : Prop where
 lt : g < w.heap.size
 m : g ≠ bl
 c0 : lyB w bl 0 ≠ some g
 c1 : lyB w bl 1 ≠ some g
structure LKept (w w' : World) (bl : Nat) : Prop where
 free : ∀ g, LFree w bl g → w'.heap[g]? = w.heap[g]? ∧ LFree w' bl g
theorem LKept.refl (w : World) (bl : Nat) : LKept w w bl := ⟨fun g hg => ⟨rfl, hg⟩⟩
theorem LKept.trans {w w' w'' : World} {bl : Nat} (h : LKept w w' bl) (h' : LKept w' w'' bl) : LKept w w'' bl := ⟨fun g hg => by
 obtain ⟨h1, h2⟩ := h.free g hg
 obtain ⟨h3, h4⟩ := h'.free g h2
 exact ⟨h3.trans h1, h4⟩⟩
theorem lyB_same {w w' : World} {bl k : Nat} (h : w'.heap[bl]? = w.heap[bl]?) : lyB w' bl k = lyB w bl k := by unfold lyB; rw [h]
theorem lyB_0 {w : World} {bl : Nat} {x y : Value} {t : TypeId} (h : w.heap[bl]? = some (.cells #[x, y] t (0, 0))) : lyB w bl 0 = vblkZ (some x) := by unfold lyB; rw [h]; rfl
theorem lyB_1 {w : World} {bl : Nat} {x y : Value} {t : TypeId} (h : w.heap[bl]? = some (.cells #[x, y] t (0, 0))) : lyB w bl 1 = vblkZ (some y) := by unfold lyB; rw [h]; rfl
theorem vblkZ_some {A : Option Addr} {n c g : Nat} (h : vblkZ (some (.slice A n c)) = some g) : ∃ a, A = some a ∧ a.block = g ∧ 0 < c := by
 cases A with
 | none => cases h
 | some a =>
  cases c with
  | zero => cases h
  | succ c => injection h with h; exact ⟨a, rfl, h, by omega⟩
theorem vblkZ_ne {A : Option Addr} {n c g : Nat} (h : vblkZ (some (.slice A n c)) ≠ some g) : 0 < c → ∀ a, A = some a → a.block ≠ g := by
 intro hc a ha he
 subst ha
 obtain ⟨k, rfl⟩ : ∃ k, c = k + 1 := ⟨c - 1, by omega⟩
 exact h (by simp [vblkZ, he])
theorem LKept.below {w w' : World} {bl : Nat} (hb : Below w.heap.size w w') (hm : bl < w.heap.size) : LKept w w' bl := ⟨fun g hg =>
 ⟨hb.block g hg.lt, ⟨Nat.lt_of_lt_of_le hg.lt hb.size, hg.m, by rw [lyB_same (hb.block bl hm)]; exact hg.c0, by rw [lyB_same (hb.block bl hm)]; exact hg.c1⟩⟩⟩
structure Ly (w : World) (base bl : Nat) (T : TypeId) (l : List C) (a : List Int) : Prop where
 has : ∃ A n c B m d, base ≤ bl ∧ w.heap[bl]? = some (.cells #[.slice A n c, .slice B m d] T (0, 0)) ∧ Own0 w base 90 3 (.slice A n c) n (flatC l) ∧ Own0 w base 3 1 (.slice B m d) m (a.map (Value.int .i64))
 wfc : ∀ c ∈ l, c.wf
 wfi : ∀ x ∈ a, i64 x
theorem Ly.below {w w' : World} {base bl : Nat} {T : TypeId} {l : List C} {a : List Int} (h : Ly w base bl T l a) (hb : Below w.heap.size w w') : Ly w' base bl T l a := by
 obtain ⟨A, n, c, B, m, d, h1, h2, h3, h4⟩ := h.has
 exact ⟨⟨A, n, c, B, m, d, h1, (hb.block bl (block_lt h2)).trans h2, h3.below hb, h4.below hb⟩, h.wfc, h.wfi⟩
theorem Ly.lt {w : World} {base bl : Nat} {T : TypeId} {l : List C} {a : List Int} (h : Ly w base bl T l a) : base ≤ bl ∧ bl < w.heap.size := by
 obtain ⟨A, n, c, B, m, d, h1, h2, h3, h4⟩ := h.has
 exact ⟨h1, block_lt h2⟩
theorem own0_len {w : World} {base size n : Nat} {e : TypeId} {v : Value} {xs : List Value} (h : Own0 w base e size v n xs) : xs.length = n * size := by
 rcases h with ⟨_, _, rfl, rfl⟩ | h
 ·simp
 ·exact h.1
theorem own0_at {w w' : World} {base size n cap : Nat} {e : TypeId} {A : Option Addr} {xs : List Value} (h : Own0 w base e size (.slice A n cap) n xs) (hk : 0 < cap → ∀ a, A = some a → w'.heap[a.block]? = w.heap[a.block]?) : Own0 w' base e size (.slice A n cap) n xs := by
 rcases Nat.eq_zero_or_pos cap with h0 | h0
 ·subst h0
  obtain ⟨rfl, rfl⟩ := own_capz h
  exact .inl ⟨A, rfl, rfl, rfl⟩
 ·rcases h with ⟨A', he, h1, h2⟩ | h
  ·exact .inl ⟨A', he, h1, h2⟩
  ·exact .inr (own_at h (hk h0))
theorem own0_typ {w : World} {base size n cap : Nat} {e : TypeId} {A : Option Addr} {xs : List Value} (h : Own0 w base e size (.slice A n cap) n xs) (hc : 0 < cap) : ∀ a, A = some a → base ≤ a.block ∧ ∃ cur, w.heap[a.block]? = some (.cells cur e (0, 0)) := by
 intro a ha
 subst ha
 rcases h with ⟨A', he, h1, h2⟩ | h
 ·injection he with e1 e2 e3; omega
 ·rcases h.2 with ⟨h1, _⟩ | ⟨g, cap', cur, h1, hb, h2, _⟩
  ·cases h1
  ·injection h1 with e1 e2 e3
   injection e1 with e1
   subst e1
   exact ⟨hb, cur, h2⟩
theorem own0_ne {w : World} {base size n cap g : Nat} {e : TypeId} {A : Option Addr} {xs : List Value} {x : Obj} (h : Own0 w base e size (.slice A n cap) n xs) (hx : w.heap[g]? = some x) (hne : ∀ cur, x ≠ .cells cur e (0, 0)) : 0 < cap → ∀ a, A = some a → a.block ≠ g := by
 intro hc a ha he
 obtain ⟨_, cur, h2⟩ := own0_typ h hc a ha
 rw [he, hx] at h2
 injection h2 with h2
 exact hne cur h2
theorem own0_lt {w : World} {base size n cap : Nat} {e : TypeId} {A : Option Addr} {xs : List Value} (h : Own0 w base e size (.slice A n cap) n xs) (hc : 0 < cap) : ∀ a, A = some a → base ≤ a.block ∧ a.block < w.heap.size := by
 intro a ha
 obtain ⟨h1, cur, h2⟩ := own0_typ h hc a ha
 exact ⟨h1, block_lt h2⟩
def RetLy (w : World) (base bl : Nat) (T : TypeId) (l : List C) (a : List Int) (v : Value) (e : Ending) (w' : World) : Prop := e = .returned v ∧ Ly w' base bl T l a ∧ Below base w w' ∧ LKept w w' bl
theorem Ly.grow0 {w w' : World} {base bl : Nat} {T : TypeId} {l : List C} {a : List Int} {A B A' : Option Addr} {n c m d cap' : Nat} {x : C} (hTs : T ≠ 90) (hTi : T ≠ 3) (hst : 90 ≠ 3)
  (h2 : w.heap[bl]? = some (.cells #[.slice A n c, .slice B m d] T (0, 0))) (h1 : base ≤ bl) (h3 : Own0 w base 90 3 (.slice A n c) n (flatC l)) (h4 : Own0 w base 3 1 (.slice B m d) m (a.map (Value.int .i64)))
  (wfc : ∀ c ∈ l, c.wf) (wfi : ∀ x ∈ a, i64 x) (hx : x.wf) (hown : w'.ownsRow base 90 3 (.slice A' (n + 1) cap') (n + 1) (flatC l ++ x.flat)) (hap : ApartZ w w' A c A') (hb : Below base w w') :
  Ly (w'.setCell ⟨bl, 0, none⟩ (.slice A' (n + 1) cap')) base bl T (l ++ [x]) a ∧ Below base w (w'.setCell ⟨bl, 0, none⟩ (.slice A' (n + 1) cap')) ∧ LKept w (w'.setCell ⟨bl, 0, none⟩ (.slice A' (n + 1) cap')) bl := by
 have nA := own0_ne h3 h2 (by intro cur he; injection he with e1 e2 e3; exact hTs e2)
 have hm' := (hap.old bl (block_lt h2) nA).trans h2
 have hnew : (w'.setCell ⟨bl, 0, none⟩ (.slice A' (n + 1) cap')).heap[bl]? = some (.cells #[.slice A' (n + 1) cap', .slice B m d] T (0, 0)) := by
  have := set_block (k := 0) hm' (.slice A' (n + 1) cap'); simpa using this
 have nA' : ∀ a', A' = some a' → a'.block ≠ bl := own_ne hown hm' (by intro cur he; injection he with e1 e2 e3; exact hTs e2)
 have nB := own0_ne h4 h2 (by intro cur he; injection he with e1 e2 e3; exact hTi e2)
 have nAB : 0 < d → ∀ b, B = some b → 0 < c → ∀ a, A = some a → a.block ≠ b.block := by
  intro hd b hb hc a ha he
  obtain ⟨_, cur, g1⟩ := own0_typ h4 hd b hb
  obtain ⟨_, cur', g2⟩ := own0_typ h3 hc a ha
  rw [he, g1] at g2
  injection g2 with g2
  injection g2 with e1 e2 e3
  exact hst e2.symm
 refine ⟨⟨⟨A', n + 1, cap', B, m, d, h1, hnew, .inr ?_, ?_⟩, ?_, wfi⟩, hb.setCell h1 _, ⟨fun g hg => ?_⟩⟩
 ·rw [flatC_append]
  have : flatC [x] = x.flat := by simp [flatC]
  rw [this]
  exact own_at hown fun a' ha' => set_other (nA' a' ha') _
 ·refine own0_at h4 fun hd b hb => ?_
  rw [set_other (nB hd b hb)]
  exact hap.old _ (own0_lt h4 hd b hb).2 (fun hc a ha => nAB hd b hb hc a ha)
 ·intro c hc
  rcases List.mem_append.1 hc with hc | hc
  ·exact wfc c hc
  ·simp at hc; subst hc; exact hx
 ·have hg0 := hg.c0
  have hg1 := hg.c1
  rw [lyB_0 h2] at hg0
  rw [lyB_1 h2] at hg1
  have e1 := hap.old g hg.lt (vblkZ_ne hg0)
  refine ⟨(set_other hg.m _).trans e1, ⟨by have := hap.size; have := hg.lt; simp; omega, hg.m, ?_, ?_⟩⟩
  ·rw [lyB_0 hnew]
   intro he
   obtain ⟨a', ha', hg', hc'⟩ := vblkZ_some he
   rcases (hap.blk a' ha').2 with ⟨a0, h5, h6, h7⟩ | h5
   ·exact vblkZ_ne hg0 h6 a0 h5 (by rw [← h7]; exact hg')
   ·have := hg.lt; omega
  ·rw [lyB_1 hnew]; exact hg1
theorem Ly.grow1 {w w' : World} {base bl : Nat} {T : TypeId} {l : List C} {a : List Int} {A B B' : Option Addr} {n c m d cap' : Nat} {x : Int} (hTs : T ≠ 90) (hTi : T ≠ 3) (hst : 90 ≠ 3)
  (h2 : w.heap[bl]? = some (.cells #[.slice A n c, .slice B m d] T (0, 0))) (h1 : base ≤ bl) (h3 : Own0 w base 90 3 (.slice A n c) n (flatC l)) (h4 : Own0 w base 3 1 (.slice B m d) m (a.map (Value.int .i64)))
  (wfc : ∀ c ∈ l, c.wf) (wfi : ∀ x ∈ a, i64 x) (hx : i64 x) (hown : w'.ownsRow base 3 1 (.slice B' (m + 1) cap') (m + 1) (a.map (Value.int .i64) ++ [.int .i64 x])) (hap : ApartZ w w' B d B') (hb : Below base w w') :
  Ly (w'.setCell ⟨bl, 1, none⟩ (.slice B' (m + 1) cap')) base bl T l (a ++ [x]) ∧ Below base w (w'.setCell ⟨bl, 1, none⟩ (.slice B' (m + 1) cap')) ∧ LKept w (w'.setCell ⟨bl, 1, none⟩ (.slice B' (m + 1) cap')) bl := by
 have nB := own0_ne h4 h2 (by intro cur he; injection he with e1 e2 e3; exact hTi e2)
 have hm' := (hap.old bl (block_lt h2) nB).trans h2
 have hnew : (w'.setCell ⟨bl, 1, none⟩ (.slice B' (m + 1) cap')).heap[bl]? = some (.cells #[.slice A n c, .slice B' (m + 1) cap'] T (0, 0)) := by
  have := set_block (k := 1) hm' (.slice B' (m + 1) cap'); simpa using this
 have nB' : ∀ a', B' = some a' → a'.block ≠ bl := own_ne hown hm' (by intro cur he; injection he with e1 e2 e3; exact hTi e2)
 have nA := own0_ne h3 h2 (by intro cur he; injection he with e1 e2 e3; exact hTs e2)
 have nAB : 0 < c → ∀ a, A = some a → 0 < d → ∀ b, B = some b → b.block ≠ a.block := by
  intro hc a ha hd b hb he
  obtain ⟨_, cur, g1⟩ := own0_typ h4 hd b hb
  obtain ⟨_, cur', g2⟩ := own0_typ h3 hc a ha
  rw [he, g2] at g1
  injection g1 with g1
  injection g1 with e1 e2 e3
  exact hst e2
 refine ⟨⟨⟨A, n, c, B', m + 1, cap', h1, hnew, ?_, .inr ?_⟩, wfc, ?_⟩, hb.setCell h1 _, ⟨fun g hg => ?_⟩⟩
 ·refine own0_at h3 fun hc a ha => ?_
  rw [set_other (nA hc a ha)]
  exact hap.old _ (own0_lt h3 hc a ha).2 (fun hd b hb => nAB hc a ha hd b hb)
 ·rw [List.map_append]
  exact own_at hown fun a' ha' => set_other (nB' a' ha') _
 ·intro c hc
  rcases List.mem_append.1 hc with hc | hc
  ·exact wfi c hc
  ·simp at hc; subst hc; exact hx
 ·have hg0 := hg.c0
  have hg1 := hg.c1
  rw [lyB_0 h2] at hg0
  rw [lyB_1 h2] at hg1
  have e1 := hap.old g hg.lt (vblkZ_ne hg1)
  refine ⟨(set_other hg.m _).trans e1, ⟨by have := hap.size; have := hg.lt; simp; omega, hg.m, ?_, ?_⟩⟩
  ·rw [lyB_0 hnew]; exact hg0
  ·rw [lyB_1 hnew]
   intro he
   obtain ⟨a', ha', hg', hc'⟩ := vblkZ_some he
   rcases (hap.blk a' ha').2 with ⟨a0, h5, h6, h7⟩ | h5
   ·exact vblkZ_ne hg1 h6 a0 h5 (by rw [← h7]; exact hg')
   ·have := hg.lt; omega
theorem own0_sets {w : World} {base size n cap i g : Nat} {e : TypeId} {xs : List Value} (h : Own0 w base e size (.slice (some ⟨g, 0, none⟩) n cap) n xs) (hi : i < n * size) (v : Value) : Own0 (w.setCell ⟨g, i, none⟩ v) base e size (.slice (some ⟨g, 0, none⟩) n cap) n (xs.set i v) ∧ g < w.heap.size ∧ base ≤ g := by
 rcases h with ⟨A', he, h1, h2⟩ | h
 ·subst h1; simp at hi
 ·exact ⟨.inr (h.stored i v).1, (Own0.lt h _ rfl).2, (Own0.lt h _ rfl).1⟩
end Go.Proofs.YtgipiplklaeplaaDoor
namespace Go.Proofs.YtgipiplklaeplaaDoor
open Go.RowKit
theorem tLayer_ne : 136 ≠ 90 ∧ 136 ≠ 3 ∧ 90 ≠ 3 := by decide
set_option maxHeartbeats 2000000 in
theorem lstands_any (base bl : Nat) (l : List C) (a : List Int) (v : Nat) (w : World) (h : Ly w base bl 136 l a) (hv : v ≤ 999) (hb0 : base ≤ w.heap.size) (ha : a.length ≤ 100000) :
  Calls Tryd.prog 77 #[.pointer (some ⟨bl, 0, none⟩), .int .i64 v] w (RetLy w base bl 136 l (extA a v) (.int .i64 (atA a v))) := by
 have H := Lib.hid h
 have hlt := h.lt.2
 clear h
 go_enter Tryd.func77, Tryd.ntmps77
 go_wp2
 go_loopg [] (v + 1 - a.length) (fun k wr => ∃ a' : List Int, Ly wr base bl 136 l a' ∧ Hid (extA a' v = extA a v ∧ atA a' v = atA a v ∧ v + 1 - a'.length = k ∧ a'.length ≤ 100001) ∧ Below base w wr ∧ LKept w wr bl)
 case atStart => exact ⟨a, H.out, Lib.hid ⟨rfl, rfl, rfl, by omega⟩, Below.refl _ _, LKept.refl _ _⟩
 case round =>
  obtain ⟨a', hL, heq, hb, hk⟩ := hrel
  obtain ⟨A, n, c, B, m, d, g1, g2, g3, g4⟩ := hL.has
  have hml := own0_len g4
  simp at hml
  obtain ⟨y0, y1, yl⟩ := open2 g2
  have yf := frozen_of g2 1
  have hsz := hb.size
  have HL := Lib.hid hL
  have Hml := Lib.hid hml
  have G2 := Lib.hid g2
  have hsl := g4.sl (by omega)
  have hcap := hsl.hcap
  have hmax := hsl.hmax
  unfold maxLen at hmax
  clear hL hml
  by_cases hmv : m ≤ v
  ·have hmi : decide ((m : Int) ≤ (v : Int)) = true := by simp; omega
   have Hmv := Lib.hid hmv
   clear hmv
   go_wp2_with (first
    | (at_builtin; go_must (refine wpList_append_z rfl (.tmp 16) (.tmp 17) 42 rfl base 3 Tryd.underlying42 infoI rfl (by omega) rfl (g4.below ((Below.refl _ _).alloc (Nat.le_refl _) _)) rfl (Sl.lit _ _ [.int .i64 (-1)] 3 1 1 (by first | rfl | simp) rfl (by simp [maxLen])) (one1 rfl) (by omega) (by omega) (by omega) (by first | omega | (simp; omega)) ?_); intro B' cap' w1 hown hb1 hap; have e1 := (hap.old bl (by simp; omega) (own0_ne (g4.below ((Below.refl wr.heap.size wr).alloc (Nat.le_refl _) (.cells #[.int .i64 (-1)] 3))) ((alloc_past yl).trans G2.out) (by intro cur he; injection he with e1 e2 e3; exact tLayer_ne.2.1 e2))).trans ((alloc_past yl).trans G2.out); obtain ⟨z0, z1, zl⟩ := open2 e1; have zf := frozen_of e1 1))
   have hal : Below wr.heap.size wr (wr.alloc (.cells #[.int .i64 (-1)] 3)) := (Below.refl _ _).alloc (Nat.le_refl _) _
   obtain ⟨q1, q2, q3⟩ := Ly.grow1 (x := -1) tLayer_ne.1 tLayer_ne.2.1 tLayer_ne.2.2 ((alloc_past yl).trans G2.out) g1 (g3.below hal) (g4.below hal) HL.out.wfc HL.out.wfi ⟨by decide, by decide⟩ hown hap hb1
   have Q1 := Lib.hid q1
   have Q3 := Lib.hid q3
   have hb2 := hb.trans ((hal.mono (by omega)).trans q2)
   clear q1 q2 q3
   have hlen : a'.length ≤ v := by have := Hml.out; have := Hmv.out; omega
   go_roundg (v + 1 - (a' ++ [(-1 : Int)]).length)
   case measure => obtain ⟨e1, e2, e3, e4⟩ := heq.out; simp; omega
   case rel =>
    obtain ⟨e1, e2, e3, e4⟩ := heq.out
    refine ⟨a' ++ [-1], Q1.out, Lib.hid ⟨(extA_step hlen).trans e1, ?_, rfl, by simp; omega⟩, hb2, hk.trans ((LKept.below hal yl).trans Q3.out)⟩
    rw [← e2]
    have h1 := atA_ext (a' ++ [-1]) v v
    rw [extA_step hlen, atA_ext] at h1
    exact h1.symm
  ·have hmi : decide ((m : Int) ≤ (v : Int)) = false := by simp; omega
   have hv2 : v < m := by omega
   have hvl : v < a'.length := by have := Hml.out; omega
   have he2 : Hid (extA a' v = a') := Lib.hid (extA_has hvl)
   obtain ⟨bb, ob, hB, hbb, hcells⟩ := hsl.cells (by omega)
   have hx : (a'.map (Value.int .i64))[v]? = some (.int .i64 (atA a' v)) := by
    rw [List.getElem?_map, atA, List.getElem?_eq_getElem hvl]; rfl
   have hc2 := hcells v _ hx
   subst hB
   have Hc := Lib.hid hcells
   clear hx hcells hmv
   go_wp2
   go_ret
   obtain ⟨e1, e2, e3⟩ := heq.out
   exact ⟨ret_int e2, by rw [← e1, he2.out]; exact HL.out, hb, hk⟩
end Go.Proofs.YtgipiplklaeplaaDoor
namespace Go.Proofs.YtgipiplklaeplaaDoor
section
variable {P : Program} {ops : Array Oper} {Q : Exit → Act → World → Prop} {md : Region.Mode} {S : World → Prop}
theorem held_one {i : Nat} {o : Oper} {n : Nat} {ls : Array Bool} {a : Act} {w : World} (hr : Region.ready md ops ls = [i]) (ho : ops[i]? = some o)
  (h : ∀ K : Act → World → Prop, Shut (∀ b v, S v → wpAnyH P md ops Q S n (ls.setIfInBounds i true) b v → K b v) → if Region.wanted o (yielded ops a.tmps) = true then Oper.wp P o a w K Q else K (a.put o.dst undef) w) :
  wpAnyH P md ops Q S (n + 1) ls a w := by
 refine wpAnyH_all hr (by simp) fun j hj => ?_
 rw [List.mem_singleton] at hj
 subst hj
 exact wpOp_step ho (fun K hK => h K (fun b v hS hW => hK b v ⟨hS, hW⟩))
theorem takeH (i : Nat) {oi : Oper} {v : Value} {n : Nat} {ls : Array Bool} {a : Act} {w : World} (hS : S w) (h : wpAnyH P md ops Q S n (ls.setIfInBounds i true) (a.put oi.dst v) w)
  (hi : ops[i]? = some oi := by (simp only [List.getElem?_toArray, List.getElem?_cons_succ, List.getElem?_cons_zero]; exact rfl))
  (hs : Region.noSelect ops = true := by kernel_rfl) (hf : Region.free md ops ls i = true := by kernel_rfl) (hr : (Region.ready md ops ls).contains i = true := by kernel_rfl)
  (hQ : ∀ c a' w', Q (.panic c) (a'.put oi.dst v) w' → Q (.panic c) a' w' := by exact fun _ _ _ h => h) (hw : Region.wanted oi (yielded ops a.tmps) = true := by rfl)
  (hy : ∀ w', S w' → (execOp a.eval oi).run P w' = .ok (.value v) w' := by (intro w hSw; (try dsimp only at hSw); go_simp <;> with_reducible rfl)) : wpAnyH P md ops Q S (n + 1) ls a w :=
 wpAnyH_take hi hs hf hr hQ (.inl ⟨hw, hy⟩) hS h
end
end Go.Proofs.YtgipiplklaeplaaDoor
namespace Go.Proofs.YtgipiplklaeplaaDoor
theorem i64_0' : i64 0 := ⟨by decide, by decide⟩
end Go.Proofs.YtgipiplklaeplaaDoor
namespace Go.Proofs.YtgipiplklaeplaaDoor
section
variable {P : Program} {ops : Array Oper} {Q : Exit → Act → World → Prop} {md : Region.Mode} {S : World → Prop}
theorem held_two {i j : Nat} {oi oj : Oper} {n : Nat} {ls : Array Bool} {a : Act} {w : World} (hr : Region.ready md ops ls = [i, j]) (hoi : ops[i]? = some oi) (hoj : ops[j]? = some oj)
  (hi : ∀ K : Act → World → Prop, Shut (∀ b v, S v → wpAnyH P md ops Q S n (ls.setIfInBounds i true) b v → K b v) → if Region.wanted oi (yielded ops a.tmps) = true then Oper.wp P oi a w K Q else K (a.put oi.dst undef) w)
  (hj : ∀ K : Act → World → Prop, Shut (∀ b v, S v → wpAnyH P md ops Q S n (ls.setIfInBounds j true) b v → K b v) → if Region.wanted oj (yielded ops a.tmps) = true then Oper.wp P oj a w K Q else K (a.put oj.dst undef) w) :
  wpAnyH P md ops Q S (n + 1) ls a w := by
 refine wpAnyH_all hr (by simp) fun k hk => ?_
 rcases List.mem_cons.1 hk with rfl | hk
 ·exact wpOp_step hoi (fun K hK => hi K (fun b v hS hW => hK b v ⟨hS, hW⟩))
 ·rw [List.mem_singleton] at hk
  subst hk
  exact wpOp_step hoj (fun K hK => hj K (fun b v hS hW => hK b v ⟨hS, hW⟩))
end
end Go.Proofs.YtgipiplklaeplaaDoor
/- Steps of a region that draws its order, each in a word. -/
namespace Go.Proofs.YtgipiplklaeplaaDoor

theorem sA {α : Type} (l : List α) (i : Nat) (a : α) : l.toArray.setIfInBounds i a = (l.set i a).toArray := List.setIfInBounds_toArray ..
theorem sZ {α : Type} (l : List α) (a b : α) : (a :: l).set 0 b = b :: l := rfl
theorem sS {α : Type} (l : List α) (a b : α) (n : Nat) : (a :: l).set (n + 1) b = a :: l.set n b := rfl
section
variable {P : Program} {ops : Array Oper} {Q : Exit → Act → World → Prop} {md : Region.Mode} {S : World → Prop} {L : Nat}
theorem stepH (i : Nat) {oi : Oper} {v : Value} {n : Nat} {ls : Array Bool} {a a' : Act} {w : World} (hS : S w) (h : wpAnyH P md ops Q S n (ls.setIfInBounds i true) a' w)
  (hi : ops[i]? = some oi := by (simp only [List.getElem?_toArray, List.getElem?_cons_succ, List.getElem?_cons_zero]; exact rfl))
  (hs : Region.noSelect ops = true := by kernel_rfl) (hf : Region.free md ops ls i = true := by kernel_rfl) (hr : (Region.ready md ops ls).contains i = true := by kernel_rfl)
  (hQ : ∀ c a' w', Q (.panic c) (a'.put oi.dst v) w' → Q (.panic c) a' w' := by exact fun _ _ _ h => h) (hw : Region.wanted oi (yielded ops a.tmps) = true := by rfl)
  (hy : ∀ w', S w' → (execOp a.eval oi).run P w' = .ok (.value v) w' := by (intro w hSw; (try dsimp only at hSw); go_simp <;> with_reducible rfl))
  (ha : a.put oi.dst v = a' := by first | (simp only [Act.put, sA, sZ, sS]; done) | (simp only [Act.put, sA, sZ, sS]; exact rfl) | exact rfl) : wpAnyH P md ops Q S (n + 1) ls a w := by
 subst ha
 exact wpAnyH_take hi hs hf hr hQ (.inl ⟨hw, hy⟩) hS h
theorem stepA (i : Nat) {oi : Oper} {v : Value} {n : Nat} {ls : Array Bool} {a a' : Act} {w : World} (hS : S w) (h : wpAnyH P md ops Q S n (ls.setIfInBounds i true) a' w)
  (hi : ops[i]? = some oi := by (simp only [List.getElem?_toArray, List.getElem?_cons_succ, List.getElem?_cons_zero]; exact rfl))
  (hs : Region.noSelect ops = true := by as_aux_lemma => kernel_rfl) (hf : Region.free md ops ls i = true := by as_aux_lemma => kernel_rfl) (hr : (Region.ready md ops ls).contains i = true := by as_aux_lemma => kernel_rfl)
  (hQ : ∀ c a' w', Q (.panic c) (a'.put oi.dst v) w' → Q (.panic c) a' w' := by exact fun _ _ _ h => h) (hw : Region.wanted oi (yielded ops a.tmps) = true := by rfl)
  (hy : ∀ w', S w' → (execOp a.eval oi).run P w' = .ok (.value v) w' := by (intro w hSw; (try dsimp only at hSw); go_simp <;> with_reducible rfl))
  (ha : a.put oi.dst v = a' := by first | (simp only [Act.put, sA, sZ, sS]; done) | (simp only [Act.put, sA, sZ, sS]; exact rfl) | exact rfl) : wpAnyH P md ops Q S (n + 1) ls a w := by
 subst ha
 exact wpAnyH_take hi hs hf hr hQ (.inl ⟨hw, hy⟩) hS h
theorem skipS (i : Nat) {oi : Oper} {n : Nat} {ls : Array Bool} {a a' : Act} {w : World} (hS : S w) (h : wpAnyH P md ops Q S n (ls.setIfInBounds i true) a' w)
  (hi : ops[i]? = some oi := by (simp only [List.getElem?_toArray, List.getElem?_cons_succ, List.getElem?_cons_zero]; exact rfl))
  (hs : Region.noSelect ops = true := by kernel_rfl) (hf : Region.free md ops ls i = true := by kernel_rfl) (hr : (Region.ready md ops ls).contains i = true := by kernel_rfl)
  (hQ : ∀ c a' w', Q (.panic c) (a'.put oi.dst undef) w' → Q (.panic c) a' w' := by exact fun _ _ _ h => h) (hw : Region.wanted oi (yielded ops a.tmps) = false := by rfl)
  (ha : a.put oi.dst undef = a' := by first | (simp only [Act.put, sA, sZ, sS]; done) | (simp only [Act.put, sA, sZ, sS]; exact rfl) | exact rfl) : wpAnyH P md ops Q S (n + 1) ls a w := by
 subst ha
 exact wpAnyH_take hi hs hf hr hQ (.inr ⟨hw, rfl⟩) hS h
theorem stepB (i : Nat) {oi : Oper} {v : Value} {n : Nat} {ls : Array Bool} {a a' : Act} {w : World} (hS : S w) (h : anyBut P md ops Q S L n (ls.setIfInBounds i true) a' w)
  (hi : ops[i]? = some oi := by (simp only [List.getElem?_toArray, List.getElem?_cons_succ, List.getElem?_cons_zero]; exact rfl))
  (hs : Region.noSelect ops = true := by kernel_rfl) (hf : Region.free md ops ls i = true := by kernel_rfl) (hr : (Region.ready md ops ls).contains i = true := by kernel_rfl) (hl : waits md ops L i = true := by kernel_rfl)
  (hQ : ∀ c a' w', Q (.panic c) (a'.put oi.dst v) w' → Q (.panic c) a' w' := by exact fun _ _ _ h => h) (hw : Region.wanted oi (yielded ops a.tmps) = true := by rfl)
  (hy : ∀ w', S w' → (execOp a.eval oi).run P w' = .ok (.value v) w' := by (intro w hSw; (try dsimp only at hSw); go_simp <;> with_reducible rfl))
  (ha : a.put oi.dst v = a' := by first | (simp only [Act.put, sA, sZ, sS]; done) | (simp only [Act.put, sA, sZ, sS]; exact rfl) | exact rfl) : anyBut P md ops Q S L (n + 1) ls a w := by
 subst ha
 exact but_take hi hs hf hr hl hQ (.inl ⟨hw, hy⟩) hS h
theorem oneH (i : Nat) {o : Oper} {n : Nat} {ls : Array Bool} {a : Act} {w : World}
  (h : ∀ K : Act → World → Prop, Shut (∀ b v, S v → wpAnyH P md ops Q S n (ls.setIfInBounds i true) b v → K b v) → if Region.wanted o (yielded ops a.tmps) = true then Oper.wp P o a w K Q else K (a.put o.dst undef) w)
  (hr : Region.ready md ops ls = [i] := by as_aux_lemma => kernel_rfl) (ho : ops[i]? = some o := by (simp only [List.getElem?_toArray, List.getElem?_cons_succ, List.getElem?_cons_zero]; exact rfl)) :
  wpAnyH P md ops Q S (n + 1) ls a w := held_one hr ho h
theorem oneB (i : Nat) {o : Oper} {n : Nat} {ls : Array Bool} {a : Act} {w : World}
  (h : ∀ K : Act → World → Prop, Shut (∀ b v, (i = L ∨ S v) → anyBut P md ops Q S L n (ls.setIfInBounds i true) b v → K b v) → if Region.wanted o (yielded ops a.tmps) = true then Oper.wp P o a w K Q else K (a.put o.dst undef) w)
  (hr : Region.ready md ops ls = [i] := by as_aux_lemma => kernel_rfl) (ho : ops[i]? = some o := by (simp only [List.getElem?_toArray, List.getElem?_cons_succ, List.getElem?_cons_zero]; exact rfl)) :
  anyBut P md ops Q S L (n + 1) ls a w := but_one hr ho h
end
end Go.Proofs.YtgipiplklaeplaaDoor
