/- Texts of this proof that belong together: words of memory, plain laws, walks. -/
import Derived.BigQuiet
import Derived.Test.YtgipiplklaeplaaDoorB28
import Derived.Test.YtgipiplklaeplaaDoorB35
import Derived.Test.YtgipiplklaeplaaDoorB44
set_option linter.unusedVariables false
set_option linter.unusedSimpArgs false
namespace Go.Proofs.YtgipiplklaeplaaDoor
open Go.RowKit
set_option maxHeartbeats 2000000 in
theorem rLits_any (B : Option Addr) (m d : Nat) (b : List (Bool × List C)) (B' : Option Addr) (m' d' : Nat) (b' : List (Bool × List C)) (X : World) (hB : IsLs X B m d b) (hB' : IsLs X B' m' d' b') (hs : ∀ x ∈ b, x.2.length ≤ 100000) (hs' : ∀ x ∈ b', x.2.length ≤ 100000) :
  Calls Tryd.prog 32 #[.slice B m d, .slice B' m' d'] X (RetV X (.bool (sameBody b b'))) := by
 have hml := hB.len
 have hml' := hB'.len
 have Hml := Lib.hid hml
 have Hml' := Lib.hid hml'
 have hcap := hB.cap_le
 have hm63 : m ≤ 9223372036854775807 := by have h1 := hcap.1; have h2 := hcap.2; simp only [maxLen] at h2; omega
 have hcap' := hB'.cap_le
 clear hml hml'
 by_cases hmm : m = m'
 ·subst hmm
  go_enter Tryd.func32, Tryd.ntmps32
  go_wp2
  go_loopw [5] (fun i wr => ∃ k : Nat, k ≤ m ∧ i = .int .i64 k ∧ Hid (sameBody (b.drop k) (b'.drop k) = sameBody b b') ∧ ∃ q, wr = X.drewN q) (fun i _ => m - (intOf i).toNat)
  case atStart => exact ⟨0, Nat.zero_le _, rfl, rfl, 0, rfl⟩
  case round =>
   obtain ⟨k, hk, rfl, hres, q2, rfl⟩ := hrel
   by_cases hlt : k < m
   ·obtain ⟨x, hxk⟩ := hB.get hlt
    obtain ⟨y, hyk⟩ := hB'.get hlt
    have hx1 := hs x (List.mem_of_getElem? hxk)
    have hy1 := hs' y (List.mem_of_getElem? hyk)
    obtain ⟨b1, o1, A1, n1, c1, rfl, hb1, i1, u0, u1⟩ := lits_at hB hxk
    obtain ⟨b2, o2, A2, n2, c2, rfl, hb2, i2, v0, v1⟩ := lits_at hB' hyk
    have hdx := drop_get hxk
    have hdy := drop_get hyk
    have Hdx := Lib.hid hdx
    have Hdy := Lib.hid hdy
    rw [i1.len] at hx1
    rw [i2.len] at hy1
    clear hxk hyk hdx hdy hB hB'
    obtain ⟨xb, xt⟩ := x
    obtain ⟨yb, yt⟩ := y
    have hp : (k : Int) < (m : Int) := by omega
    have hcap1 := hcap.1
    have hcap2 := hcap'.1
    simp only at i1 i2 u0 v0 hx1 hy1
    have hR := fun q => rSame_any A1 A2 n1 n2 c1 c2 xt yt (X.drewN q) (i1.drewN q) (i2.drewN q) hx1 hy1
    by_cases hng : xb = yb
    ·subst hng
     have hstep : sameBody ((xb, xt) :: b.drop (k + 1)) ((xb, yt) :: b'.drop (k + 1)) = (sameC xt yt && sameBody (b.drop (k + 1)) (b'.drop (k + 1))) := by simp [sameBody]
     have Hstep := Lib.hid hstep
     clear hstep
     cases hsx : sameC xt yt
     all_goals
      rw [hsx] at hR
      have Hsx := Lib.hid hsx
      have HR := Lib.hid hR
      clear hsx hR
      cases xb
      all_goals
       go_wp2
       go_quiet ((go_at_call 31; exact quiet_add (HR.out _)))
       go_wp2
     ·go_ret
      exact ⟨ret_bool (by have := hres.out; rw [Hdx.out, Hdy.out, Hstep.out, Hsx.out] at this; rw [← this]; simp), below_drewN (below_drewN (Below.refl _ _) _) _⟩
     ·go_ret
      exact ⟨ret_bool (by have := hres.out; rw [Hdx.out, Hdy.out, Hstep.out, Hsx.out] at this; rw [← this]; simp), below_drewN (below_drewN (Below.refl _ _) _) _⟩
     all_goals
      go_roundw
      case rel => exact ⟨k + 1, by omega, by go_num, by have := hres.out; rw [Hdx.out, Hdy.out, Hstep.out, Hsx.out, Bool.true_and] at this; exact Lib.hid this, _, rfl⟩
      case measure => simp [intOf]; omega
    ·have hstep : sameBody ((xb, xt) :: b.drop (k + 1)) ((yb, yt) :: b'.drop (k + 1)) = false := by simp [sameBody, hng]
     have Hstep := Lib.hid hstep
     clear hstep
     cases xb <;> cases yb
     all_goals (first | exact absurd rfl hng | skip)
     all_goals
      clear hng
      go_wp2
      go_quiet (fail)
      go_wp2
      go_ret
      exact ⟨ret_bool (by have := hres.out; rw [Hdx.out, Hdy.out, Hstep.out] at this; rw [← this]), below_drewN (below_drewN (Below.refl _ _) _) _⟩
   ·go_wp2
    go_ret
    refine ⟨ret_bool ?_, below_drewN (Below.refl _ _) _⟩
    have := hres.out
    rw [List.drop_eq_nil_of_le (by have := Hml.out; omega), List.drop_eq_nil_of_le (by have := Hml'.out; omega), sameBody] at this
    rw [← this]
 ·have hne : ((m : Int) == (m' : Int)) = false := by simp; omega
  go_enter Tryd.func32, Tryd.ntmps32
  go_wp2
  go_ret
  refine ⟨ret_bool ?_, Below.refl _ _⟩
  rw [sameBody_len (by rw [Hml.out, Hml'.out]; exact hmm)]
end Go.Proofs.YtgipiplklaeplaaDoor
namespace Go.Proofs.YtgipiplklaeplaaDoor
open Go.RowKit
theorem cells_wfK {l : List C} (h : l.all (fun c => decide (-3000000000 ≤ c.kind) && (decide (c.kind ≤ 3000000000) && (decide (-3000000000 ≤ c.n) && (decide (c.n ≤ 3000000000) && decide (c.name.size ≤ 100))))) = true) : ∀ c ∈ l, c.wf := fun c hc => by
 have := List.all_eq_true.1 h c hc
 simp only [Bool.and_eq_true, decide_eq_true_eq] at this
 obtain ⟨h1, h2, h3, h4, h5⟩ := this
 exact ⟨i64_small h1 h2, i64_small h3 h4, by simp [maxLen]; omega⟩
theorem isC_litK {w : World} {g n : Nat} {l : List C} {cs : Array Value} (h : w.heap[g]? = some (.cells cs 66 (0, 0))) (hc : cs.toList = flatC l) (hl : l.length = n) (hn : n ≤ 1000) (hw : ∀ c ∈ l, c.wf) : IsC w (some ⟨g, 0, none⟩) n n l := by
 have := Sl.blk (size := 3) (n := n) h (by rw [← Array.length_toList, hc, flatC_len, hl]) (by simp [maxLen]; omega)
 rw [hc] at this
 exact ⟨this, hw⟩
theorem ins_wfK {l : List In} (h : l.all (fun i => decide (0 ≤ i.op) && (decide (i.op ≤ 100) && (decide (0 ≤ i.x) && (decide (i.x ≤ 100) && (decide (0 ≤ i.a) && (decide (i.a ≤ 100) && (decide (0 ≤ i.n) && (decide (i.n ≤ 100) && decide (i.name.size ≤ 100))))))))) = true) : ∀ i ∈ l, i.wf := fun i hi => by
 have := List.all_eq_true.1 h i hi
 simp only [Bool.and_eq_true, decide_eq_true_eq] at this
 obtain ⟨h1, h2, h3, h4, h5, h6, h7, h8, h9⟩ := this
 exact ⟨i64_small (by omega) (by omega), i64_small (by omega) (by omega), i64_small (by omega) (by omega), i64_small (by omega) (by omega), by simp [maxLen]; omega⟩
def flatKK (l : List In) : List Value := (l.map In.flat).flatten
theorem isK_litK {w : World} {g n : Nat} {l : List In} {cs : Array Value} (h : w.heap[g]? = some (.cells cs 88 (0, 0))) (hc : cs.toList = flatKK l) (hl : l.length = n) (hn : n ≤ 1000) (hw : ∀ i ∈ l, i.wf) : IsK w (some ⟨g, 0, none⟩) n n l := by
 have hlen : (flatKK l).length = n * 6 := by
  rw [flatKK, flatten_len (k := 6) (by intro v hv; obtain ⟨i, _, rfl⟩ := List.mem_map.1 hv; rfl), List.length_map, hl]
 refine ⟨hl, l.map In.flat, by simp, (by intro v hv; obtain ⟨i, _, rfl⟩ := List.mem_map.1 hv; rfl), ?_, fun q x v hx hv => ?_⟩
 ·have := Sl.blk (size := 6) (n := n) h (by rw [← Array.length_toList, hc, hlen]) (by simp [maxLen]; omega)
  rw [hc] at this
  exact this
 ·rw [List.getElem?_map, hx] at hv
  simp at hv
  exact ⟨hv.symm, hw x (List.mem_of_getElem? hx)⟩
theorem f11_any (nm : ByteArray) (k : Int) (w : World) : Calls Tryd.prog 35 #[.string nm, .int .i64 k] w (fun e w' => e = .returned (.agg #[.int .i64 3, .string nm, .int .i64 k]) ∧ w' = w.alloc (.cells #[.int .i64 3, .string nm, .int .i64 k] 66)) := by
 go_enter Tryd.func35, Tryd.ntmps35
 go_wp2
 exact bodyPost_ret (v := .agg #[.int .i64 3, .string nm, .int .i64 k]) (by simp [results, Tryd.results35, go_sem]) rfl ⟨rfl, rfl⟩
theorem v11_any (k : Int) (w : World) : Calls Tryd.prog 36 #[.int .i64 k] w (fun e w' => e = .returned (.agg #[.int .i64 1, .string ⟨#[]⟩, .int .i64 k]) ∧ w' = w.alloc (.cells #[.int .i64 1, .string ⟨#[]⟩, .int .i64 k] 66)) := by
 go_enter Tryd.func36, Tryd.ntmps36
 go_wp2
 exact bodyPost_ret (v := .agg #[.int .i64 1, .string ⟨#[]⟩, .int .i64 k]) (by simp [results, Tryd.results36, go_sem]) rfl ⟨rfl, rfl⟩
theorem n11_any (k : Int) (w : World) : Calls Tryd.prog 37 #[.int .i64 k] w (fun e w' => e = .returned (.agg #[.int .i64 2, .string ⟨#[]⟩, .int .i64 k]) ∧ w' = w.alloc (.cells #[.int .i64 2, .string ⟨#[]⟩, .int .i64 k] 66)) := by
 go_enter Tryd.func37, Tryd.ntmps37
 go_wp2
 exact bodyPost_ret (v := .agg #[.int .i64 2, .string ⟨#[]⟩, .int .i64 k]) (by simp [results, Tryd.results37, go_sem]) rfl ⟨rfl, rfl⟩
def allocs (w : World) (os : List Obj) : World := os.foldl (fun w o => w.alloc o) w
theorem allocs_facts : ∀ (os : List Obj) (w : World), Below w.heap.size w (allocs w os) ∧ (allocs w os).heap.size = w.heap.size + os.length ∧ ∀ (k : Nat) (o : Obj), os[k]? = some o → (allocs w os).heap[w.heap.size + k]? = some o
 | [], w => ⟨Below.refl _ _, rfl, fun k o h => by simp at h⟩
 | o :: os, w => by
  obtain ⟨h1, h2, h3⟩ := allocs_facts os (w.alloc o)
  have hs : (w.alloc o).heap.size = w.heap.size + 1 := by simp
  have e : allocs w (o :: os) = allocs (w.alloc o) os := rfl
  rw [e]
  refine ⟨((Below.refl _ _).alloc (Nat.le_refl _) o).trans (h1.mono (by omega)), by rw [h2, hs]; simp; omega, fun k x hx => ?_⟩
  cases k with
  | zero =>
   simp at hx
   subst hx
   exact (h1.block _ (by omega)).trans (alloc_at rfl)
  | succ k =>
   have := h3 k x (by simpa using hx)
   rw [hs] at this
   rw [show w.heap.size + (k + 1) = w.heap.size + 1 + k by omega]
   exact this
structure Hq (w : World) (g : Nat) : Prop where
 c : w.heap[g + 12]? = some (.cells #[.slice (some ⟨g + 3, 0, none⟩) 3 3, .slice (some ⟨g + 11, 0, none⟩) 2 2] 25 (0, 0))
 d : w.heap[g + 18]? = some (.cells #[.slice (some ⟨g + 17, 0, none⟩) 4 4, .slice none 0 0] 25 (0, 0))
 ch : IsC w (some ⟨g + 3, 0, none⟩) 3 3 hcC.head.flat
 cb : IsLs w (some ⟨g + 11, 0, none⟩) 2 2 (hcC.body.map fun l => (l.neg, l.t.flat))
 dh : IsC w (some ⟨g + 17, 0, none⟩) 4 4 hcD.head.flat
 dt : DT w
theorem Hq.below {w w' : World} {g : Nat} (h : Hq w g) (hb : Below w.heap.size w w') : Hq w' g :=
 ⟨(hb.block _ (block_lt h.c)).trans h.c, (hb.block _ (block_lt h.d)).trans h.d, h.ch.below hb, IsG.below keepsLit h.cb hb, h.dh.below hb, h.dt.below hb⟩
theorem hcC_is : IsCls hcC (hcC.head.flat, hcC.body.map fun l => (l.neg, l.t.flat)) := ⟨rfl, ⟨by rfl, by decide, by rfl⟩, rfl, by intro l hl; simp [hcC] at hl; rcases hl with rfl | rfl <;> exact ⟨by rfl, by decide, by rfl⟩, by decide⟩
theorem hcC_may : mayB (hcC.head.flat, hcC.body.map fun l => (l.neg, l.t.flat)) = true := by kernel_rfl
theorem hcD_is : IsCls hcD (hcD.head.flat, []) := ⟨rfl, ⟨by rfl, by decide, by rfl⟩, rfl, by intro l hl; simp [hcD] at hl, by decide⟩
theorem hcD_may : mayB (hcD.head.flat, []) = true := by kernel_rfl
theorem wp_allocs {P : Program} {c : Code} {Q : Exit → Act → World → Prop} {a : Act} {w wX : World} {os : List Obj} (h : wX = allocs w os) (k : ∀ X, Below w.heap.size w X → X.heap.size = w.heap.size + os.length → (∀ (k : Nat) (o : Obj), os[k]? = some o → X.heap[w.heap.size + k]? = some o) → c.wp P Q a X) : c.wp P Q a wX := by
 subst h
 obtain ⟨h1, h2, h3⟩ := allocs_facts os w
 exact k _ h1 h2 h3
theorem Hq.sc {w : World} {g : Nat} (h : Hq w g) : w.cell? ⟨g + 12, 0, none⟩ = some (.slice (some ⟨g + 3, 0, none⟩) 3 3) ∧ w.cell? ⟨g + 12, 1, none⟩ = some (.slice (some ⟨g + 11, 0, none⟩) 2 2) := ⟨(open2 h.c).1, (open2 h.c).2.1⟩
theorem f11_v (nm : ByteArray) (k : Int) (w : World) : Calls Tryd.prog 35 #[.string nm, .int .i64 k] w (RetV w (.agg #[.int .i64 3, .string nm, .int .i64 k])) := (f11_any nm k w).mono fun e w' ⟨h1, h2⟩ => ⟨h1, by rw [h2]; exact (Below.refl _ _).alloc (Nat.le_refl _) _⟩
theorem v11_v (k : Int) (w : World) : Calls Tryd.prog 36 #[.int .i64 k] w (RetV w (.agg #[.int .i64 1, .string ⟨#[]⟩, .int .i64 k])) := (v11_any k w).mono fun e w' ⟨h1, h2⟩ => ⟨h1, by rw [h2]; exact (Below.refl _ _).alloc (Nat.le_refl _) _⟩
theorem n11_v (k : Int) (w : World) : Calls Tryd.prog 37 #[.int .i64 k] w (RetV w (.agg #[.int .i64 2, .string ⟨#[]⟩, .int .i64 k])) := (n11_any k w).mono fun e w' ⟨h1, h2⟩ => ⟨h1, by rw [h2]; exact (Below.refl _ _).alloc (Nat.le_refl _) _⟩
theorem liveC {s : ByteArray} {us : List Tm} {w : World} {g : Nat} {At : Option Addr} {k kc : Nat} {room : Int} {o : Raw ⊕ Int} (hA : (Tm.f s us).ok = true) (hs : (Tm.f s us).size ≤ 200) (h : IsC w At k kc (Tm.f s us).flat) (hq : Hq w g) (hr : i64 room) (he : resC (Tm.f s us) hcC room = o) :
  Calls Tryd.prog 13 #[.slice At k kc, .agg #[.slice (some ⟨g + 3, 0, none⟩) 3 3, .slice (some ⟨g + 11, 0, none⟩) 2 2], .int .i64 room] w (RetRz w o) := by
 have := kResolve_any s us hcC At _ _ k kc 3 3 2 2 _ _ room w h hq.ch hq.cb hcC_is hcC_may hA hs hr hq.dt
 rw [resZ_C hcC_is hA hs, he] at this
 exact this
theorem liveD {s : ByteArray} {us : List Tm} {w : World} {g : Nat} {At : Option Addr} {k kc : Nat} {room : Int} {o : Raw ⊕ Int} (hA : (Tm.f s us).ok = true) (hs : (Tm.f s us).size ≤ 200) (h : IsC w At k kc (Tm.f s us).flat) (hq : Hq w g) (hr : i64 room) (he : resC (Tm.f s us) hcD room = o) :
  Calls Tryd.prog 13 #[.slice At k kc, .agg #[.slice (some ⟨g + 17, 0, none⟩) 4 4, .slice none 0 0], .int .i64 room] w (RetRz w o) := by
 have := kResolve_any s us hcD At _ none k kc 4 4 0 0 _ [] room w h hq.dh (IsG.nil (by simp [maxLen])) hcD_is hcD_may hA hs hr hq.dt
 rw [resZ_C hcD_is hA hs, he] at this
 exact this
theorem liveR {w : World} {gs ga gk : Nat} (steps : Int) (hs : w.heap[gs]? = some (.cells #[.int .i64 1, .string emp, .int .i64 0] 90 (0, 0))) (ha : w.heap[ga]? = some (.cells #[.int .i64 0] 3 (0, 0))) (hK : IsK w (some ⟨gk, 0, none⟩) 3 3 hcK) (hdt : DT w) (hst : i64 steps) :
  Calls Tryd.prog 19 #[.agg #[.slice (some ⟨gs, 0, none⟩) 1 1, .slice none 0 0, .int .i64 9], .slice (some ⟨ga, 0, none⟩) 1 1, .slice (some ⟨gk, 0, none⟩) 3 3, .int .i64 steps] w (RetRun w (some ⟨gs, 0, none⟩) none 1 1 0 0 9 (outN hcM hcK steps)) :=
 kRun_any (some ⟨gs, 0, none⟩) none (some ⟨ga, 0, none⟩) (some ⟨gk, 0, none⟩) 1 1 0 0 1 1 3 3 9 steps [⟨1, emp, 0⟩] [] [0] hcK w
  ⟨Sl.blk (size := 3) (n := 1) hs rfl (by simp [maxLen]), by intro c hc; simp at hc; subst hc; exact ⟨i64_near (by decide) (by decide), i64_near (by decide) (by decide), by decide⟩⟩ (IsI.nil _ none 0 (by simp [maxLen]))
  ⟨Sl.blk (size := 1) (n := 1) ha rfl (by simp [maxLen]), by intro c hc; simp at hc; subst hc; exact i64_near (by decide) (by decide)⟩ hK hdt hcM_ok.ok (by omega) (by omega) hst hcK_bad
theorem Hq.sd {w : World} {g : Nat} (h : Hq w g) : w.cell? ⟨g + 18, 0, none⟩ = some (.slice (some ⟨g + 17, 0, none⟩) 4 4) ∧ w.cell? ⟨g + 18, 1, none⟩ = some (.slice none 0 0) := ⟨(open2 h.d).1, (open2 h.d).2.1⟩
theorem rSame_v {w : World} {A B : Option Addr} {n c c' : Nat} {xs : List C} (h : IsC w A n c xs) (h' : IsC w B n c' xs) (hn : n ≤ 1000) : Calls Tryd.prog 31 #[.slice A n c, .slice B n c'] w (RetV w (.bool true)) := by
 have := rSame_any A B n n c c' xs xs w h h' (by omega) (by omega)
 rw [(sameC_iff xs xs).2 rfl] at this
 exact this.mono fun e w' ⟨h1, d, h2⟩ => ⟨h1, by rw [h2]; exact below_drewN (Below.refl _ _) d⟩
theorem qSame_v {base ga gb : Nat} {w v : World} {A B : Option Addr} {c d : Nat} (ho : w.ownsRow base 90 3 (.slice A hcR.l.length c) hcR.l.length (flatC hcR.l)) (hI : IsI w B hcR.tr.length d hcR.tr) (hb : Below w.heap.size w v)
  (hs : v.heap[ga]? = some (.cells #[.int .i64 1, .string ⟨#[]⟩, .int .i64 1, .int .i64 4, .string ⟨#[103]⟩, .int .i64 1, .int .i64 1, .string ⟨#[]⟩, .int .i64 3, .int .i64 2, .string ⟨#[]⟩, .int .i64 5] 90 (0, 0))) (ht : v.heap[gb]? = some (.cells #[.int .i64 0, .int .i64 2] 3 (0, 0))) :
  Calls Tryd.prog 20 #[.agg #[.slice A hcR.l.length c, .slice B hcR.tr.length d, .int .i64 hcR.r], .agg #[.slice (some ⟨ga, 0, none⟩) 4 4, .slice (some ⟨gb, 0, none⟩) 2 2, .int .i64 9]] v (RetV v (.bool true)) := by
 have hC : IsC w A hcR.l.length c hcR.l := ⟨Sl.own ho (by decide), cells_wfK (by decide)⟩
 have hC2 : IsC v (some ⟨ga, 0, none⟩) 4 4 hcR.l := ⟨Sl.blk (size := 3) (n := 4) hs rfl (by simp [maxLen]), cells_wfK (by decide)⟩
 have hI2 : IsI v (some ⟨gb, 0, none⟩) 2 2 hcR.tr := ⟨Sl.blk (size := 1) (n := 2) ht rfl (by simp [maxLen]), fun x hx => by simp [hcR] at hx; rcases hx with rfl | rfl <;> exact i64_near (by decide) (by decide)⟩
 have := qSame_any A B _ _ _ c _ d 4 4 2 2 hcR.r 9 hcR.l hcR.l hcR.tr hcR.tr v (hC.below hb) (hI.below hb) hC2 hI2 (by decide) (by decide) (by omega) (by omega)
 rw [(sameH_iff ⟨hcR.l, hcR.tr, hcR.r⟩ ⟨hcR.l, hcR.tr, 9⟩).2 rfl] at this
 exact this
end Go.Proofs.YtgipiplklaeplaaDoor
