/- Texts of this proof that belong together: words of memory, plain laws, walks. -/
import Derived.BigQuiet
import Derived.Test.YtgipiplklaeplaaDoorB14
import Derived.Test.YtgipiplklaeplaaDoorB42
set_option linter.unusedVariables false
set_option linter.unusedSimpArgs false
namespace Go.Proofs.YtgipiplklaeplaaDoor
open Go.RowKit
def RLo (w : World) (base : Nat) (p : Bool × List C) (v : List Value) : Prop := ∃ A c, v = [.bool p.1, .slice A p.2.length c] ∧ w.ownsRow base 66 3 (.slice A p.2.length c) p.2.length (flatC p.2) ∧ (∀ c ∈ p.2, c.wf)
theorem RLo.kt {T : List TypeId} {w w' : World} {base : Nat} {p : Bool × List C} {v : List Value} (h : RLo w base p v) (hk : KT T w w') (ht : 66 ∉ T) : RLo w' base p v := by
 obtain ⟨A, c, h1, h2, h3⟩ := h
 exact ⟨A, c, h1, hk.own ht h2, h3⟩
structure RvY (w : World) (base : Nat) (l : List C) (p0 : Int) (gs : List (Bool × Int)) (ns : List Int) (o : Value) (vs : List (List Value)) (t : List C) (b : List (Bool × List C)) : Prop where
 top : getZ l p0 = some t
 body : getsL l gs = some b
 names : ns = varsLr (varsF t) b
 out : ∃ A c, o = .slice A t.length c ∧ w.ownsRow base 66 3 (.slice A t.length c) t.length (flatC (turnF (placeI ns) t))
 wf : ∀ c ∈ turnF (placeI ns) t, c.wf
 len : vs.length = b.length
 lits : ∀ (i : Nat) (q : Bool × List C) (v : List Value), b[i]? = some q → vs[i]? = some v → RLo w base (q.1, turnF (placeI ns) q.2) v
def RvZ (w : World) (base : Nat) (l : List C) (p0 : Int) (gs : List (Bool × Int)) (x : Int) (ns : List Int) (o : Value) (vs : List (List Value)) : Prop :=
 (x = 0 ∧ ∃ t b, RvY w base l p0 gs ns o vs t b) ∨ (x = 2 ∧ getsZ l p0 gs = none)
theorem RvY.kt {T : List TypeId} {w w' : World} {base : Nat} {l : List C} {p0 : Int} {gs : List (Bool × Int)} {ns : List Int} {o : Value} {vs : List (List Value)} {t : List C} {b : List (Bool × List C)} (h : RvY w base l p0 gs ns o vs t b) (hk : KT T w w') (ht : 66 ∉ T) : RvY w' base l p0 gs ns o vs t b := by
 obtain ⟨A, c, h1, h2⟩ := h.out
 exact ⟨h.top, h.body, h.names, ⟨A, c, h1, hk.own ht h2⟩, h.wf, h.len, fun i q v hq hv => (h.lits i q v hq hv).kt hk ht⟩
theorem RvZ.kt {T : List TypeId} {w w' : World} {base : Nat} {l : List C} {p0 : Int} {gs : List (Bool × Int)} {x : Int} {ns : List Int} {o : Value} {vs : List (List Value)} (h : RvZ w base l p0 gs x ns o vs) (hk : KT T w w') (ht : 66 ∉ T) : RvZ w' base l p0 gs x ns o vs := by
 rcases h with ⟨h1, t, b, h2⟩ | h
 ·exact .inl ⟨h1, t, b, h2.kt hk ht⟩
 ·exact .inr h
theorem mergeV_mem (l : List Int) : ∀ (acc : List Int) (x : Int), x ∈ mergeV acc l ↔ x ∈ acc ∨ x ∈ l := by
 induction l with
 | nil => intro acc x; simp [mergeV]
 | cons y l ih =>
  intro acc x
  rw [mergeV_step]
  split
  ·rename_i h
   rw [ih]
   rw [inI_iff] at h
   constructor
   ·rintro (h1 | h1)
    ·exact .inl h1
    ·exact .inr (List.mem_cons_of_mem _ h1)
   ·rintro (h1 | h1)
    ·exact .inl h1
    ·rcases List.mem_cons.1 h1 with rfl | h1
     ·exact .inl h
     ·exact .inr h1
  ·rw [ih, List.mem_append, List.mem_singleton, List.mem_cons]
   constructor
   ·rintro ((h1 | h1) | h1)
    ·exact .inl h1
    ·exact .inr (.inl h1)
    ·exact .inr (.inr h1)
   ·rintro (h1 | h1 | h1)
    ·exact .inl (.inl h1)
    ·exact .inl (.inr h1)
    ·exact .inr h1
theorem mergeV_nodup (l : List Int) : ∀ acc : List Int, acc.Nodup → (mergeV acc l).Nodup := by
 induction l with
 | nil => intro acc h; simpa [mergeV] using h
 | cons y l ih =>
  intro acc h
  rw [mergeV_step]
  split
  ·exact ih acc h
  ·rename_i hy
   refine ih _ ?_
   rw [inI_iff] at hy
   rw [List.nodup_append]
   refine ⟨h, by simp, ?_⟩
   intro a ha c hc
   simp at hc
   subst hc
   exact fun e => hy (e ▸ ha)
theorem varsLr_nodup : ∀ (b : List (Bool × List C)) (acc : List Int), acc.Nodup → (varsLr acc b).Nodup
 | [], acc, h => h
 | p :: b, acc, h => by
  rw [varsLr, varsA_part]
  exact varsLr_nodup b _ (mergeV_nodup _ _ h)
theorem varsLr_mem : ∀ (b : List (Bool × List C)) (acc : List Int) (x : Int), x ∈ varsLr acc b ↔ x ∈ acc ∨ ∃ p ∈ b, x ∈ varsF p.2
 | [], acc, x => by simp [varsLr]
 | p :: b, acc, x => by
  rw [varsLr, varsLr_mem b, varsA_part, mergeV_mem]
  constructor
  ·rintro ((h | h) | ⟨q, h1, h2⟩)
   ·exact .inl h
   ·exact .inr ⟨p, by simp, h⟩
   ·exact .inr ⟨q, by simp [h1], h2⟩
  ·rintro (h | ⟨q, h1, h2⟩)
   ·exact .inl (.inl h)
   ·rcases List.mem_cons.1 h1 with rfl | h1
    ·exact .inl (.inr h2)
    ·exact .inr ⟨q, h1, h2⟩
theorem mergeV_own {t : List C} : mergeV [] (varsF t) = varsF t := (varsA_part [] t).symm
theorem RvY.start {w : World} {base : Nat} {l : List C} {p0 : Int} {t : List C} {A : Option Addr} {c : Nat} (h : getZ l p0 = some t) (ho : w.ownsRow base 66 3 (.slice A t.length c) t.length (flatC (turnF (placeI (mergeV [] (varsF t))) t))) (hw : ∀ c ∈ turnF (placeI (mergeV [] (varsF t))) t, c.wf) : RvY w base l p0 [] (mergeV [] (varsF t)) (.slice A t.length c) [] t [] :=
 ⟨h, rfl, mergeV_own, ⟨A, c, rfl, ho⟩, hw, rfl, fun i q v hq => by simp at hq⟩
theorem RvY.step {w : World} {base : Nat} {l : List C} {p0 : Int} {gs : List (Bool × Int)} {ns : List Int} {o : Value} {vs : List (List Value)} {t : List C} {b : List (Bool × List C)} (h : RvY w base l p0 gs ns o vs t b) {g : Bool × Int} {u : List C} (hg : getZ l g.2 = some u) {A : Option Addr} {c : Nat} (ho : w.ownsRow base 66 3 (.slice A u.length c) u.length (flatC (turnF (placeI (mergeV ns (varsF u))) u))) (hw : ∀ c ∈ turnF (placeI (mergeV ns (varsF u))) u, c.wf) :
  RvY w base l p0 (gs ++ [g]) (mergeV ns (varsF u)) o (vs ++ [[.bool g.1, .slice A u.length c]]) t (b ++ [(g.1, u)]) := by
 have hnd : ns.Nodup := by rw [h.names]; exact varsLr_nodup b _ (varsF_nodup t)
 obtain ⟨zs, hz⟩ := mergeV_ext (varsF u) ns
 have hnd2 : (ns ++ zs).Nodup := by rw [← hz]; exact mergeV_nodup _ _ hnd
 have htop : ∀ x ∈ varsF t, x ∈ ns := fun x hx => by rw [h.names, varsLr_mem]; exact .inl hx
 have hb : ∀ q ∈ b, ∀ x ∈ varsF q.2, x ∈ ns := fun q hq x hx => by rw [h.names, varsLr_mem]; exact .inr ⟨q, hq, hx⟩
 have et : turnF (placeI (mergeV ns (varsF u))) t = turnF (placeI ns) t := by rw [hz]; exact turn_more hnd2 htop
 obtain ⟨A0, c0, h1, h2⟩ := h.out
 refine ⟨h.top, ?_, ?_, ⟨A0, c0, h1, by rw [et]; exact h2⟩, by rw [et]; exact h.wf, by simp [h.len], fun i q v hq hv => ?_⟩
 ·rw [getsL_snoc, h.body, hg]
 ·rw [varsLr_append, ← h.names]
  simp only [varsLr, varsA_part]
 ·by_cases hi : i < b.length
  ·rw [List.getElem?_append_left hi] at hq
   rw [List.getElem?_append_left (by rw [h.len]; exact hi)] at hv
   have := h.lits i q v hq hv
   rw [show turnF (placeI (mergeV ns (varsF u))) q.2 = turnF (placeI ns) q.2 by rw [hz]; exact turn_more hnd2 (hb q (List.mem_of_getElem? hq))]
   exact this
  ·rw [List.getElem?_append_right (by omega)] at hq
   rw [List.getElem?_append_right (by rw [h.len]; omega)] at hv
   have hl := h.len
   by_cases hi2 : i = b.length
   ·subst hi2
    rw [hl] at hv
    simp at hq hv
    subst hq hv
    refine ⟨A, c, ?_, ?_, hw⟩
    ·simp [turnF]
    ·have e : (turnF (placeI (mergeV ns (varsF u))) u).length = u.length := by simp [turnF]
     simp only
     rw [e]
     exact ho
   ·rw [List.getElem?_eq_none (by simp; omega)] at hq
    cases hq
theorem getsZ_none {l : List C} {p0 : Int} {gs : List (Bool × Int)} (g : List (Bool × Int)) (h : getsZ l p0 gs = none) : getsZ l p0 (gs ++ g) = none := by
 unfold getsZ at h ⊢
 cases h1 : getZ l p0 with
 | none => rfl
 | some t =>
  rw [h1] at h
  have h2 : getsL l gs = none := by
   cases h2 : getsL l gs with
   | none => rfl
   | some b => rw [h2] at h; cases h
  have h3 : ∀ gs : List (Bool × Int), getsL l gs = none → getsL l (gs ++ g) = none := by
   intro gs
   induction gs with
   | nil => intro h; cases h
   | cons y gs ih =>
    intro h
    rw [getsL] at h
    rw [List.cons_append, getsL]
    cases h4 : getZ l y.2 with
    | none => rfl
    | some u =>
     rw [h4] at h
     cases h5 : getsL l gs with
     | none => rw [ih h5]
     | some b => rw [h5] at h; cases h
  rw [h3 _ h2]
theorem getsZ_fail {l : List C} {p0 : Int} {gs : List (Bool × Int)} {g : Bool × Int} (h : getZ l g.2 = none) : getsZ l p0 (gs ++ [g]) = none := by
 unfold getsZ
 rw [getsL_snoc, h]
 cases getZ l p0 <;> cases getsL l gs <;> rfl
end Go.Proofs.YtgipiplklaeplaaDoor
namespace Go.Proofs.YtgipiplklaeplaaDoor
open Go.RowKit
set_option maxRecDepth 100000 in
set_option maxHeartbeats 4000000 in
theorem kResolve_no (A : Tm) (c : Cls) (At Ah Bl : Option Addr) (k kc n cap m d : Nat) (t : List C) (b : List (Bool × List C)) (room : Int) (w : World) (h : IsC w At k kc A.flat) (hc : IsC w Ah n cap t) (hB : IsLs w Bl m d b) (hcls : IsCls c (t, b)) (hne : A.c0.beq c.head.c0 = false) :
  Calls Tryd.prog 13 #[.slice At k kc, .agg #[.slice Ah n cap, .slice Bl m d], .int .i64 room] w (RetRz w (.inr 3)) := by
 have hal : Below w.heap.size w (w.alloc (.cells #[.slice Ah n cap, .slice Bl m d] 25)) := (Below.refl _ _).alloc (Nat.le_refl _) _
 obtain ⟨ba, oa, rfl, hba, _, a0, a1, a2⟩ := h.at_ (flat_get0 A)
 obtain ⟨bh, oh, rfl, hbh, _, e0, e1, e2⟩ := hc.at_ (show t[0]? = some c.head.c0 by have q : c.head.flat = t := hcls.head; rw [← q]; exact flat_get0 _)
 have hk0 : 0 < k := by have := h.len; rw [flat_cons] at this; simp at this; omega
 have hn0 : 0 < n := by have := hc.len; have q : c.head.flat = t := hcls.head; rw [← q, flat_cons] at this; simp at this; omega
 have hkc := h.sl.hcap
 have hnc := hc.sl.hcap
 have Hh := Lib.hid h
 have Hc := Lib.hid hc
 have HB := Lib.hid hB
 have Hcls := Lib.hid hcls
 clear h hc hB hcls
 go_enter Tryd.func13, Tryd.ntmps13
 go_upto_region 1 with fail
 refine wp_world' (Φ := fun X => Below w.heap.size w X ∧ X.heap[w.heap.size]? = some (.cells #[.slice (some ⟨bh, oh, none⟩) n cap, .slice Bl m d] 25 (0, 0))) ⟨hal, alloc_at rfl⟩ ?_
 rintro X ⟨hbX, x0⟩
 obtain ⟨y0, y1, yl⟩ := open2 x0
 have z0 := (hbX.cell (p := ⟨ba, oa + 0 * 3, none⟩) hba).trans a0
 have z1 := (hbX.cell (p := ⟨ba, oa + 0 * 3 + 1, none⟩) hba).trans a1
 have z2 := (hbX.cell (p := ⟨ba, oa + 0 * 3 + 2, none⟩) hba).trans a2
 have u0 := (hbX.cell (p := ⟨bh, oh + 0 * 3, none⟩) hbh).trans e0
 have u1 := (hbX.cell (p := ⟨bh, oh + 0 * 3 + 1, none⟩) hbh).trans e1
 have u2 := (hbX.cell (p := ⟨bh, oh + 0 * 3 + 2, none⟩) hbh).trans e2
 simp only [Nat.zero_mul, Nat.add_zero] at z0 z1 z2 u0 u1 u2
 have HbX := Lib.hid hbX
 have Hx0 := Lib.hid x0
 have hneq := fun w => neqC A.c0 c.head.c0 w
 clear hbX x0 a0 a1 a2 e0 e1 e2 hal
 rw [hne] at hneq
 go_quiet (fail)
 go_wp2
 refine bodyPost_ret (v := .tuple #[.slice none 0 0, .slice none 0 0, .int .i64 3]) (by simp [results, Tryd.results13, go_sem]) rfl ?_
 exact ⟨rfl, below_drewN HbX.out nq⟩
theorem put_pos (A : Tm) : 1 ≤ (putA [] A []).1.length := by
 cases A with
 | v n => unfold putA; split <;> rename_i h <;> simp [atA] at h ⊢
 | i n => simp [putA]
 | f s us => simp [putA, layA]
theorem newF_room {x : Int} {n : Nat} (h : (n : Int) ≤ newF x) (hn : 1 ≤ n) : 1 ≤ newF x ∧ newF x ≤ 4096 := by
 refine ⟨by omega, ?_⟩
 unfold newF
 split <;> omega
set_option maxRecDepth 100000 in
set_option maxHeartbeats 4000000 in
theorem kResolve_full (A : Tm) (c : Cls) (At Ah Bl : Option Addr) (k kc n cap m d : Nat) (t : List C) (b : List (Bool × List C)) (room : Int) (w : World) (h : IsC w At k kc A.flat) (hc : IsC w Ah n cap t) (hB : IsLs w Bl m d b) (hcls : IsCls c (t, b)) (hne : A.c0.beq c.head.c0 = true) (hA : A.ok = true) (hs : A.size ≤ 200) (hroom : i64 room) (hfit : ¬ ((putA [] A []).1.length : Int) ≤ newF room) :
  Calls Tryd.prog 13 #[.slice At k kc, .agg #[.slice Ah n cap, .slice Bl m d], .int .i64 room] w (RetRz w (.inr 80)) := by
 have Hfit := Lib.hid hfit
 clear hfit
 have hal : Below w.heap.size w (w.alloc (.cells #[.slice Ah n cap, .slice Bl m d] 25)) := (Below.refl _ _).alloc (Nat.le_refl _) _
 obtain ⟨ba, oa, rfl, hba, _, a0, a1, a2⟩ := h.at_ (flat_get0 A)
 obtain ⟨bh, oh, rfl, hbh, _, e0, e1, e2⟩ := hc.at_ (show t[0]? = some c.head.c0 by have q : c.head.flat = t := hcls.head; rw [← q]; exact flat_get0 _)
 have hk0 : 0 < k := by have := h.len; rw [flat_cons] at this; simp at this; omega
 have hn0 : 0 < n := by have := hc.len; have q : c.head.flat = t := hcls.head; rw [← q, flat_cons] at this; simp at this; omega
 have hkc := h.sl.hcap
 have hnc := hc.sl.hcap
 have Hh := Lib.hid h
 have Hc := Lib.hid hc
 have HB := Lib.hid hB
 have Hcls := Lib.hid hcls
 clear h hc hB hcls
 go_enter Tryd.func13, Tryd.ntmps13
 go_upto_region 1 with fail
 refine wp_world' (Φ := fun X => Below w.heap.size w X ∧ X.heap[w.heap.size]? = some (.cells #[.slice (some ⟨bh, oh, none⟩) n cap, .slice Bl m d] 25 (0, 0))) ⟨hal, alloc_at rfl⟩ ?_
 rintro X ⟨hbX, x0⟩
 obtain ⟨y0, y1, yl⟩ := open2 x0
 have z0 := (hbX.cell (p := ⟨ba, oa + 0 * 3, none⟩) hba).trans a0
 have z1 := (hbX.cell (p := ⟨ba, oa + 0 * 3 + 1, none⟩) hba).trans a1
 have z2 := (hbX.cell (p := ⟨ba, oa + 0 * 3 + 2, none⟩) hba).trans a2
 have u0 := (hbX.cell (p := ⟨bh, oh + 0 * 3, none⟩) hbh).trans e0
 have u1 := (hbX.cell (p := ⟨bh, oh + 0 * 3 + 1, none⟩) hbh).trans e1
 have u2 := (hbX.cell (p := ⟨bh, oh + 0 * 3 + 2, none⟩) hbh).trans e2
 simp only [Nat.zero_mul, Nat.add_zero] at z0 z1 z2 u0 u1 u2
 have HbX := Lib.hid hbX
 have Hx0 := Lib.hid x0
 have hneq := fun w => neqC A.c0 c.head.c0 w
 clear hbX x0 a0 a1 a2 e0 e1 e2 hal
 rw [hne] at hneq
 go_quiet (fail)
 have HbV := Lib.hid (below_drewN HbX.out nq)
 have HhV := Lib.hid (Hh.out.below HbV.out)
 have HxV := Lib.hid (((below_drewN (Below.refl X.heap.size X) nq).block _ (block_lt Hx0.out)).trans Hx0.out)
 clear hneq z0 z1 z2 u0 u1 u2 y0 y1 yl Hx0
 generalize X.drewN nq = V at *
 go_wp2_with (first
  | (go_at_call 41; go_must (refine (hNew_any room V hroom).mono ?_); rintro e1 w1 ⟨rfl, hb1⟩; have Hb1 := Lib.hid hb1; have HhW := Lib.hid (HhV.out.below hb1); clear hb1)
  | (go_at_call 40; go_must (refine (hPut_any A none none none _ 0 0 0 0 0 0 k kc (newF room) [] [] w1 (IsC.nil0 w1) HhW.out (IsI.nil _ none 0 (by simp [maxLen])) hA hs (by omega) (by omega)).mono ?_); intro e2 w2 hput; go_must (unfold RetPut at hput; rw [if_neg (Int.not_le.2 Hfit.out)] at hput; obtain ⟨rfl, hb2⟩ := hput); have Hb2 := Lib.hid (Hb1.out.trans (hb2.mono Hb1.out.size)); clear hb2))
 go_quiet (fail)
 go_wp2
 have hW2 := HbV.out.trans (Hb2.out.mono HbV.out.size)
 refine bodyPost_ret (v := .tuple #[.slice none 0 0, .slice none 0 0, .int .i64 80]) (by simp [results, Tryd.results13, go_sem]) rfl ⟨rfl, below_drewN ((hW2.alloc hW2.size _).alloc (by have := hW2.size; simp; omega) _) _⟩
theorem range_snoc (j : Nat) : ((List.range j).map fun i => ((i + 1 : Nat) : Int)) ++ [((j + 1 : Nat) : Int)] = (List.range (j + 1)).map fun i => ((i + 1 : Nat) : Int) := by rw [List.range_succ, List.map_append]; rfl
set_option maxRecDepth 100000 in
set_option maxHeartbeats 4000000 in
theorem kResolve_err (s : ByteArray) (us : List Tm) (c : Cls) (At Ah Bl : Option Addr) (k kc n cap m d : Nat) (t : List C) (b : List (Bool × List C)) (room x : Int) (j : Nat) (w : World) (h : IsC w At k kc (Tm.f s us).flat) (hc : IsC w Ah n cap t) (hB : IsLs w Bl m d b) (hcls : IsCls c (t, b)) (hmay : mayB (t, b) = true) (hne : (Tm.f s us).c0.beq c.head.c0 = true) (hA : (Tm.f s us).ok = true) (hs : (Tm.f s us).size ≤ 200) (hroom : i64 room) (hfit : ((putA [] (Tm.f s us) []).1.length : Int) ≤ newF room) (hdt : DT w) (hout : out (resM (Tm.f s us) (newF room)) (compF c) = .err x j) (hx0 : x ≠ 0) :
  Calls Tryd.prog 13 #[.slice At k kc, .agg #[.slice Ah n cap, .slice Bl m d], .int .i64 room] w (RetRz w (.inr x)) := by
 have Hfit := Lib.hid hfit
 have Hmay := Lib.hid hmay
 have Hout := Lib.hid hout
 have Hdt := Lib.hid hdt
 clear hfit hmay hout hdt
 obtain ⟨A, hAe⟩ : ∃ A, A = Tm.f s us := ⟨_, rfl⟩
 rw [← hAe] at h hne hA hs Hfit Hout
 have HAn := Lib.hid (show A.c0.n = (us.length : Int) by rw [hAe]; rfl)
 have hul : us.length ≤ 6 := by rw [hAe] at hA; simp [Tm.ok] at hA; exact hA.2.1
 have hp0 : (putA [] A []).2.1 = 0 := by rw [hAe]; rfl
 have Hstart := Lib.hid (show startM (putA [] A []).1 [] (newF room) ((List.range us.length).map fun i => ((i + 1 : Nat) : Int)) = resM A (newF room) by rw [hAe]; rfl)
 have Hok := Lib.hid (put_okH (okH_nil (newF_room Hfit.out (put_pos A)).1 (newF_room Hfit.out (put_pos A)).2) hA (atL_nil 0) Hfit.out).1
 have HAe := Lib.hid hAe
 clear hAe
 have hal : Below w.heap.size w (w.alloc (.cells #[.slice Ah n cap, .slice Bl m d] 25)) := (Below.refl _ _).alloc (Nat.le_refl _) _
 obtain ⟨ba, oa, rfl, hba, _, a0, a1, a2⟩ := h.at_ (flat_get0 A)
 obtain ⟨bh, oh, rfl, hbh, _, e0, e1, e2⟩ := hc.at_ (show t[0]? = some c.head.c0 by have q : c.head.flat = t := hcls.head; rw [← q]; exact flat_get0 _)
 have hk0 : 0 < k := by have := h.len; rw [flat_cons] at this; simp at this; omega
 have hn0 : 0 < n := by have := hc.len; have q : c.head.flat = t := hcls.head; rw [← q, flat_cons] at this; simp at this; omega
 have hkc := h.sl.hcap
 have hnc := hc.sl.hcap
 have Hh := Lib.hid h
 have Hc := Lib.hid hc
 have HB := Lib.hid hB
 have Hcls := Lib.hid hcls
 clear h hc hB hcls
 go_enter Tryd.func13, Tryd.ntmps13
 go_upto_region 1 with fail
 refine wp_world' (Φ := fun X => Below w.heap.size w X ∧ X.heap[w.heap.size]? = some (.cells #[.slice (some ⟨bh, oh, none⟩) n cap, .slice Bl m d] 25 (0, 0))) ⟨hal, alloc_at rfl⟩ ?_
 rintro X ⟨hbX, x0⟩
 obtain ⟨y0, y1, yl⟩ := open2 x0
 have z0 := (hbX.cell (p := ⟨ba, oa + 0 * 3, none⟩) hba).trans a0
 have z1 := (hbX.cell (p := ⟨ba, oa + 0 * 3 + 1, none⟩) hba).trans a1
 have z2 := (hbX.cell (p := ⟨ba, oa + 0 * 3 + 2, none⟩) hba).trans a2
 have u0 := (hbX.cell (p := ⟨bh, oh + 0 * 3, none⟩) hbh).trans e0
 have u1 := (hbX.cell (p := ⟨bh, oh + 0 * 3 + 1, none⟩) hbh).trans e1
 have u2 := (hbX.cell (p := ⟨bh, oh + 0 * 3 + 2, none⟩) hbh).trans e2
 simp only [Nat.zero_mul, Nat.add_zero] at z0 z1 z2 u0 u1 u2
 have HbX := Lib.hid hbX
 have Hx0 := Lib.hid x0
 have hneq := fun w => neqC A.c0 c.head.c0 w
 clear hbX x0 a0 a1 a2 e0 e1 e2 hal
 rw [hne] at hneq
 go_quiet (fail)
 have HbV := Lib.hid (below_drewN HbX.out nq)
 have HhV := Lib.hid (Hh.out.below HbV.out)
 have HxV := Lib.hid (((below_drewN (Below.refl X.heap.size X) nq).block _ (block_lt Hx0.out)).trans Hx0.out)
 clear hneq z0 z1 z2 u0 u1 u2 y0 y1 yl Hx0
 generalize X.drewN nq = V at *
 have hx1 : (x == 0) = false := by simp [hx0]
 go_upto_region 6 with (first
  | (go_at_call 41; go_must (refine (hNew_any room V hroom).mono ?_); rintro e1 w1 ⟨rfl, hb1⟩; have Hb1 := Lib.hid hb1; have HhW := Lib.hid (HhV.out.below hb1); clear hb1)
  | (go_at_call 40; go_must (refine (hPut_any A none none none _ 0 0 0 0 0 0 k kc (newF room) [] [] w1 (IsC.nil0 w1) HhW.out (IsI.nil _ none 0 (by simp [maxLen])) hA hs (by omega) (by omega)).mono ?_); intro e2 w2 hput; go_must (unfold RetPut at hput; rw [if_pos Hfit.out] at hput; obtain ⟨A2, n2, c2, D2, k2, d2, rfl, hL, hD, hb2, _⟩ := hput); have Hb2 := Lib.hid ((HbV.out.trans (Hb1.out.mono HbV.out.size)).trans (hb2.mono (Nat.le_trans HbV.out.size Hb1.out.size))); have HL := Lib.hid hL; have HVw2 := Lib.hid (Hb1.out.trans (hb2.mono Hb1.out.size)); clear hL hD hb2))
 refine wp_world' (Φ := fun Y => Below w2.heap.size w2 Y ∧ Y.heap[w2.heap.size]? = some (.cells #[.slice A2 n2 c2, .slice none 0 0, .int .i64 (newF room)] 44 (0, 0)) ∧ Y.heap[w2.heap.size + 1]? = some (.cells #[.int .i64 0] 29 (0, 0))) ⟨((Below.refl _ _).alloc (Nat.le_refl _) _).alloc (by simp) _, (alloc_past (by simp)).trans (alloc_at rfl), alloc_at (by simp)⟩ ?_
 rintro Y ⟨hbY, xh, xe⟩
 have hszw2 := Hb2.out.size
 have HxY := Lib.hid (((HVw2.out.trans (hbY.mono HVw2.out.size)).block _ (block_lt HxV.out)).trans HxV.out)
 have HYw := Lib.hid (Hb2.out.trans (hbY.mono Hb2.out.size))
 have HLY := Lib.hid (HL.out.below hbY)
 obtain ⟨ba', oa', he, hbaY, _, _, _, z2⟩ := (Hh.out.below HYw.out).at_ (flat_get0 A)
 injection he with he
 injection he with he1 he2
 subst he1 he2
 simp only [Nat.zero_mul, Nat.add_zero] at z2
 rw [HAn.out] at z2
 have Hxh := Lib.hid xh
 have Hxe := Lib.hid xe
 have hi0 : i64 (us.length : Int) := i64_near (by omega) (by omega)
 clear xh xe hbY HL Hb2 Hb1 HVw2 HhW HhV HbV HxV
 go_wp2
 go_loopw [13, 49] (fun av iv wr => ∃ (j : Nat) (A5 : Option Addr) (c5 : Nat), j ≤ us.length ∧ iv = .int .i64 j ∧ av = .slice A5 j c5 ∧ Hid (Own0 wr Y.heap.size 3 1 (.slice A5 j c5) j (((List.range j).map fun i => ((i + 1 : Nat) : Int)).map (Value.int .i64))) ∧ Hid (Below Y.heap.size Y wr)) (fun _ iv _ => us.length - (intOf iv).toNat)
 case atStart => exact ⟨0, none, 0, Nat.zero_le _, rfl, rfl, Lib.hid (.inr (World.ownsRow_nil _ _ _ _)), Lib.hid (Below.refl _ _)⟩
 case round =>
  obtain ⟨j5, A5, c5, hj5, rfl, rfl, hO5, hb5⟩ := hrel
  by_cases hlt : j5 < us.length
  ·have hp : (j5 : Int) < (us.length : Int) := by omega
   have hsz5 := hb5.out.size
   have e5 : (1 + (j5 : Int)) = ((j5 + 1 : Nat) : Int) := by omega
   go_wp2_with (first | (at_builtin; go_must (refine wpList_append_own1 rfl (.tmp 52) (.tmp 57) 42 rfl Y.heap.size 3 Tryd.underlying42 infoI rfl (by omega) rfl (hO5.out.below ((Below.refl _ _).alloc (Nat.le_refl _) _)) rfl (Sl.lit _ _ [.int .i64 ((j5 : Int) + 1)] 3 1 1 (by first | rfl | simp) rfl (by decide)) (one1 rfl) (by omega) (by omega) (by omega) (by first | omega | (simp; omega) | exact Nat.le_trans hsz5 (by simp)) ?_); intro A' cap' w5 hown5 hb5' hap; have Hown5 := Lib.hid hown5; have Hb5 := Lib.hid ((hb5.out.alloc hsz5 _).trans hb5'); clear hap hb5' hown5))
   refine ⟨⟨j5 + 1, A', cap', by omega, by go_num, rfl, Lib.hid (.inr ?_), Hb5⟩, ?_⟩
   ·have := Hown5.out
    have e6 : ((j5 + 1 : Nat) : Int) = (j5 : Int) + 1 := by omega
    rw [← range_snoc, List.map_append, e6]
    exact this
   ·simp [intOf]; omega
  ·obtain rfl : j5 = us.length := by omega
   clear hlt hj5
   have xk := (hb5.out.block _ (block_lt HxY.out)).trans HxY.out
   have xh := (hb5.out.block _ (block_lt Hxh.out)).trans Hxh.out
   have xe := (hb5.out.block _ (block_lt Hxe.out)).trans Hxe.out
   obtain ⟨q0, q1, ql⟩ := open2 xk
   obtain ⟨h0, h1, h2, hl⟩ := open3 xh
   have Hbw := Lib.hid (HYw.out.trans (hb5.out.mono HYw.out.size))
   have HLw := Lib.hid (HLY.out.below hb5.out)
   have HRw := Lib.hid (show IsI wr A5 us.length c5 ((List.range us.length).map fun i => ((i + 1 : Nat) : Int)) from ⟨Own0.sl hO5.out (by omega), fun x hx => by
    obtain ⟨i, hi, rfl⟩ := List.mem_map.1 hx
    have := List.mem_range.1 hi
    exact i64_near (by omega) (by omega)⟩)
   have Hxh5 := Lib.hid xh
   have Hxe5 := Lib.hid xe
   clear xk xh xe hO5 hb5 HxY Hxh Hxe HLY
   go_wp2_with (first
    | (go_at_call 42; go_must (refine (compile_yes c _ n cap t Bl m d b wr (Hc.out.below Hbw.out) (IsG.below keepsLit HB.out Hbw.out) Hcls.out Hmay.out).mono ?_); rintro e6 w6 ⟨Kd, kn, kcap, rfl, hK, hb6⟩; have HK := Lib.hid hK; have Hb6 := Lib.hid hb6; have Hbw6 := Lib.hid (Hbw.out.trans (hb6.mono Hbw.out.size)); obtain ⟨g0, g1, g2, gl⟩ := open3 ((hb6.block _ (block_lt Hxh5.out)).trans Hxh5.out); clear hK hb6)
    | (go_at_call 19; go_must (refine (kRun_any A2 none A5 Kd n2 c2 0 0 us.length c5 kn kcap (newF room) (kn : Int) (putA [] A []).1 [] ((List.range us.length).map fun i => ((i + 1 : Nat) : Int)) (compF c) w6 (HLw.out.below Hb6.out) (IsI.nil _ none 0 (by simp [maxLen])) (HRw.out.below Hb6.out) HK.out (Hdt.out.below Hbw6.out) Hok.out (by omega) (by have := HK.out.len; have := compF_len4 Hcls.out; omega) (by have := HK.out.len; have := compF_len4 Hcls.out; exact i64_near (by omega) (by omega)) (by rw [Hstart.out, Hout.out]; simp)).mono ?_); intro e7 w7 hrun; go_must (rw [show outN (startM (putA [] A []).1 [] (newF room) ((List.range us.length).map fun i => ((i + 1 : Nat) : Int))) (compF c) (kn : Int) = .err x j by unfold outN; rw [if_neg (by have := HK.out.len; omega), Hstart.out, Hout.out]] at hrun; obtain ⟨rfl, hb7⟩ := hrun); have Hbw7 := Lib.hid (Hbw6.out.trans (hb7.mono Hbw6.out.size)); have p0 := ((hb7.block _ (by have := block_lt Hxh5.out; have := Hb6.out.size; omega)).trans ((Hb6.out.block _ (block_lt Hxh5.out)).trans Hxh5.out)); have p1 := ((hb7.block _ (by have := block_lt Hxe5.out; have := Hb6.out.size; omega)).trans ((Hb6.out.block _ (block_lt Hxe5.out)).trans Hxe5.out)); obtain ⟨g0, g1, g2, gl⟩ := open3 p0; have gf0 := frozen_of p0 0; have gf1 := frozen_of p0 1; have gf2 := frozen_of p0 2; obtain ⟨e0, el⟩ := open1 p1; have ef := frozen_of p1 0; clear hb7 p0 p1))
   go_quiet (fail)
   go_wp2
   refine bodyPost_ret (v := .tuple #[.slice none 0 0, .slice none 0 0, .int .i64 x]) (by simp [results, Tryd.results13, go_sem]) rfl ⟨rfl, below_drewN ?_ _⟩
   exact (((Hbw7.out.setCell (p := ⟨w2.heap.size, 0, none⟩) hszw2 _).setCell (p := ⟨w2.heap.size, 1, none⟩) hszw2 _).setCell (p := ⟨w2.heap.size, 2, none⟩) hszw2 _).setCell (p := ⟨w2.heap.size + 1, 0, none⟩) (Nat.le_succ_of_le hszw2) _
theorem gx_start {w7 : World} {base bh be c md d : Nat} {A B : Option Addr} {r : Int} {l : List C} {o0 o1 o2 : Value} (p0 : w7.heap[bh]? = some (.cells #[o0, o1, o2] 44 (0, 0))) (p1 : w7.heap[be]? = some (.cells #[.int .i64 0] 29 (0, 0))) (row : w7.ownsRow base 90 3 (.slice A l.length c) l.length (flatC l)) (wf : ∀ c ∈ l, c.wf) (hbe : base ≤ be) (hb : base ≤ w7.heap.size) :
  Gx (((((w7.setCell ⟨bh, 0, none⟩ (.slice A l.length c)).setCell ⟨bh, 1, none⟩ (.slice B md d)).setCell ⟨bh, 2, none⟩ (.int .i64 r)).setCell ⟨be, 0, none⟩ (.int .i64 0)).alloc (.cells #[.slice none 0 0] 42)) base bh be w7.heap.size A c B md d r l 0 none 0 [] ∧
  KT [44, 29] w7 (((((w7.setCell ⟨bh, 0, none⟩ (.slice A l.length c)).setCell ⟨bh, 1, none⟩ (.slice B md d)).setCell ⟨bh, 2, none⟩ (.int .i64 r)).setCell ⟨be, 0, none⟩ (.int .i64 0)).alloc (.cells #[.slice none 0 0] 42)) := by
 have hne : bh ≠ be := fun e => by
  rw [e, p1] at p0
  injection p0 with p0
  injection p0 with _ p0 _
  exact absurd p0 (by decide)
 have k1 : KT [44, 29] w7 (w7.setCell ⟨bh, 0, none⟩ (.slice A l.length c)) := KT.set p0 (by simp) _
 have x1 := set_block (k := 0) p0 (.slice A l.length c)
 have k2 : KT [44, 29] _ ((w7.setCell ⟨bh, 0, none⟩ (.slice A l.length c)).setCell ⟨bh, 1, none⟩ (.slice B md d)) := KT.set x1 (by simp) _
 have x2 := set_block (k := 1) x1 (.slice B md d)
 have k3 : KT [44, 29] _ (((w7.setCell ⟨bh, 0, none⟩ (.slice A l.length c)).setCell ⟨bh, 1, none⟩ (.slice B md d)).setCell ⟨bh, 2, none⟩ (.int .i64 r)) := KT.set x2 (by simp) _
 have x3 := set3_block p0 (.slice A l.length c) (.slice B md d) (.int .i64 r)
 have y3 : (((w7.setCell ⟨bh, 0, none⟩ (.slice A l.length c)).setCell ⟨bh, 1, none⟩ (.slice B md d)).setCell ⟨bh, 2, none⟩ (.int .i64 r)).heap[be]? = some (.cells #[.int .i64 0] 29 (0, 0)) := by
  rw [set_other (Ne.symm hne), set_other (Ne.symm hne), set_other (Ne.symm hne)]
  exact p1
 have k4 : KT [44, 29] _ ((((w7.setCell ⟨bh, 0, none⟩ (.slice A l.length c)).setCell ⟨bh, 1, none⟩ (.slice B md d)).setCell ⟨bh, 2, none⟩ (.int .i64 r)).setCell ⟨be, 0, none⟩ (.int .i64 0)) := KT.set y3 (by simp) _
 have k5 := ((k1.trans k2).trans k3).trans k4
 have hs : ((((w7.setCell ⟨bh, 0, none⟩ (.slice A l.length c)).setCell ⟨bh, 1, none⟩ (.slice B md d)).setCell ⟨bh, 2, none⟩ (.int .i64 r)).setCell ⟨be, 0, none⟩ (.int .i64 0)).heap.size = w7.heap.size := by simp
 have x4 := (set_other (b := be) (k := 0) hne (.int .i64 0)).trans x3
 have y4 := set_block (k := 0) y3 (.int .i64 0)
 generalize ((((w7.setCell ⟨bh, 0, none⟩ (.slice A l.length c)).setCell ⟨bh, 1, none⟩ (.slice B md d)).setCell ⟨bh, 2, none⟩ (.int .i64 r)).setCell ⟨be, 0, none⟩ (.int .i64 0)) = w8 at *
 have k6 := KT.alloc (T := [44, 29]) w8 (.cells #[.slice none 0 0] 42)
 have hb8 : Below w8.heap.size w8 (w8.alloc (.cells #[.slice none 0 0] 42)) := (Below.refl _ _).alloc (Nat.le_refl _) _
 refine ⟨⟨(hb8.block _ (block_lt x4)).trans x4, k6.own (by decide) (k5.own (by decide) row), wf, (hb8.block _ (block_lt y4)).trans (by simpa using y4), ?_, World.ownsRow_nil _ _ _ _, by simp, hbe, hb⟩, k5.trans k6⟩
 rw [← hs]
 exact alloc_at rfl
theorem getN_first {w w' : World} {base bh be bn c md d kc : Nat} {A B N : Option Addr} {r : Int} {l : List C} {p : Int} {e : Ending} (h : RetGN w base bh be bn A c B md d r l 0 N kc [] (getZ l p) e w') (hb : base ≤ w.heap.size) :
  ∃ A' n' c' x' N' kc' ns', e = .returned (.slice A' n' c') ∧ Gx w' base bh be bn A c B md d r l x' N' kc' ns' ∧ RvZ w' base l p [] x' ns' (.slice A' n' c') [] ∧ KT TG w w' ∧ Below base w w' ∧ ns'.length ≤ 200 := by
 cases hz : getZ l p with
 | none =>
  rw [hz] at h
  obtain ⟨rfl, h1, h2, h3⟩ := h
  exact ⟨none, 0, 0, 2, N, kc, [], rfl, h1, .inr ⟨rfl, by unfold getsZ; rw [hz]⟩, h2, h3, by simp⟩
 | some t =>
  rw [hz] at h
  obtain ⟨A', c', N', kc', rfl, h1, h2, h3, h4, h5⟩ := h
  have hl := getZ_lenK hz
  have hv := varsF_len t
  exact ⟨A', t.length, c', 0, N', kc', _, rfl, h3, .inl ⟨rfl, t, [], RvY.start hz (own_lower h1 hb) h2⟩, h4, h5, by have := mergeV_len (varsF t) []; simp at this; omega⟩
theorem getN_next {w w' : World} {base bh be bn c md d kc : Nat} {A B N : Option Addr} {r x : Int} {l : List C} {p : Int} {gs : List (Bool × Int)} {g : Bool × Int} {o : Value} {vs : List (List Value)} {ns : List Int} {e : Ending} (h : RetGN w base bh be bn A c B md d r l x N kc ns (getZ l g.2) e w') (hb : base ≤ w.heap.size) (hr : RvZ w base l p gs x ns o vs) :
  ∃ A' n' c' x' N' kc' ns', e = .returned (.slice A' n' c') ∧ Gx w' base bh be bn A c B md d r l x' N' kc' ns' ∧ RvZ w' base l p (gs ++ [g]) x' ns' o (vs ++ [[.bool g.1, .slice A' n' c']]) ∧ KT TG w w' ∧ Below base w w' ∧ ns'.length ≤ ns.length + 200 := by
 cases hz : getZ l g.2 with
 | none =>
  rw [hz] at h
  obtain ⟨rfl, h1, h2, h3⟩ := h
  exact ⟨none, 0, 0, 2, N, kc, ns, rfl, h1, .inr ⟨rfl, getsZ_fail hz⟩, h2, h3, by omega⟩
 | some t =>
  rw [hz] at h
  obtain ⟨A', c', N', kc', rfl, h1, h2, h3, h4, h5⟩ := h
  have hl := getZ_lenK hz
  have hv := varsF_len t
  refine ⟨A', t.length, c', x, N', kc', _, rfl, h3, ?_, h4, h5, by have := mergeV_len (varsF t) ns; omega⟩
  rcases hr with ⟨rfl, t0, b0, hr⟩ | ⟨h6, h7⟩
  ·exact .inl ⟨rfl, t0, b0 ++ [(g.1, t)], (hr.kt h4 (by decide)).step hz (own_lower h1 hb) h2⟩
  ·exact .inr ⟨h6, getsZ_none _ h7⟩
end Go.Proofs.YtgipiplklaeplaaDoor
