/- Texts of this proof that belong together: words of memory, plain laws, walks. -/
import Derived.Test.YtgipiplklaeplaaDoorB28
import Derived.Test.YtgipiplklaeplaaDoorB34
set_option linter.unusedVariables false
set_option linter.unusedSimpArgs false
namespace Go.Proofs.YtgipiplklaeplaaDoor
open Go.RowKit
set_option maxHeartbeats 400000 in
theorem tVars_new (A : Option Addr) (n cap : Nat) (t : List C) (w : World) (h : IsC w A n cap t) (hn : n ≤ 100000) :
  Calls Tryd.prog 45 #[.slice A n cap] w (fun e w' => ∃ A' n' c', e = .returned (.slice A' n' c') ∧ w'.ownsRow w.heap.size 3 1 (.slice A' n' c') n' ((varsF t).map (Value.int .i64)) ∧ (∀ x ∈ varsF t, i64 x) ∧ Below w.heap.size w w') := by
 go_enter Tryd.func45, Tryd.ntmps45
 go_wp2
 go_loopw [3, 8] (fun o i wr => ∃ (k m c' : Nat) (Ao : Option Addr) (acc : List Int), k ≤ n ∧ i = .int .i64 k ∧ o = .slice Ao m c' ∧ m ≤ k ∧ wr.ownsRow w.heap.size 3 1 (.slice Ao m c') m (acc.map (Value.int .i64)) ∧ (∀ x ∈ acc, i64 x) ∧ Hid (varsA acc (t.drop k) = varsF t) ∧ Below w.heap.size w wr) (fun _ i _ => n - (intOf i).toNat)
 case atStart => exact ⟨0, 0, 0, none, [], Nat.zero_le _, rfl, rfl, Nat.le_refl _, World.ownsRow_nil _ _ _ _, by simp, rfl, Below.refl _ _⟩
 case round =>
  obtain ⟨k, m, c', Ao, acc, hk, rfl, rfl, hm, hown, hwa, hres, hb⟩ := hrel
  have hacc : IsI wr Ao m c' acc := ⟨Sl.own hown (by omega), hwa⟩
  by_cases hlt : k < n
  ·obtain ⟨x, hxk⟩ := h.get hlt
   obtain ⟨b, off, rfl, hbb, hwf, h0, h1, h2⟩ := h.at_ hxk
   have hd := drop_get hxk
   have Hd := Lib.hid hd
   clear hxk hd
   obtain ⟨hc, hf⟩ := bcell hb
   by_cases hk1 : x.kind = 1
   ·have hbk : (x.kind == 1) = true := by simp [hk1]
    have Hk1 := Lib.hid hk1
    clear hk1
    have hcon := containsI_any Ao m c' acc x.n
    cases hin : inI acc x.n
    ·rw [hin] at hcon
     have Hcon := Lib.hid hcon
     have Hin := Lib.hid hin
     clear hcon hin
     go_wp2_with (first
      | (go_at_call 46; go_must (refine (Hcon.out _ (hacc.below (by repeat (first | assumption | exact Below.refl _ _ | refine Below.drew ?_ | refine below_drewN ?_ _ | refine Below.alloc ?_ ?_ _ | refine Below.setCell ?_ ?_ _ | (apply Below.size; assumption) | (simp; done) | (simp; omega) | (have hz := hb.size; simp; omega) | (have hz := hb.size; omega) | omega))) (by omega)).mono ?_); rintro e w1 ⟨rfl, rfl⟩)
      | (at_builtin; go_must (refine wpList_append_sl rfl (.tmp 22) (.tmp 25) 42 rfl w.heap.size 3 Tryd.underlying42 infoI rfl (by omega) rfl ((hown.alloc _).alloc _) rfl (Sl.lit _ _ [.int .i64 x.n] 3 1 1 (by simp) rfl (by simp [maxLen])) (one1 rfl) (by omega) (by omega) (by have := hb.size; simp; omega) ?_); intro A' cap' w1 hown1 hb1 _ _))
     have hb2 : Below w.heap.size w w1 := Below.trans (by repeat (first | assumption | exact Below.refl _ _ | refine Below.drew ?_ | refine below_drewN ?_ _ | refine Below.alloc ?_ ?_ _ | refine Below.setCell ?_ ?_ _ | (apply Below.size; assumption) | (simp; done) | (simp; omega) | (have hz := hb.size; simp; omega) | (have hz := hb.size; omega) | omega)) hb1
     go_roundw
     case rel =>
      refine ⟨k + 1, m + 1, cap', A', acc ++ [x.n], by omega, by go_num, rfl, by omega, by simpa using hown1, ?_, Lib.hid ?_, hb2⟩
      ·intro y hy
       rcases List.mem_append.1 hy with hy | hy
       ·exact hwa y hy
       ·simp at hy; subst hy; exact hwf.n
      ·have := hres.out
       rw [Hd.out, varsA_cons, if_pos ⟨Hk1.out, Hin.out⟩] at this
       exact this
     case measure => simp [intOf]; omega
    ·rw [hin] at hcon
     have Hcon := Lib.hid hcon
     have Hin := Lib.hid hin
     clear hcon hin
     go_wp2_with (first
      | (go_at_call 46; go_must (refine (Hcon.out _ (hacc.below (by repeat (first | assumption | exact Below.refl _ _ | refine Below.drew ?_ | refine below_drewN ?_ _ | refine Below.alloc ?_ ?_ _ | refine Below.setCell ?_ ?_ _ | (apply Below.size; assumption) | (simp; done) | (simp; omega) | (have hz := hb.size; simp; omega) | (have hz := hb.size; omega) | omega))) (by omega)).mono ?_); rintro e w1 ⟨rfl, rfl⟩))
     go_roundw
     case rel =>
      refine ⟨k + 1, m, c', Ao, acc, by omega, by go_num, rfl, by omega, hown.alloc _, hwa, Lib.hid ?_, (by repeat (first | assumption | exact Below.refl _ _ | refine Below.drew ?_ | refine below_drewN ?_ _ | refine Below.alloc ?_ ?_ _ | refine Below.setCell ?_ ?_ _ | (apply Below.size; assumption) | (simp; done) | (simp; omega) | (have hz := hb.size; simp; omega) | (have hz := hb.size; omega) | omega))⟩
      have := hres.out
      rw [Hd.out, varsA_cons, if_neg (by simp [Hin.out])] at this
      exact this
     case measure => simp [intOf]; omega
   ·have hbk : (x.kind == 1) = false := by simp [hk1]
    have Hk1 := Lib.hid hk1
    clear hk1
    go_wp2
    go_roundw
    case rel =>
     refine ⟨k + 1, m, c', Ao, acc, by omega, by go_num, rfl, by omega, hown.alloc _, hwa, Lib.hid ?_, (by repeat (first | assumption | exact Below.refl _ _ | refine Below.drew ?_ | refine below_drewN ?_ _ | refine Below.alloc ?_ ?_ _ | refine Below.setCell ?_ ?_ _ | (apply Below.size; assumption) | (simp; done) | (simp; omega) | (have hz := hb.size; simp; omega) | (have hz := hb.size; omega) | omega))⟩
     have := hres.out
     rw [Hd.out, varsA_cons, if_neg (by simp [Hk1.out])] at this
     exact this
    case measure => simp [intOf]; omega
  ·go_wp2
   go_ret
   have := hres.out; rw [drop_end h.len hlt] at this
   exact ⟨_, _, _, rfl, by rw [← this]; exact hown, by rw [← this]; exact hwa, hb⟩
structure KT (T : List TypeId) (w w' : World) : Prop where
 size : w.heap.size ≤ w'.heap.size
 keep : ∀ (g : Nat) (cs : Array Value) (t : TypeId), t ∉ T → w.heap[g]? = some (Obj.cells cs t (0, 0)) → w'.heap[g]? = some (Obj.cells cs t (0, 0))
section
variable {T : List TypeId} {w w' w'' : World}
theorem KT.refl (T : List TypeId) (w : World) : KT T w w := ⟨Nat.le_refl _, fun _ _ _ _ h => h⟩
theorem KT.trans (h : KT T w w') (h' : KT T w' w'') : KT T w w'' := ⟨Nat.le_trans h.size h'.size, fun g cs t n hx => h'.keep g cs t n (h.keep g cs t n hx)⟩
theorem KT.below (hb : Below w.heap.size w w') : KT T w w' := ⟨hb.size, fun g _ _ _ hx => (hb.block g (block_lt hx)).trans hx⟩
theorem KT.alloc (w : World) (o : Obj) : KT T w (w.alloc o) := KT.below ((Below.refl _ _).alloc (Nat.le_refl _) o)
theorem KT.set {g k : Nat} {cs : Array Value} {t : TypeId} (hx : w.heap[g]? = some (.cells cs t (0, 0))) (ht : t ∈ T) (v : Value) : KT T w (w.setCell ⟨g, k, none⟩ v) := ⟨by simp, fun q cs' t' n hq => by
 have hne : q ≠ g := fun e => by
  subst e
  rw [hx] at hq
  injection hq with hq
  injection hq with _ hq _
  exact n (hq ▸ ht)
 exact (set_other hne v).trans hq⟩
theorem KT.setNew (h : KT T w w') {g k : Nat} (hg : w.heap.size ≤ g) (v : Value) : KT T w (w'.setCell ⟨g, k, none⟩ v) := ⟨by simpa using h.size, fun q cs t n hq => (set_other (by have := block_lt hq; omega) v).trans (h.keep q cs t n hq)⟩
theorem KT.app {base size n cap : Nat} {e : TypeId} {A A' : Option Addr} {xs : List Value} (ho : w.ownsRow base e size (.slice A n cap) n xs) (hp : Apart w w' A A') (ht : e ∈ T) : KT T w w' := ⟨hp.size, fun q cs t n hq => by
 rw [hp.old q (block_lt hq) (own_ne ho hq (by intro cur he; injection he with _ f2 _; exact n (f2 ▸ ht)))]
 exact hq⟩
theorem KT.own {base size n cap : Nat} {e : TypeId} {A : Option Addr} {xs : List Value} (h : KT T w w') (ht : e ∉ T) (ho : w.ownsRow base e size (.slice A n cap) n xs) : w'.ownsRow base e size (.slice A n cap) n xs :=
 own_at ho fun a ha => by
  obtain ⟨cur, hc⟩ := own_obj ho a ha
  rw [hc]
  exact h.keep _ _ _ ht hc
end
end Go.Proofs.YtgipiplklaeplaaDoor
namespace Go.Proofs.YtgipiplklaeplaaDoor
open Go.RowKit
structure Gx (w : World) (base bh be bn : Nat) (A : Option Addr) (c : Nat) (B : Option Addr) (md d : Nat) (r : Int) (l : List C) (x : Int) (N : Option Addr) (kc : Nat) (ns : List Int) : Prop where
 hp : w.heap[bh]? = some (.cells #[.slice A l.length c, .slice B md d, .int .i64 r] 44 (0, 0))
 row : w.ownsRow base 90 3 (.slice A l.length c) l.length (flatC l)
 wfc : ∀ c ∈ l, c.wf
 er : w.heap[be]? = some (.cells #[.int .i64 x] 29 (0, 0))
 nb : w.heap[bn]? = some (.cells #[.slice N ns.length kc] 42 (0, 0))
 nr : w.ownsRow base 3 1 (.slice N ns.length kc) ns.length (ns.map (Value.int .i64))
 wfn : ∀ x ∈ ns, i64 x
 loe : base ≤ be
 lon : base ≤ bn
abbrev TG : List TypeId := [29, 42, 3]
section
variable {w w' : World} {base bh be bn c md d kc : Nat} {A B N : Option Addr} {r x : Int} {l : List C} {ns : List Int}
theorem Gx.below (h : Gx w base bh be bn A c B md d r l x N kc ns) (hb : Below w.heap.size w w') : Gx w' base bh be bn A c B md d r l x N kc ns :=
 ⟨(hb.block _ (block_lt h.hp)).trans h.hp, own_below h.row hb, h.wfc, (hb.block _ (block_lt h.er)).trans h.er, (hb.block _ (block_lt h.nb)).trans h.nb, own_below h.nr hb, h.wfn, h.loe, h.lon⟩
theorem Gx.isC (h : Gx w base bh be bn A c B md d r l x N kc ns) : IsC w A l.length c l := ⟨Sl.own h.row (by omega), h.wfc⟩
theorem Gx.isN (h : Gx w base bh be bn A c B md d r l x N kc ns) : IsI w N ns.length kc ns := ⟨Sl.own h.nr (by omega), h.wfn⟩
theorem Gx.set (h : Gx w base bh be bn A c B md d r l x N kc ns) {g k : Nat} {cs : Array Value} {t : TypeId} (hx : w.heap[g]? = some (.cells cs t (0, 0))) (ht : t ≠ 44 ∧ t ≠ 90 ∧ t ≠ 29 ∧ t ≠ 42 ∧ t ≠ 3) (v : Value) : Gx (w.setCell ⟨g, k, none⟩ v) base bh be bn A c B md d r l x N kc ns := by
 have hk : KT [t] w (w.setCell ⟨g, k, none⟩ v) := KT.set hx (by simp) v
 have hn : ∀ u : TypeId, t ≠ u → u ∉ [t] := fun u hu hm => by
  simp at hm
  exact hu hm.symm
 exact ⟨hk.keep _ _ _ (hn _ ht.1) h.hp, hk.own (hn _ ht.2.1) h.row, h.wfc, hk.keep _ _ _ (hn _ ht.2.2.1) h.er, hk.keep _ _ _ (hn _ ht.2.2.2.1) h.nb, hk.own (hn _ ht.2.2.2.2) h.nr, h.wfn, h.loe, h.lon⟩
theorem Gx.err (h : Gx w base bh be bn A c B md d r l x N kc ns) (y : Int) : Gx (w.setCell ⟨be, 0, none⟩ (.int .i64 y)) base bh be bn A c B md d r l y N kc ns := by
 have hk : KT [29] w (w.setCell ⟨be, 0, none⟩ (.int .i64 y)) := KT.set h.er (by simp) _
 exact ⟨hk.keep _ _ _ (by decide) h.hp, hk.own (by decide) h.row, h.wfc, by simpa using set_block (k := 0) h.er (.int .i64 y), hk.keep _ _ _ (by decide) h.nb, hk.own (by decide) h.nr, h.wfn, h.loe, h.lon⟩
theorem Gx.name (h : Gx w base bh be bn A c B md d r l x N kc ns) {N' : Option Addr} {kc' n' : Nat} {y : Int} (hy : i64 y) (hn : n' = ns.length + 1) (ho : w'.ownsRow base 3 1 (.slice N' n' kc') n' (ns.map (Value.int .i64) ++ [.int .i64 y])) (hp : Apart w w' N N') :
  Gx (w'.setCell ⟨bn, 0, none⟩ (.slice N' n' kc')) base bh be bn A c B md d r l x N' kc' (ns ++ [y]) := by
 subst hn
 have h1 : KT [3] w w' := KT.app h.nr hp (by simp)
 have hnb := h1.keep _ _ _ (by decide) h.nb
 have h2 : KT [42] w' (w'.setCell ⟨bn, 0, none⟩ (.slice N' (ns.length + 1) kc')) := KT.set hnb (by simp) _
 refine ⟨h2.keep _ _ _ (by decide) (h1.keep _ _ _ (by decide) h.hp), h2.own (by decide) (h1.own (by decide) h.row), h.wfc, h2.keep _ _ _ (by decide) (h1.keep _ _ _ (by decide) h.er), by simpa using set_block (k := 0) hnb (.slice N' (ns.length + 1) kc'), ?_, ?_, h.loe, h.lon⟩
 ·have := h2.own (by decide) ho
  simpa using this
 ·intro z hz
  rcases List.mem_append.1 hz with hz | hz
  ·exact h.wfn z hz
  ·simp at hz; subst hz; exact hy
end
def RetGN (w : World) (base bh be bn : Nat) (A : Option Addr) (c : Nat) (B : Option Addr) (md d : Nat) (r : Int) (l : List C) (x : Int) (N : Option Addr) (kc : Nat) (ns : List Int) (o : Option (List C)) (e : Ending) (w' : World) : Prop := match o with
 | none => e = .returned (.slice none 0 0) ∧ Gx w' base bh be bn A c B md d r l 2 N kc ns ∧ KT TG w w' ∧ Below base w w'
 | some t => ∃ A' c' N' kc', e = .returned (.slice A' t.length c') ∧ w'.ownsRow w.heap.size 66 3 (.slice A' t.length c') t.length (flatC (turnF (placeI (mergeV ns (varsF t))) t)) ∧ (∀ c ∈ turnF (placeI (mergeV ns (varsF t))) t, c.wf) ∧ Gx w' base bh be bn A c B md d r l x N' kc' (mergeV ns (varsF t)) ∧ KT TG w w' ∧ Below base w w'
theorem open1 {w : World} {b : Nat} {v0 : Value} {t : TypeId} (h : w.heap[b]? = some (.cells #[v0] t (0, 0))) : w.cell? ⟨b, 0, none⟩ = some v0 ∧ b < w.heap.size := ⟨cells_of h 0, block_lt h⟩
theorem getZ_lenK {l : List C} {x : Int} {t : List C} (h : getZ l x = some t) : t.length ≤ 200 := by
 unfold getZ at h
 split at h
 ·unfold getF at h
  split at h
  ·rename_i h1
   injection h with h
   rw [← h, flat_size]
   exact h1.1
  ·cases h
 ·cases h
theorem mergeV_len : ∀ (l acc : List Int), (mergeV acc l).length ≤ acc.length + l.length
 | [], acc => by simp [mergeV]
 | x :: l, acc => by
  rw [mergeV_step]
  split
  ·have := mergeV_len l acc
   simp; omega
  ·have := mergeV_len l (acc ++ [x])
   simp at this ⊢; omega
theorem mergeV_ge : ∀ (l acc : List Int), acc.length ≤ (mergeV acc l).length
 | [], acc => by simp [mergeV]
 | x :: l, acc => by
  rw [mergeV_step]
  split
  ·exact mergeV_ge l acc
  ·have := mergeV_ge l (acc ++ [x])
   simp at this
   omega
set_option maxRecDepth 100000 in
set_option maxHeartbeats 4000000 in
theorem kGetN_any (w : World) (base bh be bn : Nat) (A : Option Addr) (c : Nat) (B : Option Addr) (md d : Nat) (r : Int) (l : List C) (x : Int) (N : Option Addr) (kc : Nat) (ns : List Int) (p : Int)
  (h : Gx w base bh be bn A c B md d r l x N kc ns) (hg : Good l) (hn : l.length ≤ 100000) (hk : ns.length ≤ 50000) (hb0 : base ≤ w.heap.size) :
  Calls Tryd.prog 43 #[.int .i64 p, .pointer (some ⟨bh, 0, none⟩), .pointer (some ⟨be, 0, none⟩), .pointer (some ⟨bn, 0, none⟩)] w (RetGN w base bh be bn A c B md d r l x N kc ns (getZ l p)) := by
 have HG := Lib.hid h
 have hget := hGet_any A B l.length c md d r p l w h.isC hg hn
 have Hget := Lib.hid hget
 obtain ⟨y0, y1, y2, yl⟩ := open3 h.hp
 clear h hget
 cases hz : getZ l p with
 | none =>
  rw [hz] at Hget
  clear hz
  go_enter Tryd.func43, Tryd.ntmps43
  go_wp2_with (first | (go_at_call 24; go_must (refine Hget.out.mono ?_); rintro e1 w1 ⟨hb1, rfl⟩; have HG1 := Lib.hid (HG.out.below hb1); have Hb1 := Lib.hid hb1; obtain ⟨z0, zl⟩ := open1 HG1.out.er; have zf := frozen_of HG1.out.er 0; clear hb1))
  go_ret
  exact ⟨rfl, HG1.out.err 2, (KT.below Hb1.out).trans (KT.set HG1.out.er (by simp) _), (Hb1.out.mono hb0).setCell HG1.out.loe _⟩
 | some t =>
  rw [hz] at Hget
  have htl := getZ_lenK hz
  clear hz
  go_enter Tryd.func43, Tryd.ntmps43
  go_wp2_with (first
   | (go_at_call 24; go_must (refine Hget.out.mono ?_); rintro e1 w1 ⟨hb1, T, n1, c1, rfl, hT⟩; have HG1 := Lib.hid (HG.out.below hb1); have Hb1 := Lib.hid hb1; have q := hT.len; subst q; have HT := Lib.hid hT; clear hb1 hT)
   | (go_at_call 44; go_must (refine (clone_any _ _ _ t _ HT.out (by have := HT.out.len; omega)).mono ?_); rintro e2 w2 ⟨A2, c2, rfl, ho2, hb2⟩; have HO2 := Lib.hid (own_lower ho2 Hb1.out.size); have HG2 := Lib.hid (HG1.out.below hb2); have Hb2 := Lib.hid (Hb1.out.trans (hb2.mono Hb1.out.size)); clear ho2 hb2)
   | (go_at_call 45; go_must (refine (tVars_new _ _ _ t _ ⟨Sl.own HO2.out (by omega), HT.out.wf⟩ (by have := HT.out.len; omega)).mono ?_); rintro e3 w3 ⟨W, wn, wc, rfl, ho3, hw3, hb3⟩))
  have HG3 := Lib.hid (HG2.out.below hb3)
  have HO3 := Lib.hid (own_below HO2.out hb3)
  have HB3 := Lib.hid (Hb2.out.trans (hb3.mono Hb2.out.size))
  have hWl : (varsF t).length = wn := by have := ho3.1; simpa using this
  have hw200 : wn ≤ 200 := by have := varsF_len t; omega
  have hW3 : IsI w3 W wn wc (varsF t) := ⟨Sl.own ho3 (by omega), hw3⟩
  have hsep3 : ∀ a a', N = some a → W = some a' → a.block ≠ a'.block := fun a a' h1 h2 => by
   have q1 := (Own0.lt HG2.out.nr a h1).2
   have q2 := (Own0.lt ho3 a' h2).1
   omega
  have HW3 := Lib.hid ho3
  have Hw3 := Lib.hid hw3
  have Hsep3 := Lib.hid hsep3
  have HWl := Lib.hid hWl
  clear HG Hget HG1 Hb1 HG2 HO2 Hb2 ho3 hw3 hb3 hW3 hsep3 hWl y0 y1 y2 yl
  go_loopw [25] (fun iv wr => ∃ (j kc' : Nat) (N' : Option Addr) (ys : List Int), j ≤ wn ∧ iv = .int .i64 j ∧ Hid (Gx wr base bh be bn A c B md d r l x N' kc' ys) ∧ Hid (mergeV ys ((varsF t).drop j) = mergeV ns (varsF t)) ∧ Hid (KT TG w3 wr) ∧ Hid (Below base w3 wr) ∧ Hid (wr.ownsRow w2.heap.size 3 1 (.slice W wn wc) wn ((varsF t).map (Value.int .i64))) ∧ Hid (∀ a a', N' = some a → W = some a' → a.block ≠ a'.block)) (fun iv _ => wn - (intOf iv).toNat)
  case atStart => exact ⟨0, kc, N, ns, Nat.zero_le _, rfl, HG3, Lib.hid rfl, Lib.hid (KT.refl _ _), Lib.hid (Below.refl _ _), HW3, Hsep3⟩
  case round =>
   clear HG3 HW3 Hsep3
   obtain ⟨j, kc', N', ys, hj, rfl, hG, hmer, hkt, hbr, hOW, hsep⟩ := hrel
   have hWr : IsI wr W wn wc (varsF t) := ⟨Sl.own hOW.out (by omega), Hw3.out⟩
   have hyl : ys.length ≤ 100000 := by
    have q1 := mergeV_ge ((varsF t).drop j) ys
    have q2 := mergeV_len (varsF t) ns
    have q3 := HWl.out
    rw [hmer.out] at q1
    omega
   have hb0r : base ≤ wr.heap.size := by have := hbr.out.size; have := HB3.out.size; omega
   by_cases hlt : j < wn
   ·obtain ⟨y, hyj⟩ := hWr.get hlt
    obtain ⟨bW, offW, rfl, hbW, hwy, hx0⟩ := hWr.at_ hyj
    have Hd := Lib.hid (drop_get hyj)
    have hnb := hG.out.nb
    obtain ⟨n0, nl⟩ := open1 hnb
    have hcon := containsI_any N' ys.length kc' ys y
    have hp : (j : Int) < (wn : Int) := by omega
    clear hyj hnb hWr
    cases hin : inI ys y
    ·rw [hin] at hcon
     have Hcon := Lib.hid hcon
     have Hin := Lib.hid hin
     clear hcon hin
     go_wp2_with (first
      | (go_at_call 46; go_must (refine (Hcon.out _ hG.out.isN (by omega)).mono ?_); rintro e1 w1 ⟨rfl, rfl⟩)
      | (at_builtin; go_must (refine wpList_append_own1 rfl (.tmp 33) (.tmp 35) 42 rfl base 3 Tryd.underlying42 infoI rfl (by omega) rfl (.inr (own_below hG.out.nr ((Below.refl _ _).alloc (Nat.le_refl _) _))) rfl (Sl.lit _ _ [.int .i64 y] 3 1 1 (by simp) rfl (by simp [maxLen])) (one1 rfl) (by omega) (by omega) (by omega) (by simp; omega) ?_); intro A' cap' w5 hown5 hb5 hap; have HG5 := Lib.hid (((hG.out.below ((Below.refl _ _).alloc (Nat.le_refl _) _))).name hwy rfl hown5 hap); have hkt5 : KT TG _ w5 := KT.app (own_below hG.out.nr ((Below.refl _ _).alloc (Nat.le_refl _) _)) hap (by simp); have hnb5 := (KT.app (T := [3]) (own_below hG.out.nr ((Below.refl _ _).alloc (Nat.le_refl _) _)) hap (by simp)).keep _ _ _ (by decide) ((hG.out.below ((Below.refl _ _).alloc (Nat.le_refl _) _)).nb); have hnf5 := frozen_of hnb5 0; have Hkt5 := Lib.hid (((KT.alloc (T := TG) _ _).trans hkt5).trans (KT.set (k := 0) hnb5 (by simp) (.slice A' (ys.length + 1) cap'))); obtain ⟨m0, ml⟩ := open1 hnb5; have how := own_below hOW.out ((Below.refl wr.heap.size wr).alloc (Nat.le_refl _) (.cells #[.int .i64 y] 3)); have HW5 := Lib.hid ((KT.set (T := [42]) (k := 0) hnb5 (by simp) (.slice A' (ys.length + 1) cap')).own (by decide) (own_at how fun a ha => hap.old a.block (Own0.lt how a ha).2 (fun b hb he => hsep.out b a hb ha he))); clear how; have Hap := Lib.hid hap; have Hb5 := Lib.hid hb5; clear hkt5 hown5 hap hb5))
     refine ⟨⟨j + 1, cap', A', ys ++ [y], by omega, by go_num, HG5, Lib.hid ?_, Lib.hid (hkt.out.trans Hkt5.out), Lib.hid (((hbr.out.alloc (by have := HB3.out.size; omega) _).trans Hb5.out).setCell HG5.out.lon _), HW5, Lib.hid ?_⟩, ?_⟩
     ·have := hmer.out
      rw [Hd.out, mergeV_step, if_neg (by simp [Hin.out])] at this
      exact this
     ·rintro a a' ha ha'
      cases ha'
      rcases (Hap.out.blk a ha).2 with ⟨a0, q0, q1⟩ | q1
      ·rw [q1]; exact hsep.out a0 _ q0 rfl
      ·simp at q1 ⊢; omega
     ·simp [intOf]; omega
    ·rw [hin] at hcon
     have Hcon := Lib.hid hcon
     have Hin := Lib.hid hin
     clear hcon hin
     go_wp2_with (first
      | (go_at_call 46; go_must (refine (Hcon.out _ hG.out.isN (by omega)).mono ?_); rintro e1 w1 ⟨rfl, rfl⟩))
     refine ⟨⟨j + 1, kc', N', ys, by omega, by go_num, hG, Lib.hid ?_, hkt, hbr, hOW, hsep⟩, ?_⟩
     ·have := hmer.out
      rw [Hd.out, mergeV_step, if_pos Hin.out] at this
      exact this
     ·simp [intOf]; omega
   ·have hys : ys = mergeV ns (varsF t) := by
     have := hmer.out
     rw [drop_end HWl.out hlt] at this
     rw [← this]; rfl
    have HO4 := Lib.hid (hkt.out.own (by decide) HO3.out)
    have HB4 := Lib.hid ((HB3.out.mono hb0).trans hbr.out)
    have HK4 := Lib.hid ((KT.below (T := TG) HB3.out).trans hkt.out)
    clear hkt hbr hmer hOW hsep HO3 HB3 HWl Hw3 hWr
    have Hys := Lib.hid hys
    have hturn : ∀ c ∈ turnF (placeI ys) t, c.wf := turn_wf (fun z => place_i64 ys z hyl) HT.out.wf
    have Hturn := Lib.hid hturn
    clear hturn hys
    go_wp2
    go_loopw [40] (fun iv wr => ∃ (k : Nat), k ≤ t.length ∧ iv = .int .i64 k ∧ Hid (wr.ownsRow w.heap.size 66 3 (.slice A2 t.length c2) t.length (flatC (turnF (placeI ys) (t.take k) ++ t.drop k))) ∧ Hid (Gx wr base bh be bn A c B md d r l x N' kc' ys) ∧ Hid (KT TG w wr) ∧ Hid (Below base w wr)) (fun iv _ => t.length - (intOf iv).toNat)
    case atStart => exact ⟨0, Nat.zero_le _, rfl, Lib.hid (by simpa [turnF] using HO4.out), hG, HK4, HB4⟩
    case round =>
     clear HO4 HK4 HB4 hG
     obtain ⟨k, hk2, rfl, hO, hG, hkt, hbr⟩ := hrel
     have hcp : t.length ≤ c2 := (Sl.own hO.out (by omega)).hcap
     by_cases hlt2 : k < t.length
     ·obtain ⟨y, hyk⟩ : ∃ y, t[k]? = some y := ⟨_, List.getElem?_eq_getElem hlt2⟩
      have hwf := HT.out.wf y (List.mem_of_getElem? hyk)
      obtain ⟨gg, rfl⟩ : ∃ gg, A2 = some ⟨gg, 0, none⟩ := by
       obtain ⟨g, cap', hv, _⟩ := hO.out.form (by omega)
       injection hv with hv
       exact ⟨g, hv⟩
      have hyk' : (turnF (placeI ys) (t.take k) ++ t.drop k)[k]? = some y := by
       rw [List.getElem?_append_right (by simp [turnF]; omega)]
       simp [turnF, hyk, show min k t.length = k by omega]
      obtain ⟨f0, f1, f2⟩ := flatC_get _ _ _ hyk'
      have h0 := (hO.out.cellAt (k * 3) (by omega)).trans f0
      have h1 := (hO.out.cellAt (k * 3 + 1) (by omega)).trans f1
      have h2 := (hO.out.cellAt (k * 3 + 2) (by omega)).trans f2
      have hz0 := hO.out.frozenAt (k * 3 + 2)
      obtain ⟨hg1, hg2⟩ := hO.out.lt gg rfl
      have Hset := Lib.hid (fun hk1 : y.kind = 1 => turn_step (placeI ys) hyk hk1)
      have Hkeep := Lib.hid (fun hk1 : y.kind ≠ 1 => turn_keep (placeI ys) hyk hk1)
      obtain ⟨cur, hcur⟩ := own_obj hO.out _ rfl
      simp only at hcur
      have Hcur := Lib.hid hcur
      obtain ⟨n0, nl⟩ := open1 hG.out.nb
      have hp : (k : Int) < (t.length : Int) := by omega
      have hne : ¬ gg = wr.heap.size := by omega
      have hb0r : base ≤ wr.heap.size := by have := hbr.out.size; omega
      clear hyk hyk' f0 f1 f2 hcur
      by_cases hk1 : y.kind = 1
      ·have hbk : (y.kind == 1) = true := by simp [hk1]
       have Hk1 := Lib.hid hk1
       clear hk1
       have hcn := World.cell?_alloc_lt wr (.cells #[.int .i64 y.kind, .string y.name, .int .i64 y.n] 66) ⟨bn, 0, none⟩ nl
       rw [n0] at hcn
       have hpl := place_i64 ys y.n hyl
       go_wp2_with (first | (go_at_call 47; go_must (refine (indexI_any N' ys.length kc' ys y.n _ (hG.out.isN.below ((Below.refl _ _).alloc (Nat.le_refl _) _)) (by omega)).mono ?_); rintro e1 w1 ⟨rfl, rfl⟩))
       refine ⟨⟨k + 1, by omega, by go_num, Lib.hid ?_, Lib.hid ((hG.out.set Hcur.out (by decide) _).below ((Below.refl _ _).alloc (Nat.le_refl _) _)), Lib.hid ((hkt.out.setNew hg1 _).trans (KT.alloc _ _)), Lib.hid ((hbr.out.setCell (p := ⟨gg, k * 3 + 2, none⟩) (show base ≤ gg by omega) _).alloc (by simpa using hb0r) _)⟩, ?_⟩
       ·rw [← Hset.out Hk1.out]
        exact ((hO.out.stored (k * 3 + 2) _).1).alloc _
       ·simp [intOf]; omega
      ·have hbk : (y.kind == 1) = false := by simp [hk1]
       have Hk1 := Lib.hid hk1
       clear hk1
       go_wp2
       refine ⟨⟨k + 1, by omega, by go_num, Lib.hid (by rw [← Hkeep.out Hk1.out]; exact hO.out.alloc _), Lib.hid (hG.out.below ((Below.refl _ _).alloc (Nat.le_refl _) _)), Lib.hid (hkt.out.trans (KT.alloc _ _)), Lib.hid (hbr.out.alloc hb0r _)⟩, ?_⟩
       simp [intOf]; omega
     ·go_wp2
      go_ret
      have hkn : k = t.length := by omega
      subst hkn
      have hO2 := hO.out
      rw [List.take_length, List.drop_length, List.append_nil] at hO2
      obtain rfl := Hys.out
      exact ⟨_, _, _, _, rfl, hO2, Hturn.out, hG.out, hkt.out, hbr.out⟩
end Go.Proofs.YtgipiplklaeplaaDoor
