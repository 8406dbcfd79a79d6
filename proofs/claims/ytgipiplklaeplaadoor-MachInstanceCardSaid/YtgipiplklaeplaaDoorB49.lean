/- Texts of this proof that belong together: words of memory, plain laws, walks. -/
import Derived.Test.YtgipiplklaeplaaDoorB14
import Derived.Test.YtgipiplklaeplaaDoorB36
import Derived.Test.YtgipiplklaeplaaDoorB45
import Derived.Test.YtgipiplklaeplaaDoorB46
import Derived.Test.YtgipiplklaeplaaDoorB47
import Derived.Test.YtgipiplklaeplaaDoorB48
set_option linter.unusedVariables false
set_option linter.unusedSimpArgs false
namespace Go.Proofs.YtgipiplklaeplaaDoor
open Go.RowKit
theorem u8R {v : Int} (h : (Lit.int .u8 v).wf = true) : 0 ≤ v ∧ v ≤ 255 := by
 simp [Lit.wf, IntKind.min, IntKind.max, IntKind.signed, IntKind.bits] at h
 omega
def CB (w : World) (g : Nat) (A : Option Addr) (n c : Nat) (B : Option Addr) (m d : Nat) : Prop := w.heap[g]? = some (.cells #[.slice A n c, .slice B m d] 25 (0, 0))
section
variable {w w' : World} {g n c m d : Nat} {A B : Option Addr} {t : List C} {b : List (Bool × List C)}
theorem CB.below (h : CB w g A n c B m d) (hb : Below w.heap.size w w') : CB w' g A n c B m d := (hb.block g (block_lt h)).trans h
theorem fewB_may {r : Raw} (h : fewB r 40 = true) : mayB r = true := by
 simp only [fewB, Bool.and_eq_true] at h
 exact h.2.2.2
theorem fewB_cls {r : Raw} (h : fewB r 40 = true) : ∃ cl, IsCls cl r ∧ Small cl := by
 obtain ⟨cl, hc⟩ := mayB_cls (fewB_may h)
 exact ⟨cl, hc, small_of hc h⟩
theorem few11 (w : World) (h : IsC w A n c t) (hB : IsLs w B m d b) : Calls Tryd.prog 12 #[.agg #[.slice A n c, .slice B m d], .int .i64 40] w (RetV w (.bool (fewB (t, b) 40))) :=
 rFew_any A n c t B m d b 40 w h hB (by omega) (i64_near (by omega) (by omega))
theorem rLits_v {B' : Option Addr} {d' : Nat} (hB : IsLs w B m d b) (hB' : IsLs w B' m d' b) (hs : ∀ x ∈ b, x.2.length ≤ 1000) : Calls Tryd.prog 32 #[.slice B m d, .slice B' m d'] w (RetV w (.bool true)) := by
 have := rLits_any B m d b B' m d' b w hB hB' (fun x hx => by have := hs x hx; omega) (fun x hx => by have := hs x hx; omega)
 rw [(sameBody_iff b b).2 rfl] at this
 exact this
theorem numR_short {r : Raw} (h1 : r.1.length ≤ 1000) (h2 : ∀ x ∈ r.2, x.2.length ≤ 1000) : (numR r).1.length ≤ 1000 ∧ ∀ x ∈ (numR r).2, x.2.length ≤ 1000 := by
 refine ⟨by unfold numR; simp only; rw [turn_len]; exact h1, fun x hx => ?_⟩
 unfold numR at hx
 simp only at hx
 obtain ⟨p, hp, rfl⟩ := List.mem_map.1 hx
 simp only
 rw [turn_len]
 exact h2 p hp
theorem small_rows {cl : Cls} {r : Raw} (h : IsCls cl r) (hs : Small cl) : r.1.length ≤ 40 ∧ (∀ x ∈ r.2, x.2.length ≤ 40) ∧ r.2.length ≤ 8 := by
 refine ⟨by rw [← h.head, flat_size]; exact hs.head, fun x hx => ?_, by rw [← h.body, List.length_map]; exact hs.len⟩
 rw [← h.body] at hx
 obtain ⟨l, hl, rfl⟩ := List.mem_map.1 hx
 simp only
 rw [flat_size]
 exact hs.body l hl
theorem varsLr_short : ∀ (b : List (Bool × List C)) (acc : List Int), (∀ x ∈ b, x.2.length ≤ 1000) → (varsLr acc b).length ≤ acc.length + 1000 * b.length
 | [], acc, _ => by simp [varsLr]
 | p :: b, acc, h => by
  have h1 := varsA_len p.2 acc
  have h2 := varsLr_short b (varsA acc p.2) (fun x hx => h x (by simp [hx]))
  have h3 := h p (by simp)
  rw [varsLr, List.length_cons]
  omega
theorem num11 (w : World) (h : IsC w A n c t) (hB : IsLs w B m d b) (h1 : t.length ≤ 1000) (h2 : ∀ x ∈ b, x.2.length ≤ 1000) (h3 : b.length ≤ 10) : Calls Tryd.prog 27 #[.agg #[.slice A n c, .slice B m d]] w (RetCl w (numR (t, b))) := by
 have e1 := h.len
 have e2 := hB.len
 refine rNumber10_any A n c t B m d b w h hB (by omega) (by omega) (fun x hx => by have := h2 x hx; omega) ?_
 have := varsLr_short b (varsF t) h2
 have := varsF_len t
 omega
theorem getZ_short {l : List C} {p : Int} {t : List C} (h : getZ l p = some t) : t.length ≤ 1000 := by
 unfold getZ getF at h
 split at h
 ·split at h
  ·rename_i h1
   injection h with h
   rw [← h, flat_size]
   omega
  ·cases h
 ·cases h
theorem getsL_short {l : List C} : ∀ {gs : List (Bool × Int)} {b : List (Bool × List C)}, getsL l gs = some b → ∀ x ∈ b, x.2.length ≤ 1000
 | [], b, h => by simp [getsL] at h; subst h; simp
 | g :: gs, b, h => by
  rw [getsL] at h
  cases h1 : getZ l g.2 with
  | none => rw [h1] at h; simp at h
  | some t =>
   rw [h1] at h
   cases h2 : getsL l gs with
   | none => rw [h2] at h; simp at h
   | some b2 =>
    rw [h2] at h
    simp at h
    subst h
    intro x hx
    rcases List.mem_cons.1 hx with rfl | hx
    ·exact getZ_short h1
    ·exact getsL_short h2 x hx
theorem getsZ_short {l : List C} {p : Int} {gs : List (Bool × Int)} {r : Raw} (h : getsZ l p gs = some r) : r.1.length ≤ 1000 ∧ ∀ x ∈ r.2, x.2.length ≤ 1000 := by
 unfold getsZ at h
 cases h1 : getZ l p with
 | none => rw [h1] at h; simp at h
 | some t =>
  rw [h1] at h
  cases h2 : getsL l gs with
  | none => rw [h2] at h; simp at h
  | some b =>
   rw [h2] at h
   simp at h
   subst h
   exact ⟨getZ_short h1, getsL_short h2⟩
theorem resC_short {A : Tm} {cl : Cls} {room : Int} {R : Raw} (h : resC A cl room = .inl R) : R.1.length ≤ 1000 ∧ ∀ x ∈ R.2, x.2.length ≤ 1000 := by
 unfold resC at h
 split at h
 ·cases h
 ·split at h
  ·cases ho : outC (resM A (newF room)) (compF cl) with
   | bad => rw [ho] at h; cases h
   | err e k => rw [ho] at h; cases h
   | ok m k =>
    rw [ho] at h
    simp only at h
    cases hg : getsZ m.l 0 m.goals with
    | none => rw [hg] at h; cases h
    | some r =>
     rw [hg] at h
     simp only [Sum.inl.injEq] at h
     subst h
     obtain ⟨g1, g2⟩ := getsZ_short hg
     exact numR_short g1 g2
  ·cases h
theorem atom_tm {t : List C} (h : (decide (t.length ≤ 40) && atomB t) = true) : ∃ s us, (Tm.f s us).flat = t ∧ (Tm.f s us).ok = true ∧ (Tm.f s us).size ≤ 40 := by
 simp only [Bool.and_eq_true, decide_eq_true_eq] at h
 obtain ⟨T, h1, h2, h3, h4⟩ := atomB_tree h.2
 cases T with
 | v n => simp [Tm.c0] at h4
 | i n => simp [Tm.c0] at h4
 | f s us => exact ⟨s, us, h2, h1, by rw [← flat_size, h2]; exact h.1⟩
theorem res11 {cl : Cls} {s : ByteArray} {us : List Tm} {At : Option Addr} {k kc : Nat} {room : Int} (w : World) (hcl : IsCls cl (t, b)) (ha : IsC w At k kc (Tm.f s us).flat) (h : IsC w A n c t) (hB : IsLs w B m d b) (hA : (Tm.f s us).ok = true) (hs : (Tm.f s us).size ≤ 40) (hr : i64 room) (hdt : DT w) :
  Calls Tryd.prog 13 #[.slice At k kc, .agg #[.slice A n c, .slice B m d], .int .i64 room] w (RetRz w (resZ (.f s us) cl room)) :=
 kResolve_any s us cl At A B k kc n c m d t b room w ha h hB hcl (cls_may hcl) hA (by omega) hr hdt
end
end Go.Proofs.YtgipiplklaeplaaDoor
namespace Go.Proofs.YtgipiplklaeplaaDoor
open Go.RowKit
section
variable {w w' : World} {g n c n1 c1 m1 e1 m d : Nat} {A A1 B1 B : Option Addr}
theorem sl_kq {k : Nat} {xs : List Value} (h : Sl w k A n c xs) (hk : Kq g w w') (hx : CB w g A1 n1 c1 B1 m1 e1) (h0 : n ≠ 0 → ∃ v, xs[0]? = some v ∧ ∀ A n c, v ≠ .slice A n c) : Sl w' k A n c xs :=
 ⟨h.len, h.hcap, h.hmax, fun hp => by
  obtain ⟨b, off, hA, hlt, hc⟩ := h.cells hp
  obtain ⟨v, hv, hn⟩ := h0 (by omega)
  have hne : b ≠ g := by
   rintro rfl
   have h1 := hc 0 v hv
   rw [cells_of hx] at h1
   rcases off with _ | _ | off
   ·simp at h1; exact hn _ _ _ h1.symm
   ·simp at h1; exact hn _ _ _ h1.symm
   ·simp at h1
  exact ⟨b, off, hA, Nat.lt_of_lt_of_le hlt hk.bel.size, fun i v hv => (World.cell?_of_block (a := ⟨b, off + i, none⟩) (hk.old b hlt hne)).trans (hc i v hv)⟩⟩
theorem isC_kq {l : List C} (h : IsC w A n c l) (hk : Kq g w w') (hx : CB w g A1 n1 c1 B1 m1 e1) : IsC w' A n c l :=
 ⟨sl_kq h.sl hk hx fun hn => by
  cases l with
  | nil => exact absurd h.len.symm hn
  | cons x l => exact ⟨.int .i64 x.kind, rfl, by intro A n c; simp⟩, h.wf⟩
theorem isLs_kq {b : List (Bool × List C)} (h : IsLs w B m d b) (hk : Kq g w w') (hx : CB w g A1 n1 c1 B1 m1 e1) : IsLs w' B m d b := by
 obtain ⟨vs, v1, v2, v3, v4⟩ := h.rows
 refine ⟨h.len, vs, v1, v2, sl_kq v3 hk hx fun hn => ?_, fun i x v hx' hv => ?_⟩
 ·cases b with
  | nil => exact absurd h.len.symm hn
  | cons p b =>
   cases vs with
   | nil => simp at v1
   | cons v vs =>
    obtain ⟨A', n', c', rfl, _⟩ := v4 0 p v rfl rfl
    exact ⟨.bool p.1, rfl, by intro A n c; simp⟩
 ·obtain ⟨A', n', c', h1, h2⟩ := v4 i x v hx' hv
  exact ⟨A', n', c', h1, isC_kq h2 hk hx⟩
theorem CB.store (h : CB w g A1 n1 c1 B1 m1 e1) (A : Option Addr) (n c : Nat) (B : Option Addr) (m d : Nat) : CB ((w.setCell ⟨g, 0, none⟩ (.slice A n c)).setCell ⟨g, 1, none⟩ (.slice B m d)) g A n c B m d ∧ Kq g w ((w.setCell ⟨g, 0, none⟩ (.slice A n c)).setCell ⟨g, 1, none⟩ (.slice B m d)) := by
 refine ⟨?_, (Kq.set w 0 _).trans (Kq.set _ 1 _)⟩
 have h1 := set_block (k := 0) h (.slice A n c)
 have h2 := set_block (k := 1) h1 (.slice B m d)
 unfold CB
 simpa using h2
end
end Go.Proofs.YtgipiplklaeplaaDoor
