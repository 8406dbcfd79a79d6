/- Texts of this proof that belong together: words of memory, plain laws, walks. -/
import Derived.Deep.RegionLaw
import Derived.Test.YtgipiplklaeplaaDoorB02
import Derived.Test.YtgipiplklaeplaaDoorB03
import Derived.Test.YtgipiplklaeplaaDoorB29
import Derived.Test.YtgipiplklaeplaaDoorB31
import Derived.Test.YtgipiplklaeplaaDoorB33
import Derived.Test.YtgipiplklaeplaaDoorB34
import Derived.Test.YtgipiplklaeplaaDoorB35
import Derived.Test.YtgipiplklaeplaaDoorB38
import Derived.Test.YtgipiplklaeplaaDoorB41
set_option linter.unusedVariables false
set_option linter.unusedSimpArgs false
namespace Go.Proofs.YtgipiplklaeplaaDoor
open Go.RowKit
theorem good_nil8 : Good [] := ⟨rfl, fun _ => 0, fun p q hq => by rw [leads_past (by simp)] at hq; cases hq⟩
theorem okH_nil {r : Int} (h1 : 1 ≤ r) (h2 : r ≤ 4096) : OkH ⟨[], [], r⟩ := ⟨h1, h2, by simp; omega, good_nil8, ⟨by simp, by simp⟩⟩
theorem ok_has {T : Tm} (ho : T.ok = true) {n : Int} (h : T.has n) : 0 ≤ n ∧ n ≤ 999 := ok_var8 T ho n h
theorem putA_len8 (T : Tm) (l : List C) (a : List Int) : (putA l T a).1.length ≤ l.length + 2 * T.size := by
 cases T with
 | f s us => have := hs_size (.f s us); simp only [putA, List.length_append, layA_len]; omega
 | i n => simp [putA, Tm.size]
 | v n => simp only [putA]; split <;> simp [Tm.size]
end Go.Proofs.YtgipiplklaeplaaDoor
namespace Go.Proofs.YtgipiplklaeplaaDoor
open Go.RowKit
mutual
theorem sub_turn (f : Int → Int) : ∀ T : Tm, (T.sub (fun n => .v (f n))).flat = turnF f T.flat
 | .v n => by simp [Tm.sub, Tm.flat, turnF_map, turnC]
 | .i n => by simp [Tm.sub, Tm.flat, turnF_map, turnC]
 | .f s us => by
  have h := subs_turn f us
  have hl : (subs (fun n => .v (f n)) us).length = us.length := by rw [subs_map]; simp
  simp only [Tm.sub, Tm.flat, turnF_map, List.map_cons] at h ⊢
  rw [h, hl]
  rfl
theorem subs_turn (f : Int → Int) : ∀ us : List Tm, flats (subs (fun n => .v (f n)) us) = turnF f (flats us)
 | [] => rfl
 | u :: us => by
  rw [subs, flats_cons, flats_cons, sub_turn f u, subs_turn f us, turnF_map, turnF_map, turnF_map, List.map_append]
end
mutual
theorem flat_vn8 : ∀ (T : Tm) (c : C), c ∈ T.flat → c.kind = 1 → c = ⟨1, ⟨#[]⟩, c.n⟩
 | .v m, c, h, _ => by simp [Tm.flat] at h; subst h; rfl
 | .i m, c, h, hk => by simp [Tm.flat] at h; subst h; simp at hk
 | .f s us, c, h, hk => by
  simp only [Tm.flat, List.mem_cons] at h
  rcases h with rfl | h
  ·simp at hk
  ·exact flats_vn8 us c h hk
theorem flats_vn8 : ∀ (us : List Tm) (c : C), c ∈ flats us → c.kind = 1 → c = ⟨1, ⟨#[]⟩, c.n⟩
 | u :: us, c, h, hk => by
  rw [flats_cons] at h
  rcases List.mem_append.1 h with h | h
  ·exact flat_vn8 u c h hk
  ·exact flats_vn8 us c h hk
end
mutual
theorem sub_inj {S R : Int → Tm} : ∀ T : Tm, T.sub S = T.sub R → ∀ n, T.has n → S n = R n
 | .v m, h, n, hn => by
  simp [Tm.has, Tm.flat] at hn
  subst hn
  exact h
 | .i m, _, n, hn => by simp [Tm.has, Tm.flat] at hn
 | .f s us, h, n, hn => by
  simp only [Tm.sub, Tm.f.injEq, true_and] at h
  exact subs_inj us h n (by simpa [Tm.has, Tm.flat] using hn)
theorem subs_inj {S R : Int → Tm} : ∀ us : List Tm, subs S us = subs R us → ∀ n, (⟨1, ⟨#[]⟩, n⟩ : C) ∈ flats us → S n = R n
 | u :: us, h, n, hn => by
  simp only [subs, List.cons.injEq] at h
  rw [flats_cons] at hn
  rcases List.mem_append.1 hn with hn | hn
  ·exact sub_inj u h.1 n hn
  ·exact subs_inj us h.2 n hn
end
mutual
theorem sub_v : ∀ T : Tm, T.sub Tm.v = T
 | .v n => rfl
 | .i n => rfl
 | .f s us => by simp only [Tm.sub]; rw [subs_v us]
theorem subs_v : ∀ us : List Tm, subs Tm.v us = us
 | [] => rfl
 | u :: us => by simp only [subs]; rw [sub_v u, subs_v us]
end
end Go.Proofs.YtgipiplklaeplaaDoor
namespace Go.Proofs.YtgipiplklaeplaaDoor
open Go.RowKit
structure Put1 (A : Tm) (L : List C) (P : Nat) (b : List Int) : Prop where
 good : Good L
 ltP : P < L.length
 denP : den L P = A.sub (stand L b)
 inj : AtInj b
 free : AtOk L 0 b
 has : ∀ n, A.has n → 0 ≤ n ∧ 0 ≤ atA b n.toNat
theorem Put1.place {A : Tm} {L : List C} {P : Nat} {b : List Int} (h : Put1 A L P b) {n : Int} (hn : A.has n) : ∃ p : Nat, atA b n.toNat = (p : Int) ∧ Free1 L p ∧ stand L b n = .v p := by
 obtain ⟨h0, h1⟩ := h.has n hn
 rcases h.free n.toNat with h2 | ⟨p, h2, h3, h4⟩
 ·omega
 ·rcases h4 with h4 | h4
  ·omega
  ·refine ⟨p, h2, h4, ?_⟩
   unfold stand
   rw [h2, Int.toNat_natCast]
   exact h.good.den_free h4
theorem put1_ok {A : Tm} (hA : A.ok = true) (sA : A.size ≤ 200) : Put1 A (putA [] A []).1 (putA [] A []).2.1 (putA [] A []).2.2 := by
 have l1 := putA_len8 A [] []
 simp only [List.length_nil] at l1
 have hat0 : AtOk ([] : List C) ([] : List C).length [] := (show AtL ([] : List C).length [] from atL_nil 0).ok
 have p1 := put_ok good_nil8 hA hat0 (by omega)
 have i1 := putA_inj [] A (a := []) (fun v u hv he => by simp [atA] at hv) (fun v => by simp [atA])
 have f1 := putA_free (l := []) hA (a := []) (by have := hat0; exact this)
 have v1 := fun n hn => putA_place [] A [] n hn
 exact ⟨p1.good, p1.lt, p1.den, i1.1, f1, fun n hn => ⟨(ok_has hA hn).1, v1 n hn⟩⟩
theorem Put1.mod {A : Tm} {L : List C} {P : Nat} {b : List Int} (h : Put1 A L P b) (R : Int → Tm) : Mod L (modF L b R) ∧ modF L b R P = A.sub R ∧ ∀ n, A.has n → modF L b R (atA b n.toNat).toNat = R n := by
 have hv : ∀ n, A.has n → (stand L b n).sub (fun x => R (invA b x)) = R n := fun n hn => by
  obtain ⟨p, h1, h2, h3⟩ := h.place hn
  obtain ⟨h4, h5⟩ := h.has n hn
  rw [h3]
  show R (invA b p) = R n
  rw [← h1, invA_at h.inj h5]
  congr 1
  omega
 refine ⟨h.good.mod _, ?_, hv⟩
 unfold modF
 rw [h.denP, sub_sub]
 exact sub_congr A (fun n hn => hv n hn)
theorem Put1.back {A : Tm} {L : List C} {P : Nat} {b : List Int} (h : Put1 A L P b) {θ : Nat → Tm} (m : Mod L θ) : θ P = A.sub (fun n => θ (atA b n.toNat).toNat) := by
 rw [m.den h.good _ h.ltP, h.denP, sub_sub]
 refine sub_congr A (fun n hn => ?_)
 obtain ⟨p, h1, h2, h3⟩ := h.place hn
 rw [h3, h1]
 rfl
theorem mod_den {l : List C} (h : Good l) : Mod l (den l) := ⟨fun p ho => h.den_step ho, fun p k => h.den_num k, fun p k => h.den_top k⟩
def resM (A : Tm) (r : Int) : Mc := ⟨(putA [] A []).1, [], r, (List.range A.args.length).map fun i => ((i + 1 : Nat) : Int), 0, []⟩
theorem f_top {A : Tm} {s : ByteArray} {us : List Tm} (hA : A = .f s us) : sAt (putA [] A []).1 0 = ⟨4, s, us.length⟩ := by
 subst hA
 show sAt ([] ++ (layA (.f s us) 0 []).1) 0 = _
 rfl
theorem resM_ok {A : Tm} {s : ByteArray} {us : List Tm} (hf : A = .f s us) (hA : A.ok = true) (sA : A.size ≤ 200) {r : Int} (h1 : 1 ≤ r) (h2 : r ≤ 4096) (hfit : ((putA [] A []).1.length : Int) ≤ r) : McOk (resM A r) := by
 obtain ⟨k1, k2, k3, k4⟩ := put_okH (okH_nil h1 h2) hA (atL_nil 0) hfit
 refine ⟨k1, fun x hx => ?_, by simp [resM]⟩
 have ht := ok_top (shp_at k1.good.shp (p := 0) (by simp only; omega)) (by simp only; rw [f_top hf])
 simp only at ht
 rw [f_top hf] at ht
 simp only [resM] at hx ⊢
 obtain ⟨i, hi, rfl⟩ := List.mem_map.1 hx
 have hi' : i < us.length := by rw [hf] at hi; simpa [Tm.args] using hi
 have := ht.2.2.1
 simp only at this
 omega
theorem resM_reg {A : Tm} {r : Int} {j : Nat} (hj : j < A.args.length) : (resM A r).reg j = ((j + 1 : Nat) : Int) := by
 unfold Mc.reg resM
 simp only [Int.toNat_natCast]
 rw [List.getElem?_map, List.getElem?_range hj]
 rfl
theorem ori_iff {A H : Tm} {s : ByteArray} {us Ts : List Tm} (hA : A = .f s us) (hH : H = .f s Ts) (hl : us.length = Ts.length) {r : Int} {θ : Nat → Tm} {σ : Int → Tm} : Ori (resM A r) H.args θ σ ↔ Mod (putA [] A []).1 θ ∧ θ 0 = H.sub σ := by
 have hj : ∀ (m : Mod (putA [] A []).1 θ), θ 0 = .f s ((List.range us.length).map fun i => θ (0 + 1 + i)) := fun m => by
  have := m.top 0 (by rw [f_top hA])
  rw [f_top hA] at this
  simpa using this
 have hargs : A.args = us := by rw [hA]; rfl
 constructor
 ·intro h
  refine ⟨h.mod, ?_⟩
  rw [hj h.mod, hH]
  simp only [Tm.sub]
  congr 1
  apply List.ext_getElem?
  intro i
  rw [List.getElem?_map, subs_map, List.getElem?_map]
  by_cases hi : i < Ts.length
  ·rw [List.getElem?_range (by omega), List.getElem?_eq_getElem hi, Option.map_some, Option.map_some]
   have := h.arg i _ (by rw [hH]; exact List.getElem?_eq_getElem hi)
   rw [resM_reg (by rw [hargs]; omega), Int.toNat_natCast] at this
   rw [show 0 + 1 + i = i + 1 by omega, this]
  ·rw [List.getElem?_eq_none (by simp; omega), List.getElem?_eq_none (by omega)]; rfl
 ·rintro ⟨m, h0⟩
  refine ⟨m, fun j T hT => ?_⟩
  rw [hH] at hT
  simp only [Tm.args] at hT
  have hjl := (List.getElem?_eq_some_iff.1 hT).1
  rw [hj m, hH] at h0
  simp only [Tm.sub] at h0
  injection h0 with _ h0
  have := congrArg (fun q : List Tm => q[j]?) h0
  simp only [List.getElem?_map, subs_map, List.getElem?_range (show j < us.length by omega), hT, Option.map_some] at this
  injection this with this
  rw [resM_reg (by rw [hargs]; omega), Int.toNat_natCast, show j + 1 = 0 + 1 + j by omega]
  exact this
structure Rsd (A H : Tm) (Bs : List Tm) (t : Tm) (ts : List Tm) (ρ σ : Int → Tm) : Prop where
 atom : t = A.sub ρ
 head : t = H.sub σ
 len : ts.length = Bs.length
 body : ∀ (j : Nat) (b : Tm), Bs[j]? = some b → ts[j]? = some (b.sub σ)
 most : ∀ ρ' σ' : Int → Tm, A.sub ρ' = H.sub σ' → ∃ K : Int → Tm, A.sub ρ' = t.sub K ∧ ∀ (j : Nat) (b u : Tm), Bs[j]? = some b → ts[j]? = some u → b.sub σ' = u.sub K
open Classical in
noncomputable def finS (m : Mc) (s : St) (v : Int) : Tm := if h : ∃ j : Nat, s.vars[j]? = some v then den m.l (m.reg ((s.regs[Classical.choose h]?).getD 0)).toNat else .v v
theorem finS_at {m : Mc} {s : St} (hn : s.vars.Nodup) {j : Nat} {v r : Int} (hv : s.vars[j]? = some v) (hr : s.regs[j]? = some r) : finS m s v = den m.l (m.reg r).toNat := by
 unfold finS
 have hex : ∃ j : Nat, s.vars[j]? = some v := ⟨j, hv⟩
 rw [dif_pos hex]
 have h2 := Classical.choose_spec hex
 have e : Classical.choose hex = j := by
  obtain ⟨l1, e1⟩ := List.getElem?_eq_some_iff.1 h2
  obtain ⟨l2, e2⟩ := List.getElem?_eq_some_iff.1 hv
  exact (List.getElem_inj hn).1 (e1.trans e2.symm)
 rw [e, hr]
 rfl
section
variable {A : Tm} {c : Cls} {s : ByteArray} {us Ts : List Tm} {r : Int} {N k : Nat} {st : St} {kn : List (Tm × Int)} {m : Mc}
theorem rsd_of (hA : A = .f s us) (hH : c.head = .f s Ts) (hl : us.length = Ts.length) (ho : A.ok = true) (sA : A.size ≤ 200) (h : Inv (resM A r) c.head.args N st [] [] kn c.body k m) :
  ∃ σ : Int → Tm, Rsd A c.head (c.body.map (·.t)) (den m.l 0) (m.goals.map fun g => den m.l g.2.toNat) (fun n => den m.l (atA (putA [] A []).2.2 n.toNat).toNat) σ := by
 have hp := put1_ok ho sA
 rw [show (putA [] A []).2.1 = 0 by rw [hA]; rfl] at hp
 have hg := h.mok.ok.good
 simp only at hg
 obtain ⟨d, hd⟩ := h.hst
 have hle := hd.le
 have hm := mod_den hg
 have hs : Sat m st [] [] (den m.l) (finS m st) := ⟨hm, fun j v r hv hr => (finS_at h.sok.nd hv hr).symm, by simp, by simp⟩
 obtain ⟨ho1, hk1⟩ := h.bwd _ _ hs
 obtain ⟨m1, e1⟩ := (ori_iff hA hH hl).1 ho1
 have lt0 : 0 < m.l.length := by have := hp.ltP; simp only [resM] at hle; omega
 obtain ⟨g1, g2⟩ := h.go
 have goal : ∀ (j : Nat) (b : Tm), (c.body.map (·.t))[j]? = some b → ∃ r : Int, (m.goals.map fun g => den m.l g.2.toNat)[j]? = some (den m.l (m.reg r).toNat) ∧ (b, r) ∈ kn := fun j b hb => by
  rw [List.getElem?_map] at hb
  cases hc : c.body[j]? with
  | none => rw [hc] at hb; cases hb
  | some l =>
   rw [hc] at hb
   simp only [Option.map_some, Option.some.injEq] at hb
   obtain ⟨r, q1, q2⟩ := g2 j l hc
   exact ⟨r, by rw [List.getElem?_map, q1]; rfl, by rw [← hb]; exact q2⟩
 refine ⟨finS m st, hp.back m1, e1, by simp [g1], fun j b hb => ?_, fun ρ' σ' hu => ?_⟩
 ·obtain ⟨r, q1, q2⟩ := goal j b hb
  rw [q1, hk1 _ q2]
 ·obtain ⟨a1, a2, a3⟩ := hp.mod ρ'
  obtain ⟨θ', t1, t2⟩ := h.fwd (modF (putA [] A []).1 (putA [] A []).2.2 ρ') σ' ((ori_iff hA hH hl).2 ⟨a1, a2.trans hu⟩)
  have hden : ∀ p, p < m.l.length → θ' p = (den m.l p).sub (fun n => θ' n.toNat) := t2.mod.den hg
  refine ⟨fun n => θ' n.toNat, ?_, fun j b u hb hu' => ?_⟩
  ·rw [← hden 0 lt0, t1 0 hp.ltP, a2]
  ·obtain ⟨r, q1, q2⟩ := goal j b hb
   rw [q1] at hu'
   injection hu' with hu'
   subst hu'
   have hkr := h.sok.kr _ q2
   have hpl := h.mok.reg hkr.1 (by rw [h.len]; exact hkr.2)
   rw [← hden _ (by simp only at hpl; omega)]
   exact ((h.bwd _ _ t2).2 _ q2).symm
theorem rsd_none (hA : A = .f s us) (hH : c.head = .f s Ts) (hl : us.length = Ts.length) (ho : A.ok = true) (sA : A.size ≤ 200) (h : ∀ θ σ, ¬ Ori (resM A r) c.head.args θ σ) (ρ σ : Int → Tm) : A.sub ρ ≠ c.head.sub σ := fun he => by
 have hp := put1_ok ho sA
 rw [show (putA [] A []).2.1 = 0 by rw [hA]; rfl] at hp
 obtain ⟨a1, a2, _⟩ := hp.mod ρ
 exact h _ σ ((ori_iff hA hH hl).2 ⟨a1, a2.trans he⟩)
end
end Go.Proofs.YtgipiplklaeplaaDoor
namespace Go.Proofs.YtgipiplklaeplaaDoor
open Go.RowKit
theorem headsF_room : ∀ (f : Nat) (s : St) (row : List (Tm × Int)) (k : Nat), s.room (rwt row + k) → (headsF f s row).room k
 | 0, s, row, k, h => h.le (by omega)
 | f + 1, s, [], k, h => h.le (by omega)
 | f + 1, s, p :: row, k, h => by
  rw [headsF_cons]
  refine headsF_room f _ _ k ?_
  have := headF_room (s := s) (p := p) (k := rwt row + k) (h.le (by simp only [rwt]; omega))
  exact this.le (by rw [rwt_append]; omega)
def lwt : List Ltl → Nat
 | [] => 0
 | l :: ls => (bwt l.t + 1) + lwt ls
theorem lwt_le : ∀ ls : List Ltl, (∀ l ∈ ls, l.t.size ≤ 200) → lwt ls ≤ 401 * ls.length
 | [], _ => by simp [lwt]
 | l :: ls, h => by
  have h1 := lwt_le ls (fun x hx => h x (by simp [hx]))
  have h2 := h l (by simp)
  rw [size_args] at h2
  have : bwt l.t ≤ 400 := by unfold bwt; split <;> omega
  simp only [lwt, List.length_cons]
  omega
theorem start_fit (t : Tm) (h : t.args.length ≤ 6) : (startF t).fit 100000 := ⟨by simp [startF], by simp [startF]; omega, by simp [startF], rfl, by simp [startF], by simp [startF], by simp [startF]⟩
theorem Mk.code_is {w : World} {base bm bq : Nat} {s : St} (h : Mk w base bm bq s) : ∃ A n cap, w.cell? ⟨bm, 0, none⟩ = some (.slice A n cap) ∧ IsK w A n cap s.code ∧ bm < w.heap.size := by
 obtain ⟨A, n, cap, hb1, hb2, hm, hcode, hmap⟩ := h.has
 exact ⟨A, n, cap, cells_of hm 0, hcode.is (by omega), block_lt hm⟩
def RetK (w : World) (l : List In) (e : Ending) (w' : World) : Prop := ∃ A n cap, e = .returned (.tuple #[.slice A n cap, .int .i64 0]) ∧ IsK w' A n cap l ∧ Below w.heap.size w w'
set_option maxRecDepth 100000 in
set_option maxHeartbeats 8000000 in
theorem compile_no (A : Option Addr) (n cap : Nat) (t : List C) (B : Option Addr) (m d : Nat) (b : List (Bool × List C)) (w : World) (h : IsC w A n cap t) (hB : IsLs w B m d b) (hn : n ≤ 1000000000000) (hm : m ≤ 100000) (hs : ∀ x ∈ b, x.2.length ≤ 1000000000000) (hno : mayB (t, b) = false) :
  Calls Tryd.prog 42 #[.agg #[.slice A n cap, .slice B m d]] w (RetV w (.tuple #[.slice none 0 0, .int .i64 1])) := by
 have hal : Below w.heap.size w (w.alloc (.cells #[.slice A n cap, .slice B m d] 25)) := (Below.refl _ _).alloc (Nat.le_refl _) _
 have hat := atom_any A n cap t _ (h.below hal) (by omega)
 have hml := hB.len
 by_cases h1 : atomB t = false
 ·rw [h1] at hat
  have Hat := Lib.hid hat
  clear hat
  go_enter Tryd.func42, Tryd.ntmps42
  go_wp2_with (first | (go_at_call 80; go_must (refine Hat.out.mono ?_); rintro e w1 ⟨rfl, hb1⟩))
  go_ret2
  exact ⟨rfl, hal.trans (hb1.mono hal.size)⟩
 ·have h1 : atomB t = true := by simpa using h1
  rw [h1] at hat
  have Hat := Lib.hid hat
  clear hat
  have hw1 : ∀ w1, Below (w.alloc (.cells #[.slice A n cap, .slice B m d] 25)).heap.size (w.alloc (.cells #[.slice A n cap, .slice B m d] 25)) w1 → w1.cell? ⟨w.heap.size, 1, none⟩ = some (.slice B m d) := fun w1 hb1 =>
   (hb1.cell (p := ⟨w.heap.size, 1, none⟩) (by simp)).trans (World.cell?_alloc_mark w #[.slice A n cap, .slice B m d] 25 (0, 0) 1)
  have Hw1 := Lib.hid hw1
  clear hw1
  by_cases h2 : 8 < m
  ·have hd2 : decide ((8 : Int) < (m : Int)) = true := by simp; omega
   go_enter Tryd.func42, Tryd.ntmps42
   go_wp2_with (first | (go_at_call 80; go_must (refine Hat.out.mono ?_); rintro e w1 ⟨rfl, hb1⟩; have q1 := Hw1.out w1 hb1))
   go_ret2
   exact ⟨rfl, hal.trans (hb1.mono hal.size)⟩
  ·have hall : (b.all fun x => atomB x.2) = false := by
    simp only [mayB, h1, Bool.true_and] at hno
    rw [hml, show decide (m ≤ 8) = true by simp; omega, Bool.true_and] at hno
    exact hno
   have hcon := fun w1 (hb : Below w.heap.size w w1) => containsLit_any B m d b w1 (IsG.below keepsLit hB hb) (by omega) (fun x hx => by have := hs x hx; omega)
   rw [hall] at hcon
   have Hcon := Lib.hid hcon
   clear hcon
   go_enter Tryd.func42, Tryd.ntmps42
   go_wp2_with (first
    | (go_at_call 80; go_must (refine Hat.out.mono ?_); rintro e w1 ⟨rfl, hb1⟩; have q1 := Hw1.out w1 hb1; have hbb := hal.trans (hb1.mono hal.size))
    | (go_at_call 81; go_must (refine (Hcon.out _ hbb).mono ?_); rintro e w2 ⟨rfl, hb2⟩))
   go_ret2
   exact ⟨rfl, hbb.trans (hb2.mono hbb.size)⟩
set_option maxRecDepth 100000 in
set_option maxHeartbeats 8000000 in
theorem compile_yes (c : Cls) (A : Option Addr) (n cap : Nat) (t : List C) (B : Option Addr) (m d : Nat) (b : List (Bool × List C)) (w : World) (h : IsC w A n cap t) (hB : IsLs w B m d b) (hc : IsCls c (t, b)) (hmay : mayB (t, b) = true) :
  Calls Tryd.prog 42 #[.agg #[.slice A n cap, .slice B m d]] w (RetK w (compF c)) := by
 have hmm := @run_makeMap Tryd.prog
 obtain ⟨hh, ⟨hok, hsz, hk3⟩, hbody, hbok, hblen⟩ := hc
 simp only at hh hbody
 subst hh
 have hmay' := hmay
 simp only [mayB, Bool.and_eq_true, decide_eq_true_eq] at hmay'
 obtain ⟨h1, h2, h3⟩ := hmay'
 have hal : Below w.heap.size w (w.alloc (.cells #[.slice A n cap, .slice B m d] 25)) := (Below.refl _ _).alloc (Nat.le_refl _) _
 have hnl := h.len
 rw [flat_size] at hnl
 have hat := atom_any A n cap _ _ (h.below hal) (by omega)
 have hml := hB.len
 rw [h1] at hat
 have Hat := Lib.hid hat
 have hm8 : ¬ ((8 : Int) < (m : Int)) := by omega
 have hbs : ∀ x ∈ b, x.2.length ≤ 200 := by
  rw [← hbody]
  intro x hx
  obtain ⟨l, hl, rfl⟩ := List.mem_map.1 hx
  have := (hbok l hl).2.1
  simp [flat_size]; omega
 have hcon := fun w1 (hb : Below w.heap.size w w1) => containsLit_any B m d b w1 (IsG.below keepsLit hB hb) (by omega) (fun x hx => by have := hbs x hx; omega)
 rw [h3] at hcon
 have Hcon := Lib.hid hcon
 obtain ⟨b0, off0, rfl, hb0, e0, e1, e2, hn0⟩ := h.tm
 have hn0' : (0 : Int) < (n : Int) := by omega
 have E1 := Lib.hid e1
 have E2 := Lib.hid e2
 have Hbody := Lib.hid hbody
 have Hbok := Lib.hid hbok
 have h6 := args_len hok
 have hw0 := c0_wf hok
 have hc0n : c.head.c0.n = (startF c.head).next := by
  obtain ⟨nm, us, he⟩ := (c0_kind3 c.head).1 hk3
  rw [he]; rfl
 clear hat hcon h1 h2 h3 hmay e0 hbody hbok
 go_enter Tryd.func42, Tryd.ntmps42
 go_upto_region 5 with (first
  | (go_at_call 80; go_must (refine Hat.out.mono ?_); rintro e w1 ⟨rfl, hb1⟩; have x1 := ((hb1.block w.heap.size (by simp)).trans (alloc_at (w := w) (g := w.heap.size) rfl)); have q1 := cells_of x1 1; have q0 := cells_of x1 0; simp at q0 q1; have hbb := hal.trans (hb1.mono hal.size))
  | (go_at_call 81; go_must (refine (Hcon.out _ hbb).mono ?_); rintro e w2 ⟨rfl, hb2⟩; have hs12 := hb1.size; simp at hs12; have x2 := (hb2.block w.heap.size (by omega)).trans x1; have p0 := cells_of x2 0; have p1 := cells_of x2 1; simp at p0 p1; have hbb2 := hbb.trans (hb2.mono hbb.size); have r2 := ((bcell hbb2).1 b0 (off0 + 2) hb0).trans E2.out; have r1 := ((bcell hbb2).1 b0 (off0 + 1) hb0).trans E1.out; have hb02 := Nat.lt_of_lt_of_le hb0 hbb2.size; have hs2 := hb2.size))
 refine wp_world (Φ := fun X => Below w2.heap.size w2 X ∧ w2.heap.size + 2 ≤ X.heap.size ∧ MapI Tryd.prog 3 X w2.heap.size [] ∧ X.heap[w2.heap.size + 1]? = some (.cells #[.slice none 0 0, .int .i64 (startF c.head).next, .map (some w2.heap.size)] 145 (0, 0)))
  ⟨((Below.refl _ _).alloc (Nat.le_refl _) _).alloc (by simp) _, by simp, (MapI.made w2 _ _).block (alloc_past (by simp)), alloc_at (by simp)⟩ ?_
 rintro X ⟨hbX, hsX, hmX, hxm⟩
 obtain ⟨bm, hbm⟩ : ∃ bm, bm = w2.heap.size + 1 := ⟨_, rfl⟩
 obtain ⟨bq, hbq⟩ : ∃ bq, bq = w2.heap.size := ⟨_, rfl⟩
 rw [← hbm] at hxm ⊢
 rw [← hbq] at hxm hmX
 have hws := hbb2.size
 have hM : Mk X w.heap.size bm bq (startF c.head) := ⟨⟨none, 0, 0, by omega, by omega, hxm, OwnG.nil _ _ _, hmX⟩, start_fit _ h6⟩
 have hbwX := hbb2.trans (hbX.mono hbb2.size)
 have hcb : cblk X bm = none := cblk_of hxm
 have fc : Free X bm bq w.heap.size := ⟨by omega, by omega, by omega, by rw [hcb]; simp⟩
 have hsw2 : w.heap.size < w2.heap.size := by omega
 have xc := (hbX.block w.heap.size hsw2).trans x2
 have hroom0 : (startF c.head).room (rwt (numbered 0 c.head.args) + (lwt c.body + 1)) := by
  have h1 := rwt_numbered c.head.args 0
  have h2 := lwt_le c.body (fun l hl => (Hbok.out l hl).2.1)
  have h3 := size_args c.head
  exact ⟨by simp [startF]; omega, by simp [startF]; omega, by simp [startF]; omega⟩
 have hroomh : (startF c.head).room (2 * sizes c.head.args) := by
  have h3 := size_args c.head
  exact ⟨by simp [startF]; omega, by simp [startF]; omega, by simp [startF]; omega⟩
 have hroom1 := headsF_room (sizes c.head.args) _ _ _ hroom0
 have Hroom1 := Lib.hid hroom1
 have z0 := cells_of xc 0
 have z1 := cells_of xc 1
 simp at z0 z1
 have hhd := mHead_any w w.heap.size bm bq (startF c.head) c.head _ n cap X h hbwX (Nat.le_refl _) hM hok hsz hroomh
 have Hhd := Lib.hid hhd
 clear hhd hroom0 hroomh hroom1 hM hcb hxm hmX q0 q1 p0 p1 r1 r2 x1 x2 Hcon Hat hbm hbq
 have Hc0n := Lib.hid hc0n
 clear hc0n
 go_wp2_with (first
  | (go_at_call 82; go_must (refine Hhd.out.mono ?_); rintro e w3 ⟨rfl, hM3, hb3, hk3'⟩; have f3 := hk3'.free _ fc; have z13 := cells_of (f3.1.trans xc) 1; have z03 := cells_of (f3.1.trans xc) 0; simp at z13 z03; have hb30 := hbwX.trans hb3))
 obtain ⟨tot, htot⟩ : ∃ tot, bodyF (headsF (sizes c.head.args) (startF c.head) (numbered 0 c.head.args)) c.body = tot := ⟨_, rfl⟩
 have Htot := Lib.hid htot
 obtain ⟨sh, hsh⟩ : ∃ sh, headsF (sizes c.head.args) (startF c.head) (numbered 0 c.head.args) = sh := ⟨_, rfl⟩
 rw [hsh] at hM3 Hroom1
 have htot1 : bodyF sh (c.body.drop 0) = tot := by rw [← hsh]; exact htot
 have Htot1 := Lib.hid htot1
 have hbl : c.body.length = m := by rw [← hml, ← Hbody.out, List.length_map]
 have f3f := f3.2
 have xc3 := f3.1.trans xc
 clear htot htot1
 go_loopw [39] (fun i wr => ∃ (j : Nat) (st : St), j ≤ m ∧ i = .int .i64 j ∧ Mk wr w.heap.size bm bq st ∧ Hid (bodyF st (c.body.drop j) = tot) ∧ Hid (st.room (lwt (c.body.drop j) + 1)) ∧ Below w.heap.size w wr ∧ Free wr bm bq w.heap.size ∧ wr.heap[w.heap.size]? = some (.cells #[.slice (some ⟨b0, off0, none⟩) n cap, .slice B m d] 25 (0, 0))) (fun i _ => m - (intOf i).toNat)
 case atStart => exact ⟨0, sh, Nat.zero_le _, rfl, hM3, Htot1, by simpa using Hroom1, hb30, f3f, xc3⟩
 case round =>
  clear hM3 Htot1 Hroom1 hb30 f3f xc3 z13 z03 f3 hk3' hb3 Hhd hbwX hbX
  obtain ⟨j, st, hj, rfl, hM4, hres, hroom, hb4, hf4, hx4⟩ := hrel
  have hM4lt := hM4.lt
  by_cases hlt : j < m
  ·obtain ⟨l, hl⟩ : ∃ l, c.body[j]? = some l := ⟨_, List.getElem?_eq_getElem (by omega)⟩
   have hlb : b[j]? = some (l.neg, l.t.flat) := by rw [← Hbody.out, List.getElem?_map, hl]; rfl
   obtain ⟨l1, l2, l3⟩ := Hbok.out l (List.mem_of_getElem? hl)
   have hd := drop_get hl
   obtain ⟨b5, off5, v5, rfl, hb5, _, ⟨A', n', c', rfl, hcl⟩, hcells⟩ := hB.at_ hlb
   have g0 := ((bcell hb4).1 b5 _ hb5).trans (hcells 0 _ rfl)
   have g1 := ((bcell hb4).1 b5 _ hb5).trans (hcells 1 _ rfl)
   simp only [Nat.add_zero] at g0
   have hb5' := Nat.lt_of_lt_of_le hb5 hb4.size
   have hcap := hB.cap_le
   have hr := hroom.out
   rw [hd] at hr
   simp only [lwt] at hr
   have Hd := Lib.hid hd
   have hroom5 := litF_room (s := st) (l := l) (k := lwt (c.body.drop (j + 1)) + 1) (hr.le (by omega))
   have Hroom5 := Lib.hid hroom5
   have hal5 : Below wr.heap.size wr (wr.alloc (.cells #[.bool l.neg, .slice A' n' c'] 36)) := (Below.refl _ _).alloc (Nat.le_refl _) _
   have hKal : Kept wr (wr.alloc (.cells #[.bool l.neg, .slice A' n' c'] 36)) bm bq := Kept.below hal5 hM4lt.2.1
   have hlit := mLiteral_any w w.heap.size bm bq (Nat.le_refl _) st l A' n' c' (wr.alloc (.cells #[.bool l.neg, .slice A' n' c'] 36)) l3 hcl (hb4.trans (hal5.mono hb4.size)) (hM4.keep hal5) l1 l2 (hr.le (by omega))
   have Hlit := Lib.hid hlit
   clear hlit hroom5 hr hd hcells hlb hl
   go_wp2_with (first
    | (go_at_call 83; go_must (refine Hlit.out.mono ?_); rintro e w5 ⟨rfl, hM5, hb5', hk5⟩))
   have hkk := hKal.trans hk5
   go_roundw
   case rel =>
    refine ⟨j + 1, litF st l, by omega, by go_num, hM5, Lib.hid ?_, Hroom5, hb4.trans (Below.trans (hal5.mono hb4.size) hb5'), (hkk.free _ hf4).2, (hkk.free _ hf4).1.trans hx4⟩
    have := hres.out
    rw [Hd.out, bodyF_cons] at this
    exact this
   case measure => simp [intOf]; omega
  ·have hres' := hres.out
   rw [drop_end hbl hlt] at hres'
   have hroom' := hroom.out
   rw [drop_end hbl hlt] at hroom'
   have hst : st = tot := hres'
   subst hst
   have hfin : compF c = (st.emit (lastI c.head)).code := by
    unfold compF
    rw [Htot.out]
    rfl
   have Hfin := Lib.hid hfin
   have hrc := hroom'.code
   simp only [lwt] at hrc
   have y0 := cells_of hx4 0
   have y1 := cells_of hx4 1
   simp at y0 y1
   have r2 := ((bcell hb4).1 b0 (off0 + 2) hb0).trans E2.out
   have r1 := ((bcell hb4).1 b0 (off0 + 1) hb0).trans E1.out
   have hb04 := Nat.lt_of_lt_of_le hb0 hb4.size
   have hlt4 := hf4.lt
   have hMd := hM4.keep (Below.refl _ _).drew
   have hwn : c.head.c0.name.size ≤ maxLen := hw0.name
   have hwn2 : i64 c.head.c0.n := hw0.n
   clear hres hroom hres' hroom' hfin hx4
   go_wp2
   go_still_tail 12, (by kernel_rfl)
   change wpList _ _ _ _ _ wr.drew
   have hbd : Below w.heap.size w wr.drew := hb4.drew
   clear r1 r2 y0 y1 hb4 hM4 hM4lt hf4 hlt4 hb04 hj hlt xc z0 z1
   generalize wr.drew = wd at *
   go_wp2_with (first
    | (go_at_call 84; go_must (refine (mEmit_any w.heap.size bm bq st { op := 13, name := c.head.c0.name, n := c.head.c0.n } wd hMd (wfI (i64_small (by decide) (by decide)) i64_0 i64_0 hwn2 hwn) (by omega)).mono ?_); rintro e w7 ⟨rfl, hM7, hb7, hk7⟩; obtain ⟨A9, n9, cap9, c9, hk9, hm9lt⟩ := hM7.code_is))
   go_ret2
   refine ⟨A9, n9, cap9, rfl, ?_, hbd.trans hb7⟩
   rw [Hfin.out]
   exact hk9
end Go.Proofs.YtgipiplklaeplaaDoor
namespace Go.Proofs.YtgipiplklaeplaaDoor
open Go.RowKit
theorem funsC_le2 : ∀ l : List C, funsC l ≤ l.length
 | [] => Nat.le_refl _
 | c :: l => by
  have := funsC_le2 l
  rw [funsC, List.length_cons]
  split <;> omega
theorem lwtC_le2 : ∀ ls : List Ltl, (∀ l ∈ ls, l.t.size ≤ 200) → lwtC ls ≤ 400 * ls.length
 | [], _ => by simp [lwtC]
 | l :: ls, h => by
  have h1 := lwtC_le2 ls (fun x hx => h x (by simp [hx]))
  have h2 := h l (by simp)
  have h3 := size_args l.t
  have h4 := funsC_le2 l.t.flat
  have h5 := flat_size l.t
  rw [lwtC, List.length_cons]
  omega
theorem compF_len4 {c : Cls} {r : Raw} (h : IsCls c r) : (compF c).length ≤ 4000 := by
 have h1 := code_many c fun l hl => (h.bok l hl).2.2
 have h2 := lwtC_le2 c.body fun l hl => (h.bok l hl).2.1
 have h3 := size_args c.head
 have h4 := funsC_le2 (flats c.head.args)
 have h5 := flats_size c.head.args
 have h6 := h.hok.2.1
 have h7 := h.len
 omega
theorem cls_may {c : Cls} {r : Raw} (h : IsCls c r) : mayB r = true := by
 have key : ∀ T : Tm, T.ok = true → T.size ≤ 200 → T.c0.kind = 3 → atomB T.flat = true := fun T h1 h2 h3 => by
  unfold atomB
  rw [right_flat h1 h2, flat_cons]
  simp [h3]
 obtain ⟨t, b⟩ := r
 obtain ⟨hh, ⟨hok, hsz, hk3⟩, hbody, hbok, hblen⟩ := h
 simp only at hh hbody
 subst hh hbody
 simp only [mayB, Bool.and_eq_true, decide_eq_true_eq, List.all_eq_true]
 refine ⟨key _ hok hsz hk3, by simpa using hblen, ?_⟩
 intro l hl
 obtain ⟨l', hl', rfl⟩ := List.mem_map.1 hl
 obtain ⟨h1, h2, h3⟩ := hbok l' hl'
 exact key _ h1 h2 h3
end Go.Proofs.YtgipiplklaeplaaDoor
namespace Go.Proofs.YtgipiplklaeplaaDoor
open Go.RowKit
def getsL (l : List C) : List (Bool × Int) → Option (List (Bool × List C))
 | [] => some []
 | g :: gs => match getZ l g.2, getsL l gs with
  | some t, some b => some ((g.1, t) :: b)
  | _, _ => none
def getsZ (l : List C) (p : Int) (gs : List (Bool × Int)) : Option Raw := match getZ l p, getsL l gs with
 | some t, some b => some (t, b)
 | _, _ => none
noncomputable def resZ (A : Tm) (c : Cls) (room : Int) : Raw ⊕ Int :=
 if A.c0.beq c.head.c0 = false then .inr 3
 else if ((putA [] A []).1.length : Int) ≤ newF room then
  (match out (resM A (newF room)) (compF c) with
  | .ok m _ => (match getsZ m.l 0 m.goals with | some r => .inl (numR r) | none => .inr 2)
  | .err e _ => .inr e
  | .bad => .inr 0)
 else .inr 80
def RetRz (w : World) (o : Raw ⊕ Int) (e : Ending) (w' : World) : Prop := match o with
 | .inl r => ∃ A n c B m d, e = .returned (.tuple #[.slice A n c, .slice B m d, .int .i64 0]) ∧ IsC w' A n c r.1 ∧ IsLs w' B m d r.2 ∧ Below w.heap.size w w'
 | .inr x => e = .returned (.tuple #[.slice none 0 0, .slice none 0 0, .int .i64 x]) ∧ Below w.heap.size w w'
theorem getsL_snoc (l : List C) (g : Bool × Int) : ∀ gs : List (Bool × Int), getsL l (gs ++ [g]) = match getsL l gs, getZ l g.2 with
  | some b, some t => some (b ++ [(g.1, t)])
  | _, _ => none
 | [] => by
  simp only [List.nil_append, getsL]
  cases getZ l g.2 <;> rfl
 | g' :: gs => by
  rw [List.cons_append, getsL, getsL_snoc l g gs, getsL]
  cases getZ l g'.2 <;> cases getsL l gs <;> cases getZ l g.2 <;> rfl
theorem getsL_len {l : List C} : ∀ {gs : List (Bool × Int)} {b : List (Bool × List C)}, getsL l gs = some b → b.length = gs.length
 | [], b, h => by simp [getsL] at h; subst h; rfl
 | g :: gs, b, h => by
  rw [getsL] at h
  cases h1 : getZ l g.2 with
  | none => rw [h1] at h; simp at h
  | some t =>
   rw [h1] at h
   cases h2 : getsL l gs with
   | none => rw [h2] at h; simp at h
   | some b2 =>
    rw [h2] at h
    simp at h
    subst h
    simp [getsL_len h2]
theorem turn_more {ns zs : List Int} {t : List C} (hn : (ns ++ zs).Nodup) (ht : ∀ x ∈ varsF t, x ∈ ns) : turnF (placeI (ns ++ zs)) t = turnF (placeI ns) t := by
 unfold turnF
 apply List.map_congr_left
 intro c hc
 by_cases hk : c.kind = 1
 ·rw [if_pos hk, if_pos hk, place_ext hn (ht _ (mem_vars.2 ⟨c, hc, hk, rfl⟩))]
 ·rw [if_neg hk, if_neg hk]
end Go.Proofs.YtgipiplklaeplaaDoor
