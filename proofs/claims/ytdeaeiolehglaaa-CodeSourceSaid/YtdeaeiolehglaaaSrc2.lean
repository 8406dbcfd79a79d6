/- The walk that finds the clause of code: the candidate, and whether its code is this one. -/
import Derived.Deep.RegionLaw
import Derived.Test.YtdeaeiolehglaaaSrc
set_option linter.unusedVariables false
set_option linter.unusedSimpArgs false
namespace Go.Proofs.Ytdeaeiolehglaaa
open Go.RowKit Go.Maps

theorem headR_succ (M : Rm) (k : Nat) (v : Rv) (i : Nat) : headR M (k + 1) v i = ((headR M k (termF M 1810 v i).1 (i + 1)).1, (termF M 1810 v i).2 ++ (headR M k (termF M 1810 v i).1 (i + 1)).2) := rfl
theorem Fr.toBelow {w w' : World} {br mv base base2 : Nat} {A A' : Option Addr} (h : Fr w w' br mv A A') (h1 : base ≤ br) (h2 : base ≤ mv) (h3 : base ≤ base2) (hA : ∀ a, A = some a → base2 ≤ a.block) (hw : base ≤ w.heap.size) : Below base w w' :=
  ⟨h.os, h.tape, h.output, h.size, fun k hk => h.old k (by omega) (by omega) (by omega) fun a ha he => by have := hA a ha; omega⟩
theorem Fr.setA (w : World) (br mv g k : Nat) (v : Value) (hg : g < w.heap.size) : Fr w (w.setCell ⟨g, k, none⟩ v) br mv (some ⟨g, 0, none⟩) (some ⟨g, 0, none⟩) :=
  ⟨rfl, rfl, rfl, by simp, fun q _ _ _ h3 => set_other (fun e => h3 _ rfl e.symm) v, fun a ha => by cases ha; exact ⟨by simpa using hg, .inl ⟨_, rfl, rfl⟩⟩⟩
theorem bodyF_roomL : ∀ (ls : List Ltl) (s : St) (k : Nat), s.room (lwt ls + k) → (bodyF s ls).room k
  | [], s, k, h => h.le (by omega)
  | l :: ls, s, k, h => by
    have e : lwt (l :: ls) = (bwt l.t + 1) + lwt ls := rfl
    rw [e] at h
    rw [bodyF_cons]
    exact bodyF_roomL ls _ k (room_emit _ (buildF_room l.t s (lwt ls + k + 1) (h.le (by omega))))
theorem compF_len {c : Cls} {r : Raw} (h : IsCls c r) : (compF c).length ≤ 100000 := by
  obtain ⟨hh, ⟨hok, hsz, hk3⟩, hbody, hbok, hblen⟩ := h
  have h6 := args_len hok
  have h1 := rwt_numbered c.head.args 0
  have h2 := lwt_le c.body (fun l hl => (hbok l hl).2.1)
  have h3 := size_args c.head
  have hroom0 : (startF c.head).room (rwt (numbered 0 c.head.args) + (lwt c.body + 1)) := ⟨by simp [startF]; omega, by simp [startF]; omega, by simp [startF]; omega⟩
  have h4 := headsF_room (sizes c.head.args) _ _ _ hroom0
  have h5 := (bodyF_roomL c.body _ 1 h4).code
  simp [compF]
  omega
theorem equalIn_V (A B : Option Addr) (n m cap cap' : Nat) (xs ys : List In) (w : World) (hx : IsK w A n cap xs) (hy : IsK w B m cap' ys) (hn : n ≤ 100000) (hm : m ≤ 100000) :
    Calls Try.prog 40 #[.slice A n cap, .slice B m cap'] w (RetV w (.bool (sameIn xs ys))) :=
  (equalIn_any A B n m cap cap' xs ys w hx hy hn hm).mono fun e w' ⟨h1, d, h2⟩ => ⟨h1, by rw [h2]; exact below_drewN (Below.refl _ _) d⟩
def RLB (base2 g6 : Nat) (T : Option Addr) : World → Bool × List C → List Value → Prop := fun w p v => ∃ A n c, v = [.bool p.1, .slice A n c] ∧ IsC w A n c p.2 ∧ (∀ a, A = some a → base2 ≤ a.block ∧ a.block ≠ g6) ∧ Far T A n
theorem infoLit : (Try.prog.info? 55).map (fun i => (i.zero, i.size, i.bytes)) = some (some (.agg #[.bool false, .slice none 0 0]), 2, 32) := by kernel_rfl
theorem one_lit (ng : Bool) (A : Option Addr) (n c : Nat) : ∀ u ∈ [Value.bool ng, .slice A n c], u.oneCell' = true := by
  intro u hu
  simp at hu
  rcases hu with rfl | rfl <;> rfl
theorem IsC.fr {w w' : World} {br mv base2 n c : Nat} {A A' : Option Addr} {cs : List C} (h : IsC w A n c cs) (hf : Fr w w' br mv none A') (hA : ∀ a, A = some a → base2 ≤ a.block) (h1 : br < base2) (h2 : mv < base2) : IsC w' A n c cs := by
  refine ⟨⟨h.sl.len, h.sl.hcap, h.sl.hmax, fun hn => ?_⟩, h.wf⟩
  obtain ⟨g, off, rfl, hlt, hc⟩ := h.sl.cells hn
  have := hA _ rfl
  simp only at this
  refine ⟨g, off, rfl, Nat.lt_of_lt_of_le hlt hf.size, fun j u hu => ?_⟩
  rw [← hc j u hu]
  exact World.cell?_of_block (hf.old g hlt (by omega) (by omega) (fun a ha => by cases ha))
theorem lit_tail {X Y w5 : World} {br mv base2 g9 n d : Nat} {B A5 : Option Addr} {xs : List Value} (h : Tail X base2 55 2 B n d xs) (hf : Fr Y w5 br mv none A5) (hB : ∀ a, B = some a → a.block < g9) (hg : g9 < X.heap.size) (hbr : br < base2 ∧ mv < base2) (hb : ∀ a, B = some a → base2 ≤ a.block) (hY : Y.heap = X.heap := by rfl) : Tail w5 base2 55 2 B n d xs :=
  h.at_ fun a ha => by
    rw [hf.old a.block (by rw [hY]; have := hB a ha; omega) (by have := hb a ha; omega) (by have := hb a ha; omega) (fun a ha => by cases ha), hY]
theorem lit_step {X w5 w6 : World} {br mv base2 g6 : Nat} {B B1 A5 : Option Addr} {o : Obj} {u : Value} {p : Bool × List C} {v : List Value} (h : RLB base2 g6 B X p v) (hf : Fr X.drew w5 br mv none A5) (hap : Apart (w5.alloc o) w6 B B1) (hbr : br < base2 ∧ mv < base2) : RLB base2 g6 B1 (w6.setCell ⟨g6, 1, none⟩ u) p v := by
  obtain ⟨A, n, c, rfl, h1, h2, h3⟩ := h
  have q1 : IsC X.drew A n c p.2 := h1.below (Below.refl _ _).drew
  have q2 := (q1.fr hf (fun a ha => (h2 a ha).1) hbr.1 hbr.2).below ((Below.refl _ _).alloc (Nat.le_refl _) o)
  have q3 : Far B1 A n := h3.app hap q2.sl
  exact ⟨A, n, c, rfl, ⟨(q2.sl.far hap h3).but' (But.set w6 g6 1 u) (fun _ a ha => (h2 a ha).2), q2.wf⟩, h2, q3⟩
theorem rd_step {w5 w6 : World} {base br mv ms mq mi base2 g6 : Nat} {ml : List (Int × Value)} {M : Rm} {v : Rv} {B B1 : Option Addr} {o : Obj} {u : Value} (h : RdAt w5 base br mv ms mq mi ml M v) (hap : Apart (w5.alloc o) w6 B B1) (hbn : Below base2 (w5.alloc o) w6) (hB : ∀ a, B = some a → base2 ≤ a.block)
    (hlow : br < base2 ∧ mv < base2 ∧ ms < base2 ∧ mq < base2 ∧ mi < base2) (hst : ∀ k B n c, look ml k = some (.slice B n c) → 0 < n → ∀ a, B = some a → a.block < base2 ∧ a.block ≠ br) (hg : base2 ≤ g6) (hl : g6 < w6.heap.size) : RdAt (w6.setCell ⟨g6, 1, none⟩ u) base br mv ms mq mi ml M v := by
  have h1 := h.below ((Below.refl _ _).alloc (Nat.le_refl _) o)
  have h2 : RdAt w6 base br mv ms mq mi ml M v := h1.fr (v' := v) (Fr.apart hap hbn) hB hlow hst ((hap.old br (block_lt h1.blk) fun a ha he => by have := hB a ha; omega).trans h1.blk) (h1.hv.block (hap.old mv h1.hv.lt fun a ha he => by have := hB a ha; omega))
  exact h2.fr (v' := v) (A := some ⟨g6, 0, none⟩) (Fr.setA w6 br mv g6 1 _ hl) (base2 := base2) (fun a ha => by cases ha; exact hg) hlow hst ((set_other (by omega) _).trans h2.blk) (h2.hv.block (set_other (by omega) _))
theorem Out.isC {w : World} {base n c : Nat} {A : Option Addr} {out : List C} (h : Out w base A n c out) : IsC w A n c out := ⟨h.tl.sl (by omega), h.wf⟩
set_option maxRecDepth 100000 in
set_option maxHeartbeats 8000000 in
theorem source_head (A : Option Addr) (n cap : Nat) (l : List In) (e : In) (w : World) (h : IsK w A n cap l) (hn : n ≤ 4000) (he : l[n - 1]? = some e) (hok : endOk e) (r : Raw) (hr : candF l e = r)
    (Q : Ending → World → Prop) (hQ1 : mayB r = false → ∀ w', Below w.heap.size w w' → Q (.returned (.tuple #[.agg #[.slice none 0 0, .slice none 0 0], .bool false])) w')
    (hQ2 : ∀ c, IsCls c r → compF c ≠ l → ∀ w', Below w.heap.size w w' → Q (.returned (.tuple #[.agg #[.slice none 0 0, .slice none 0 0], .bool false])) w')
    (hQ3 : ∀ c, IsCls c r → compF c = l → ∀ A n c B m d w', IsC w' A n c r.1 → IsLs w' B m d r.2 → Below w.heap.size w w' → Q (.returned (.tuple #[.agg #[.slice A n c, .slice B m d], .bool true])) w') :
    Calls Try.prog 20 #[.slice A n cap] w Q := by
  have hpos : 0 < n := by have := (List.getElem?_eq_some_iff.1 he).1; have := h.len; omega
  have hwl : ∀ i ∈ l, i.wf := fun i hi => by
    obtain ⟨k, hk, rfl⟩ := List.getElem_of_mem hi
    exact (h.at' (List.getElem?_eq_getElem hk)).choose_spec.choose_spec.2.2.1
  obtain ⟨hM, hK⟩ := readF_ok hwl
  have hll := h.len
  have hK4 : ∀ r row, lk (readF l).structs r = some row → row.length ≤ 4001 := fun r row hr => by have := hK r row hr; omega
  have hread := fun w' (hb : Below w.heap.size w w') => read_any A n cap l w' (IsG.below keepsIn h hb) (by omega)
  obtain ⟨M, hMe⟩ : ∃ M, readF l = M := ⟨_, rfl⟩
  have hcand : candG M l e = r := by rw [← hMe]; exact hr
  rw [hMe] at hM hK4 hread
  have Hread := Lib.hid hread
  have Hcand := Lib.hid hcand
  have HQ1 := Lib.hid hQ1
  have HQ2 := Lib.hid hQ2
  have HQ3 := Lib.hid hQ3
  obtain ⟨b, off, rfl, hbb, hw, c0, c1, c2, c3, c4, c5⟩ := h.at' he
  have hcap := h.cap_le
  obtain ⟨m, rfl⟩ : ∃ m, n = m + 1 := ⟨n - 1, by omega⟩
  rw [Nat.add_sub_cancel] at c0 c1 c2 c3 c4 c5
  have hwn := hw.n
  obtain ⟨q1, q2, q3⟩ := hok
  obtain ⟨nh, hnh⟩ : ∃ nh : Nat, e.n = nh := ⟨e.n.toNat, by omega⟩
  have hnh6 : nh ≤ 6 := by omega
  rw [hnh] at c4 hwn q2 q3
  have Hnh := Lib.hid hnh
  have Hll := Lib.hid hll
  have Hwl := Lib.hid hwl
  have h6 : ¬ (6 : Int) < (nh : Int) := by omega
  have h0 : ¬ (nh : Int) < 0 := by omega
  have hwname := hw.name
  clear he hread hcand hQ1 hQ2 hQ3 hr hMe hK hll hnh hwl
  go_enter Try.func20, Try.ntmps20
  go_upto_region 8 with (first
    | (go_at_call 38; go_must (refine (Hread.out _ (((Below.refl _ _).alloc (Nat.le_refl _) _).alloc (by simp) _)).mono ?_); rintro e9 w3 ⟨br, mv, ms, mq, mi, ml, rfl, hR, hb3⟩; have x4 := (hb3.block (w.heap.size + 1) (by simp)).trans (alloc_at (w := w.alloc _) (g := w.heap.size + 1) (by simp)); have x2 := (hb3.block w.heap.size (by simp; omega)).trans ((alloc_past (by simp)).trans (alloc_at (w := w) (g := w.heap.size) rfl)); have z3 := cells_of x4 3; have z4 := cells_of x4 4; simp at z3 z4; have zl := block_lt x4))
  have hb33 : Below w.heap.size w w3 := (((Below.refl _ _).alloc (Nat.le_refl _) _).alloc (by simp) _).trans (hb3.mono (by simp; omega))
  have hlow0 := hR.low
  simp at hlow0
  have x2l := block_lt x2
  refine wp_world' (Φ := fun V => Below w3.heap.size w3 V ∧ w3.heap.size + 2 ≤ V.heap.size ∧ V.heap[w3.heap.size]? = some (.cells #[.int .i64 3, .string e.name, .int .i64 nh] 45 (0, 0)) ∧ V.heap[w3.heap.size + 1]? = some (.cells #[.slice (some ⟨w3.heap.size, 0, none⟩) 1 1, .slice none 0 0] 25 (0, 0)))
    ⟨((Below.refl _ _).alloc (Nat.le_refl _) _).alloc (by simp) _, by simp, (alloc_past (by simp)).trans (alloc_at rfl), alloc_at (by simp)⟩ ?_
  rintro V ⟨hbV, hsV, vh, v6⟩
  obtain ⟨g6, hg6⟩ : ∃ g6, g6 = w3.heap.size + 1 := ⟨_, rfl⟩
  obtain ⟨base2, hb2e⟩ : ∃ base2, base2 = w3.heap.size := ⟨_, rfl⟩
  rw [← hg6] at v6 ⊢
  rw [← hb2e] at vh v6
  have hRV : RdAt V w.heap.size br mv ms mq mi ml M ⟨[], 0⟩ := ⟨(hR.below hbV).blk, (hR.below hbV).hv, (hR.below hbV).hs, (hR.below hbV).hq, (hR.below hbV).hi, (hR.below hbV).st, by omega, hR.ne⟩
  have hlow : br < base2 ∧ mv < base2 ∧ ms < base2 ∧ mq < base2 ∧ mi < base2 := by
    rw [hb2e]; exact ⟨block_lt hR.blk, hR.hv.lt, hR.hs.lt, hR.hq.lt, hR.hi.lt⟩
  have hst : ∀ k B n c, look ml k = some (.slice B n c) → 0 < n → ∀ a, B = some a → a.block < base2 ∧ a.block ≠ br := fun k B n c hl hn a ha => by
    rcases hR.st.rel k with ⟨h1, _⟩ | ⟨B1, n1, c1, row, h1, h2, h3, h4⟩
    · rw [hl] at h1; cases h1
    · rw [hl] at h1
      injection h1 with h1
      injection h1 with e1 e2 e3
      subst e1 e2 e3
      refine ⟨?_, h3.offRd hR.blk hn a ha⟩
      obtain ⟨vs, _, _, v3, _⟩ := h3.rows
      obtain ⟨g, off, q1, q2, _⟩ := v3.cells hn
      rw [q1] at ha; cases ha
      rw [hb2e]; exact q2
  have hO : Out V base2 (some ⟨base2, 0, none⟩) 1 1 [⟨3, e.name, nh⟩] := ⟨by simpa [flatC, C.flat] using tail_lit vh (Nat.le_refl _) rfl (by simp [maxLen]), fun x hx => by simp at hx; subst hx; exact ⟨i64_small (n := 3) (by decide) (by decide), i64_small (n := (nh : Int)) (by omega) (by omega), hwname⟩, fun a ha => by cases ha; exact ⟨Nat.le_refl _, by simp only; omega⟩⟩
  have hbwV : Below w.heap.size w V := hb33.trans (hbV.mono hb33.size)
  have x2V := (hbV.block _ x2l).trans x2
  have z4V := (hbV.cell (p := ⟨w.heap.size + 1, 4, none⟩) zl).trans z4
  have hg62 : g6 = base2 + 1 := by omega
  have hgb : base2 < g6 := by omega
  have hbs2 : base2 ≤ V.heap.size := by omega
  have hl6 := block_lt v6
  have hb0 : w.heap.size + 1 < base2 := by rw [hb2e]; exact zl
  have hl4 : w.heap.size + 1 < V.heap.size := by omega
  have hlowb : w.heap.size + 2 ≤ br ∧ w.heap.size + 2 ≤ mv := by have := hlow0.1; have := hlow0.2.1; omega
  obtain ⟨TH, hTH⟩ : ∃ TH, headR M nh ⟨[], 0⟩ 0 = TH := ⟨_, rfl⟩
  have hstart : (headR M (nh - 0) ⟨[], 0⟩ 0).1 = TH.1 ∧ [(⟨3, e.name, nh⟩ : C)] ++ (headR M (nh - 0) ⟨[], 0⟩ 0).2 = [(⟨3, e.name, nh⟩ : C)] ++ TH.2 := by rw [Nat.sub_zero, hTH]; exact ⟨rfl, rfl⟩
  have Hstart := Lib.hid hstart
  have HTH := Lib.hid hTH
  have HRV := Lib.hid hRV
  clear hR hb3 x4 x2 z3 z4 zl hb33 hlow0 x2l hb2e hg6 hg62 hRV hstart hTH vh hbV c0 c1 c2 c3 c4 c5
  go_wp2
  go_loopw [47] (fun iv wr => ∃ (j : Nat) (A2 : Option Addr) (n2 c2 : Nat) (out2 : List C) (v2 : Rv), j ≤ nh ∧ iv = .int .i64 j ∧ wr.heap[g6]? = some (.cells #[.slice A2 n2 c2, .slice none 0 0] 25 (0, 0)) ∧ wr.heap[w.heap.size]? = some (.cells #[.slice none 0 0, .slice none 0 0] 25 (0, 0)) ∧
      Out wr base2 A2 n2 c2 out2 ∧ (∀ a, A2 = some a → a.block ≠ g6) ∧ RdAt wr w.heap.size br mv ms mq mi ml M v2 ∧ VOk v2 ∧ potF 4000 v2.cells ≤ 7240000 + j ∧ n2 ≤ 1 + 4001 * v2.cells ∧ g6 < wr.heap.size ∧
      Hid ((headR M (nh - j) v2 j).1 = TH.1 ∧ out2 ++ (headR M (nh - j) v2 j).2 = [(⟨3, e.name, nh⟩ : C)] ++ TH.2) ∧ Below w.heap.size w wr) (fun iv _ => nh - (intOf iv).toNat)
  case atStart => exact ⟨0, some ⟨base2, 0, none⟩, 1, 1, _, ⟨[], 0⟩, Nat.zero_le _, rfl, v6, x2V, hO, fun a ha => by cases ha; simp only; omega, HRV.out, ⟨Nat.le_refl _, fun r k hk => by simp [lk] at hk⟩, by simp [potF], by simp, hl6, Hstart, hbwV⟩
  case round =>
    clear v6 x2V hO HRV Hstart hbwV z4V
    obtain ⟨j, A2, n2, c2, out2, v2, hj, rfl, hx6, hx2, hO2, hA6, hR2, hv2, hpo, hn2, hg6l, hres, hb2w⟩ := hrel
    have hbs : base2 ≤ wr.heap.size := by omega
    by_cases hlt : j < nh
    · have hstep := headR_succ M (nh - (j + 1)) v2 j
      rw [show nh - (j + 1) + 1 = nh - j by omega] at hstep
      obtain ⟨v3, hv3e⟩ : ∃ v3, (termF M 1810 v2 j).1 = v3 := ⟨_, rfl⟩
      obtain ⟨more, hmore⟩ : ∃ more, (termF M 1810 v2 j).2 = more := ⟨_, rfl⟩
      have hgr := term_grown M 4000 hK4 1810 v2 j
      have hvo := VOk.term M 1810 v2 j hv2
      have hrec := fun w5 => rdTerm_any w.heap.size base2 br mv ms mq mi ml M hM hK4 (by omega) hlow 1810 v2 j A2 n2 c2 out2 w5
      rw [hv3e, hmore] at hstep hrec hgr
      rw [hv3e] at hvo
      have Hrec := Lib.hid hrec
      have Hstep := Lib.hid hstep
      have Hgr := Lib.hid hgr
      have y0 := cells_of hx6 0
      have f0 := frozen_of hx6 0
      simp at y0
      have hj64 : i64 (j : Int) := i64_small (by omega) (by omega)
      clear hstep hrec hgr hv3e hmore
      go_wp2_with (first
        | (go_at_call 39; go_must (refine (Hrec.out _ (by omega) hR2 hst hO2 hj64 (by omega) (by omega) hv2 hbs).mono ?_); rintro e9 w5 ⟨A5, n5, c5, rfl, hO5, hR5, hF5⟩; have x65 := (hF5.old g6 hg6l (by omega) (by omega) hA6).trans hx6; have k0 := cells_of x65 0; have kf := frozen_of x65 0; have kl := block_lt x65; simp at k0))
      have hg6R : RdAt (w5.setCell ⟨g6, 0, none⟩ (.slice A5 n5 c5)) w.heap.size br mv ms mq mi ml M v3 := hR5.fr (v' := v3) (A := some ⟨g6, 0, none⟩) (Fr.setA w5 br mv g6 0 _ kl) (base2 := base2) (fun a ha => by cases ha; simp only; omega) hlow hst ((set_other (by omega) _).trans hR5.blk) (hR5.hv.block (set_other (by omega) _))
      have hA56 : ∀ a, A5 = some a → a.block ≠ g6 := fun a ha => by
        rcases (hF5.blk a ha).2 with ⟨a0, p1, p2⟩ | p
        · rw [p2]; exact hA6 a0 p1
        · omega
      have hO5' := hO5.at_ (w' := w5.setCell ⟨g6, 0, none⟩ (.slice A5 n5 c5)) (by simp) (fun a ha => set_other (hA56 a ha) _)
      have hs6 := set_block (k := 0) x65 (.slice A5 n5 c5)
      simp at hs6
      have hs2 : (w5.setCell ⟨g6, 0, none⟩ (.slice A5 n5 c5)).heap[w.heap.size]? = _ := (set_other (by omega) _).trans ((hF5.old w.heap.size (block_lt hx2) (by omega) (by omega) (fun a ha => by have := (hO2.lt a ha).1; omega)).trans hx2)
      have hbel := hb2w.trans (hF5.toBelow (base := w.heap.size) (base2 := base2) (by omega) (by omega) (by omega) (fun a ha => (hO2.lt a ha).1) (by omega))
      have hl2 := hO2.len
      have hl5 := hO5.len
      have p1 := Hgr.out.mono
      have p2 := Hgr.out.pot
      have p3 := Hgr.out.len
      rw [List.length_append] at hl5
      go_roundw
      case rel => exact ⟨j + 1, A5, n5, c5, _, v3, by omega, by go_num, hs6, hs2, hO5', hA56, hg6R, hvo, by omega, by omega, by simpa using kl, by have := hres.out; rw [Hstep.out] at this; exact ⟨this.1, by rw [List.append_assoc]; exact this.2⟩, Below.setCell hbel (show w.heap.size ≤ g6 by omega) _⟩
      case measure => simp [intOf]; omega
    · have hje : nh = j := by omega
      subst hje
      have hfin := hres.out
      rw [Nat.sub_self] at hfin
      have hfv : v2 = TH.1 := hfin.1
      have hfo : out2 = [(⟨3, e.name, nh⟩ : C)] ++ TH.2 := by have := hfin.2; simpa [headR] using this
      have hraw : r = (out2, (bodyR M v2 l).2) := by
        rw [← Hcand.out, candG, Hnh.out]
        have : (nh : Int).toNat = nh := by omega
        rw [this, HTH.out, hfv, hfo]
        rfl
      have Hraw := Lib.hid hraw
      obtain ⟨TB, hTB⟩ : ∃ TB, (bodyR M v2 l).2 = TB := ⟨_, rfl⟩
      have hst2 : [] ++ (bodyR M v2 (l.drop 0)).2 = TB := by simpa using hTB
      have Hst2 := Lib.hid hst2
      have HTB := Lib.hid hTB
      have hHC := hO2.isC
      have hHb : ∀ a, A2 = some a → base2 ≤ a.block := fun a ha => (hO2.lt a ha).1
      have hHn := hO2.len
      have hHl : out2.length ≤ 1000000000000 := by have : v2.cells ≤ potF 4000 v2.cells := Nat.le_add_right _ _; omega
      clear hfin hfv hfo hraw hTB hst2 hres hO2 hn2 hHn hlt
      go_wp2
      go_loopw [59] (fun iv wr => ∃ (k : Nat) (B : Option Addr) (m2 d2 : Nat) (lits : List (Bool × List C)) (v2 : Rv), k ≤ m + 1 ∧ iv = .int .i64 k ∧ wr.heap[g6]? = some (.cells #[.slice A2 n2 c2, .slice B m2 d2] 25 (0, 0)) ∧ wr.heap[w.heap.size]? = some (.cells #[.slice none 0 0, .slice none 0 0] 25 (0, 0)) ∧
          IsC wr A2 n2 c2 out2 ∧ Far B A2 n2 ∧ TailG (RLB base2 g6 B) 2 wr base2 55 B m2 d2 lits ∧ (∀ a, B = some a → base2 ≤ a.block ∧ a.block < wr.heap.size ∧ a.block ≠ g6) ∧ RdAt wr w.heap.size br mv ms mq mi ml M v2 ∧ VOk v2 ∧ potF 4000 v2.cells ≤ 7240006 + k ∧ m2 ≤ k ∧ (∀ x ∈ lits, x.2.length ≤ 100000000000) ∧ g6 < wr.heap.size ∧
          Hid (lits ++ (bodyR M v2 (l.drop k)).2 = TB) ∧ Below w.heap.size w wr) (fun iv _ => m + 1 - (intOf iv).toNat)
      case atStart => exact ⟨0, none, 0, 0, [], v2, Nat.zero_le _, rfl, hx6, hx2, hHC, (fun a ha => by cases ha), TailG.nil _ _ _ _, (fun a ha => by cases ha), hR2, hv2, by omega, Nat.le_refl _, by simp, hg6l, Hst2, hb2w⟩
      case round =>
        clear hx6 hx2 hHC hR2 hv2 hg6l Hst2 hb2w hbs hpo
        obtain ⟨k, B, m2, d2, lits, v4, hk, rfl, hx6, hx2, hHC, hfH, hBt, hBl, hR2, hv2, hpo, hmk, hll, hg6l, hres, hb2w⟩ := hrel
        have hbs : base2 ≤ wr.heap.size := by omega
        by_cases hlt : k < m + 1
        · obtain ⟨i, hik⟩ := h.get hlt
          obtain ⟨b', off', hAe, hb9, hw9, e0, e1, e2, e3, e4, e5⟩ := h.at' hik
          cases hAe
          have hdr := drop_get hik
          obtain ⟨hcW, _⟩ := bcell hb2w
          have g0 := (hcW b _ hb9).trans e0
          have g1 := (hcW b _ hb9).trans e1
          have g2 := (hcW b _ hb9).trans e2
          have g3 := (hcW b _ hb9).trans e3
          have g4 := (hcW b _ hb9).trans e4
          have g5 := (hcW b _ hb9).trans e5
          have hbw9 : b < wr.heap.size := Nat.lt_of_lt_of_le hb9 hb2w.size
          have Hdr := Lib.hid hdr
          have hwa9 := hw9.a
          clear e0 e1 e2 e3 e4 e5 hcW hdr hik
          by_cases hop : i.op = 12
          · have hbr2 : bodyR M v4 (i :: l.drop (k + 1)) = ((bodyR M (termF M 1810 v4 i.a).1 (l.drop (k + 1))).1, (i.neg, (termF M 1810 v4 i.a).2) :: (bodyR M (termF M 1810 v4 i.a).1 (l.drop (k + 1))).2) := by rw [bodyR, if_pos hop]
            have hgr := term_grown M 4000 hK4 1810 v4 i.a
            have hvo := VOk.term M 1810 v4 i.a hv2
            obtain ⟨v3, hv3e⟩ : ∃ v3, (termF M 1810 v4 i.a).1 = v3 := ⟨_, rfl⟩
            obtain ⟨more, hmore⟩ : ∃ more, (termF M 1810 v4 i.a).2 = more := ⟨_, rfl⟩
            have hrec := fun w5 => rdTerm_any w.heap.size base2 br mv ms mq mi ml M hM hK4 (by omega) hlow 1810 v4 i.a none 0 0 [] w5
            rw [hv3e, hmore] at hbr2 hrec hgr
            rw [hv3e] at hvo
            have Hrec := Lib.hid hrec
            have Hbr2 := Lib.hid hbr2
            have Hgr := Lib.hid hgr
            have hmol : more.length ≤ 100000000000 := by have h1 := hgr.len; have h2 := hgr.pot; have : v3.cells ≤ potF 4000 v3.cells := Nat.le_add_right _ _; omega
            clear hbr2 hgr hv3e hmore hrec
            go_upto_region 17 with fail
            clear hop
            refine wp_world' (Φ := fun X => Below wr.heap.size wr X ∧ X.cell? ⟨wr.heap.size, 2, none⟩ = some (.int .i64 i.a) ∧ X.cell? ⟨wr.heap.size, 5, none⟩ = some (.bool i.neg) ∧ wr.heap.size < X.heap.size)
              ⟨(Below.refl _ _).alloc (Nat.le_refl _) _, (cells_of (alloc_at rfl) 2).trans rfl, (cells_of (alloc_at rfl) 5).trans rfl, by simp⟩ ?_
            rintro X ⟨hbX, j2, j5, hXl⟩
            obtain ⟨g9, hg9⟩ : ∃ g9, g9 = wr.heap.size := ⟨_, rfl⟩
            rw [← hg9] at j2 j5 hXl ⊢
            have hRX := hR2.below hbX
            have hHX := hHC.below hbX
            have hBX := hBt.below (R := RLB base2 g6 B) (fun _ _ _ _ ⟨A, n, c, h1, h2, h3, h4⟩ hb => ⟨A, n, c, h1, h2.below hb, h3, h4⟩) hbX
            have x6 := (hbX.block g6 hg6l).trans hx6
            have xc2 := (hbX.block w.heap.size (block_lt hx2)).trans hx2
            have hg6X := block_lt x6
            have hbXw := hb2w.trans (hbX.mono hb2w.size)
            obtain ⟨us, u1, u2, u3, u4⟩ := hBX.rows
            have y0 := cells_of x6 0
            have y1 := cells_of x6 1
            have f1 := frozen_of x6 1
            simp at y0 y1
            have hBlX : ∀ a, B = some a → a.block < g9 := fun a ha => by have := (hBl a ha).2.1; omega
            have hg96 : g6 < g9 := by omega
            have hbsX : base2 ≤ X.heap.size := Nat.le_trans hbs hbX.size
            have ng1 : ¬ g9 = g6 := by omega
            have ng2 : ¬ g6 = g9 := by omega
            have hpp : potF 4000 v4.cells ≤ 7300000 := by omega
            clear hR2 hHC hBt hx6 hx2 hb2w hg6l hbX g0 g1 g2 g3 g4 g5 hg9
            go_region_law
              (first
                | (refine step_append_any (xs := us.flatten) (by rfl) (.tmp 67) (.tmp 75) 23 (by rfl) base2 55 Try.underlying23 infoLit (by rfl) (by omega) (by rfl) ?_ ?_ (by rfl) ?_ (one_lit i.neg A5 n5 c5) (by omega) (by omega) ?_ ?_ ?_; (focus (exact (lit_tail u3 hF5 hBlX hXl (by omega) (fun a ha => (hBl a ha).1)).below ((Below.refl _ _).alloc (Nat.le_refl _) _))); (focus (intro b hb; have hq := hBlX b hb; have hs5' := hs5; simp at hs5' ⊢; omega)); (focus (exact Sl.blk (cs := #[.bool i.neg, .slice A5 n5 c5]) (t := 55) (alloc_at rfl) rfl (by simp [maxLen]))); (focus (have hs5' := hs5; simp at hs5' ⊢; omega)); (focus (exact u3.none_cap)); intro B1 d1 w6 ht6 hbn6 hap6; have x66 := (hap6.old g6 (by simp; omega) (fun a ha => (hBl a ha).2.2)).trans ((alloc_past kl).trans x65); have k2 := cells_of x66 1; have kf2 := frozen_of x66 1; have kl2 := block_lt x66; have hg95 : g9 < w5.heap.size := (by have hs5' := hs5; simp at hs5'; omega); have h92' := (World.cell?_of_block (a := ⟨g9, 2, none⟩) ((hap6.old g9 (by simp; omega) (fun a ha he => by have := hBlX a ha; omega)).trans (alloc_past hg95))).trans h92; have h95' := (World.cell?_of_block (a := ⟨g9, 5, none⟩) ((hap6.old g9 (by simp; omega) (fun a ha he => by have := hBlX a ha; omega)).trans (alloc_past hg95))).trans h95; simp at k2)
                | (go_simp; go_at_call 39; refine (Hrec.out _ (by omega) (hRX.below (Below.refl _ _).drew) hst ⟨Tail.nil _ _ _ _ _, by simp, by simp⟩ hwa9 hpp (by omega) hv2 hbsX).mono ?_; rintro e9 w5 ⟨A5, n5, c5, rfl, hO5, hR5, hF5⟩; have x65 := (hF5.old g6 hg6X (by omega) (by omega) (by intro a ha; cases ha)).trans x6; have k1 := cells_of x65 1; have kf := frozen_of x65 1; have kl := block_lt x65; have h92 := (World.cell?_of_block (a := ⟨g9, 2, none⟩) (hF5.old g9 hXl (by omega) (by omega) (by intro a ha; cases ha))).trans j2; have h95 := (World.cell?_of_block (a := ⟨g9, 5, none⟩) (hF5.old g9 hXl (by omega) (by omega) (by intro a ha; cases ha))).trans j5; have hs5 := hF5.size; simp at k1)
                | fail)
            all_goals
              have hs5' : X.heap.size ≤ w5.heap.size := hs5
              have hB1 : ∀ a, B1 = some a → base2 ≤ a.block ∧ a.block < w6.heap.size ∧ a.block ≠ g6 := fun a ha => by
                obtain ⟨p1, p2⟩ := hap6.blk a ha
                rcases p2 with ⟨a0, p3, p4⟩ | p2
                · rw [p4]; exact ⟨(hBl a0 p3).1, by rw [← p4]; exact p1, (hBl a0 p3).2.2⟩
                · simp at p2; exact ⟨by omega, p1, by omega⟩
              have hA5 : ∀ a, A5 = some a → X.heap.size ≤ a.block := fun a ha => by
                rcases (hF5.blk a ha).2 with ⟨a0, p1, _⟩ | p
                · cases p1
                · exact p
              have hbrm : br < base2 ∧ mv < base2 := ⟨hlow.1, hlow.2.1⟩
              have hHd := lit_step (p := (true, out2)) (u := .slice B1 (m2 + 1) d1) ⟨A2, n2, c2, rfl, hHX, fun a ha => ⟨hHb a ha, hA6 a ha⟩, hfH⟩ hF5 hap6 hbrm
              obtain ⟨A2', n2', c2', hHe, hH1, _, hH3⟩ := hHd
              simp only [List.cons.injEq, Value.slice.injEq, Value.bool.injEq, true_and, and_true] at hHe
              obtain ⟨rfl, rfl, rfl⟩ := hHe
              have hO5C : IsC w5 A5 n5 c5 more := by simpa using hO5.isC
              have h5a := hO5C.below ((Below.refl _ _).alloc (Nat.le_refl _) (.cells #[.bool i.neg, .slice A5 n5 c5] 55))
              have h5f : Far B A5 n5 := fun a ha hn a' ha' he => by have := hBlX a ha; have := hA5 a' ha'; omega
              have hnewL : RLB base2 g6 B1 (w6.setCell ⟨g6, 1, none⟩ (.slice B1 (m2 + 1) d1)) (i.neg, more) [.bool i.neg, .slice A5 n5 c5] := ⟨A5, n5, c5, rfl, ⟨(h5a.sl.far hap6 h5f).but' (But.set w6 g6 1 _) (fun _ a ha => by have := hA5 a ha; omega), h5a.wf⟩, fun a ha => by have := hA5 a ha; exact ⟨by omega, by omega⟩, h5f.app hap6 h5a.sl⟩
              have hTl : TailG (RLB base2 g6 B1) 2 (w6.setCell ⟨g6, 1, none⟩ (.slice B1 (m2 + 1) d1)) base2 55 B1 (m2 + 1) d1 (lits ++ [(i.neg, more)]) := TailG.snoc (ht6.at_ fun a ha => set_other (hB1 a ha).2.2 _) hBX.len u1 u2 rfl (fun q x v hx hv => lit_step (u4 q x v hx hv) hF5 hap6 hbrm) hnewL
              have hRd := rd_step (u := .slice B1 (m2 + 1) d1) hR5 hap6 hbn6 (fun a ha => (hBl a ha).1) hlow hst (Nat.le_of_lt hgb) kl2
              have hz6 := set_block (k := 1) x66 (.slice B1 (m2 + 1) d1)
              simp at hz6
              have hwl2 := block_lt xc2
              have hz2 : (w6.setCell ⟨g6, 1, none⟩ (.slice B1 (m2 + 1) d1)).heap[w.heap.size]? = _ := (set_other (by omega) _).trans ((hap6.old w.heap.size (by simp; omega) (fun a ha => by have := (hBl a ha).1; omega)).trans ((alloc_past (by omega)).trans ((hF5.old w.heap.size hwl2 (by omega) (by omega) (by intro a ha; cases ha)).trans xc2)))
              have hbl : Below w.heap.size w w6 := (hbXw.trans (((Below.refl _ _).drew).mono hbXw.size)).trans (((hF5.toBelow (base := w.heap.size) (base2 := base2) (by omega) (by omega) (by omega) (by intro a ha; cases ha) (show w.heap.size ≤ X.heap.size by omega)).alloc (by omega) _).trans (hbn6.mono (by omega)))
              have q1 := Hgr.out.pot
              go_wp2_with fail
              go_roundw
              case rel => exact ⟨k + 1, B1, m2 + 1, d1, _, v3, by omega, by go_num, hz6, hz2, hH1, hH3, hTl, fun a ha => ⟨(hB1 a ha).1, by simpa using (hB1 a ha).2.1, (hB1 a ha).2.2⟩, hRd, hvo, by omega, by omega, fun x hx => (List.mem_append.1 hx).elim (hll x) (fun hx => by simp at hx; subst hx; exact hmol), by simpa using kl2, by have := hres.out; rw [Hdr.out, Hbr2.out] at this; rw [List.append_assoc]; exact this, Below.setCell hbl (show w.heap.size ≤ g6 by omega) _⟩
              case measure => simp [intOf]; omega
          · have cb12 : (i.op == 12) = false := by simp [hop]
            have hbr2 : bodyR M v4 (i :: l.drop (k + 1)) = bodyR M v4 (l.drop (k + 1)) := by rw [bodyR, if_neg hop]
            have Hbr2 := Lib.hid hbr2
            have hal2 : ∀ o, Below wr.heap.size wr (wr.alloc o) := fun o => (Below.refl _ _).alloc (Nat.le_refl _) o
            clear hbr2
            go_wp2
            go_roundw
            case rel => exact ⟨k + 1, B, m2, d2, lits, v4, by omega, by go_num, ((hal2 _).block g6 hg6l).trans hx6, ((hal2 _).block w.heap.size (block_lt hx2)).trans hx2, hHC.below (hal2 _), hfH, hBt.below (R := RLB base2 g6 B) (fun _ _ _ _ ⟨A, n, c, h1, h2, h3, h4⟩ hb => ⟨A, n, c, h1, h2.below hb, h3, h4⟩) (hal2 _), fun a ha => ⟨(hBl a ha).1, by have := (hBl a ha).2.1; simp; omega, (hBl a ha).2.2⟩, hR2.below (hal2 _), hv2, by omega, by omega, hll, by simp; omega, by have := hres.out; rw [Hdr.out, Hbr2.out] at this; exact this, hb2w.alloc hb2w.size _⟩
            case measure => simp [intOf]; omega
        · have hkn : k = m + 1 := by omega
          have hfin := hres.out
          rw [List.drop_eq_nil_of_le (by have := Hll.out; omega)] at hfin
          have hfl : lits = TB := by simpa [bodyR] using hfin
          have hr2 : r = (out2, lits) := by rw [Hraw.out, HTB.out, hfl]
          have Hr2 := Lib.hid hr2
          have hLs : IsLs wr B m2 d2 lits := by
            obtain ⟨us, u1, u2, u3, u4⟩ := hBt.rows
            exact ⟨hBt.len, us, u1, u2, u3.sl (by omega), fun q x v hx hv => by
              obtain ⟨A, n, c, h1, h2, _⟩ := u4 q x v hx hv
              exact ⟨A, n, c, h1, h2⟩⟩
          have hml : m2 ≤ 100000 := by omega
          have hlitl : ∀ x ∈ lits, x.2.length ≤ 1000000000000 := fun x hx => by have := hll x hx; omega
          have hn2l : n2 ≤ 1000000000000 := by have := hHC.len; omega
          have hIl : IsK wr (some ⟨b, off, none⟩) (m + 1) cap l := IsG.below keepsIn h hb2w
          obtain ⟨y0, y1, hg6l'⟩ := open2 hx6
          obtain ⟨w20, w21, w2l⟩ := open2 hx2
          have e20 := frozen_of hx2 0
          have e21 := frozen_of hx2 1
          have HBt := Lib.hid hBt
          clear hfin hfl hr2 hres hBt hR2
          by_cases hm : mayB (out2, lits) = true
          · obtain ⟨cl, hcl⟩ := mayB_cls hm
            have hcomp := fun w' (hb : Below wr.heap.size wr w') => compile_yes cl A2 n2 c2 out2 B m2 d2 lits w' (hHC.below hb) (IsG.below keepsLit hLs hb) hcl hm
            have Hcomp := Lib.hid hcomp
            have hlenF := compF_len hcl
            have HlenF := Lib.hid hlenF
            clear hcomp hlenF hm
            cases hsame : sameIn (compF cl) l
            all_goals
              have Hsame := Lib.hid hsame
              clear hsame
              go_wp2_with (first
                | (go_at_call 15; go_must (refine (Hcomp.out _ (Below.refl _ _)).mono ?_); rintro e9 w5 ⟨Ak, nk, ck, rfl, hKk, hbk⟩; have hnk : nk ≤ 100000 := (by have := hKk.len; have := HlenF.out; omega); have x65 := (hbk.block g6 hg6l').trans hx6; have x25 := (hbk.block w.heap.size w2l).trans hx2; have o0 := (open2 x65).1; have o1 := (open2 x65).2.1; have o2 := (open2 x65).2.2; have s0 := (open2 x25).1; have s1 := (open2 x25).2.1; have s2 := (open2 x25).2.2; have t0 := frozen_of x25 0; have t1 := frozen_of x25 1)
                | (go_at_call 40; go_must (refine (equalIn_V _ _ _ _ _ _ _ _ _ hKk (IsG.below keepsIn hIl hbk) hnk (by omega)).mono ?_); rw [Hsame.out]; rintro e9 w6 ⟨rfl, hbe⟩; have x66 := (hbe.block g6 o2).trans x65; have x26 := (hbe.block w.heap.size s2).trans x25; have oo0 := (open2 x66).1; have oo1 := (open2 x66).2.1; have oo2 := (open2 x66).2.2; have ss0 := (open2 x26).1; have ss1 := (open2 x26).2.1; have ss2 := (open2 x26).2.2; have tt0 := frozen_of x26 0; have tt1 := frozen_of x26 1))
            · refine bodyPost_ret (v := .tuple #[.agg #[.slice none 0 0, .slice none 0 0], .bool false]) (by simp [results, Try.results20, go_sem, *]) rfl ?_
              exact HQ2.out cl (by rw [Hr2.out]; exact hcl) (fun he => by have := Hsame.out; rw [he] at this; rw [(sameIn_iff l l).2 rfl] at this; cases this) _ (Below.setCell (Below.setCell ((hb2w.trans (hbk.mono hb2w.size)).trans (hbe.mono (Nat.le_trans hb2w.size hbk.size))) (Nat.le_refl _) _) (Nat.le_refl _) _)
            · have hbut : But w6 ((w6.setCell ⟨w.heap.size, 0, none⟩ (.slice A2 n2 c2)).setCell ⟨w.heap.size, 1, none⟩ (.slice B m2 d2)) w.heap.size := (But.set w6 w.heap.size 0 _).setB _
              have hfin : ∀ {size n c : Nat} {A : Option Addr} {xs : List Value}, Sl wr size A n c xs → (∀ a, A = some a → base2 ≤ a.block) → Sl ((w6.setCell ⟨w.heap.size, 0, none⟩ (.slice A2 n2 c2)).setCell ⟨w.heap.size, 1, none⟩ (.slice B m2 d2)) size A n c xs := fun h hA => ((h.below hbk).below hbe).but' hbut (fun _ a ha => by have := hA a ha; omega)
              refine bodyPost_ret (v := .tuple #[.agg #[.slice A2 n2 c2, .slice B m2 d2], .bool true]) (by simp [results, Try.results20, go_sem, *]) rfl ?_
              refine HQ3.out cl (by rw [Hr2.out]; exact hcl) ((sameIn_iff _ _).1 Hsame.out) A2 n2 c2 B m2 d2 _ ?_ ?_ (Below.setCell (Below.setCell ((hb2w.trans (hbk.mono hb2w.size)).trans (hbe.mono (Nat.le_trans hb2w.size hbk.size))) (Nat.le_refl _) _) (Nat.le_refl _) _)
              · rw [Hr2.out]; exact ⟨hfin hHC.sl hHb, hHC.wf⟩
              · rw [Hr2.out]
                obtain ⟨us, u1, u2, u3, u4⟩ := HBt.out.rows
                refine ⟨HBt.out.len, us, u1, u2, hfin (u3.sl (by omega)) (fun a ha => (hBl a ha).1), fun q x v hx hv => ?_⟩
                obtain ⟨A, n, c, h1, h2, h3, _⟩ := u4 q x v hx hv
                exact ⟨A, n, c, h1, hfin h2.sl (fun a ha => (h3 a ha).1), h2.wf⟩
          · have hm' : mayB (out2, lits) = false := by simpa using hm
            have hcomp := fun w' (hb : Below wr.heap.size wr w') => compile_no A2 n2 c2 out2 B m2 d2 lits w' (hHC.below hb) (IsG.below keepsLit hLs hb) hn2l hml hlitl hm'
            have Hcomp := Lib.hid hcomp
            have Hm := Lib.hid hm'
            clear hcomp hm hm'
            go_wp2_with (first
              | (go_at_call 15; go_must (refine (Hcomp.out _ (Below.refl _ _)).mono ?_); rintro e9 w5 ⟨rfl, hbk⟩; have x65 := (hbk.block g6 hg6l').trans hx6; have x25 := (hbk.block w.heap.size w2l).trans hx2; have o0 := (open2 x65).1; have o1 := (open2 x65).2.1; have o2 := (open2 x65).2.2; have s0 := (open2 x25).1; have s1 := (open2 x25).2.1; have s2 := (open2 x25).2.2; have t0 := frozen_of x25 0; have t1 := frozen_of x25 1))
            refine bodyPost_ret (v := .tuple #[.agg #[.slice none 0 0, .slice none 0 0], .bool false]) (by simp [results, Try.results20, go_sem, *]) rfl ?_
            exact HQ1.out (by rw [Hr2.out]; exact Hm.out) _ (Below.setCell (Below.setCell (hb2w.trans (hbk.mono hb2w.size)) (Nat.le_refl _) _) (Nat.le_refl _) _)
end Go.Proofs.Ytdeaeiolehglaaa
