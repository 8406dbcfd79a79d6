/- The walk that reads a term out of a register. -/
import Derived.Test.YtdeaeiolehglaaaM13
set_option linter.unusedVariables false
set_option linter.unusedSimpArgs false
namespace Go.Proofs.Ytdeaeiolehglaaa
open Go.RowKit Go.Maps

/-- what is neither the reader, nor its map of variables, nor the row that grows, is as it was -/
structure Fr (w w' : World) (br mv : Nat) (A A' : Option Addr) : Prop where
  os : w'.os = w.os
  tape : w'.tape = w.tape
  output : w'.output = w.output
  size : w.heap.size ≤ w'.heap.size
  old : ∀ g, g < w.heap.size → g ≠ br → g ≠ mv → (∀ a, A = some a → a.block ≠ g) → w'.heap[g]? = w.heap[g]?
  blk : ∀ a, A' = some a → a.block < w'.heap.size ∧ ((∃ a0, A = some a0 ∧ a.block = a0.block) ∨ w.heap.size ≤ a.block)
theorem Fr.trans {w w1 w2 : World} {br mv : Nat} {A A1 A2 : Option Addr} (h : Fr w w1 br mv A A1) (h' : Fr w1 w2 br mv A1 A2) : Fr w w2 br mv A A2 := by
  refine ⟨h'.os.trans h.os, h'.tape.trans h.tape, h'.output.trans h.output, Nat.le_trans h.size h'.size, fun g hg h1 h2 h3 => ?_, fun a ha => ?_⟩
  · refine (h'.old g (Nat.lt_of_lt_of_le hg h.size) h1 h2 fun a ha he => ?_).trans (h.old g hg h1 h2 h3)
    rcases (h.blk a ha).2 with ⟨a0, q1, q2⟩ | q
    · exact h3 a0 q1 (by rw [← q2]; exact he)
    · omega
  · obtain ⟨q1, q2⟩ := h'.blk a ha
    refine ⟨q1, ?_⟩
    rcases q2 with ⟨a0, q3, q4⟩ | q2
    · rcases (h.blk a0 q3).2 with ⟨a1, q5, q6⟩ | q5
      · exact .inl ⟨a1, q5, by rw [q4]; exact q6⟩
      · exact .inr (by rw [q4]; exact q5)
    · exact .inr (Nat.le_trans h.size q2)
theorem Fr.below {w w' : World} {br mv : Nat} {A : Option Addr} (h : Below w.heap.size w w') (hA : ∀ a, A = some a → a.block < w.heap.size) : Fr w w' br mv A A :=
  ⟨h.os, h.tape, h.output, h.size, fun g hg _ _ _ => h.block g hg, fun a ha => ⟨Nat.lt_of_lt_of_le (hA a ha) h.size, .inl ⟨a, ha, rfl⟩⟩⟩
theorem Fr.set (w : World) (br mv k : Nat) (v : Value) {A : Option Addr} (hA : ∀ a, A = some a → a.block < w.heap.size) : Fr w (w.setCell ⟨br, k, none⟩ v) br mv A A :=
  ⟨rfl, rfl, rfl, by simp, fun g _ h1 _ _ => set_other h1 v, fun a ha => ⟨by simpa using hA a ha, .inl ⟨a, ha, rfl⟩⟩⟩
theorem Fr.grown {w w' : World} {br mv : Nat} {A : Option Addr} (h : w.grownBy w' (some mv)) (hA : ∀ a, A = some a → a.block < w.heap.size) : Fr w w' br mv A A :=
  ⟨h.os, h.tape, h.output, h.size, fun g hg _ h2 _ => h.block g hg (by simpa using h2), fun a ha => ⟨Nat.lt_of_lt_of_le (hA a ha) h.size, .inl ⟨a, ha, rfl⟩⟩⟩
theorem Fr.apart {w w' : World} {br mv base : Nat} {A A' : Option Addr} (hap : Apart w w' A A') (hb : Below base w w') : Fr w w' br mv A A' :=
  ⟨hb.os, hb.tape, hb.output, hap.size, fun g hg _ _ h3 => hap.old g hg h3, fun a ha => hap.blk a ha⟩
/-- the row that grows: cells so far -/
structure Out (w : World) (base : Nat) (A : Option Addr) (n c : Nat) (out : List C) : Prop where
  tl : Tail w base 45 3 A n c (flatC out)
  wf : ∀ x ∈ out, x.wf
  lt : ∀ a, A = some a → base ≤ a.block ∧ a.block < w.heap.size
theorem Out.at_ {w w' : World} {base n c : Nat} {A : Option Addr} {out : List C} (h : Out w base A n c out) (hs : w.heap.size ≤ w'.heap.size) (hk : ∀ a, A = some a → w'.heap[a.block]? = w.heap[a.block]?) : Out w' base A n c out :=
  ⟨h.tl.at_ hk, h.wf, fun a ha => ⟨(h.lt a ha).1, Nat.lt_of_lt_of_le (h.lt a ha).2 hs⟩⟩
theorem Out.below {w w' : World} {base n c : Nat} {A : Option Addr} {out : List C} (h : Out w base A n c out) (hb : Below w.heap.size w w') : Out w' base A n c out := h.at_ hb.size fun a ha => hb.block _ (h.lt a ha).2
/-- the reader under such a frame, when the row lies above it -/
theorem RdAt.fr {w w' : World} {base base2 br mv ms mq mi : Nat} {ml : List (Int × Value)} {M : Rm} {v v' : Rv} {A A' : Option Addr} (h : RdAt w base br mv ms mq mi ml M v) (hf : Fr w w' br mv A A') (hA : ∀ a, A = some a → base2 ≤ a.block)
    (hlow : br < base2 ∧ mv < base2 ∧ ms < base2 ∧ mq < base2 ∧ mi < base2) (hst : ∀ k B n c, look ml k = some (.slice B n c) → 0 < n → ∀ a, B = some a → a.block < base2 ∧ a.block ≠ br)
    (hb : w'.heap[br]? = some (.cells #[.map (some mv), .map (some ms), .map (some mq), .map (some mi), .int .i64 v'.cells] 107 (0, 0))) (hv : MapI Try.prog 3 w' mv (ivals v'.vars)) : RdAt w' base br mv ms mq mi ml M v' := by
  have key : ∀ {b : Nat} {l : List (Int × Value)}, MapI Try.prog 3 w b l → b < base2 → b ≠ mv → MapI Try.prog 3 w' b l := fun {b l} hm hlt hne => hm.block (hf.old b hm.lt (fun e => map_ne hm h.blk e.symm) hne fun a ha he => by have := hA a ha; omega)
  refine ⟨hb, hv, key h.hs hlow.2.2.1 (fun e => h.ne.1 e.symm), key h.hq hlow.2.2.2.1 (fun e => h.ne.2.1 e.symm), key h.hi hlow.2.2.2.2 (fun e => h.ne.2.2.1 e.symm), h.st.keep fun k B n c row hl hn hk => ?_, h.low, h.ne⟩
  obtain ⟨vs, v1, v2, v3, v4⟩ := hk.rows
  refine ⟨hk.len, vs, v1, v2, ?_, fun i x v hx hv => v4 i x v hx hv⟩
  obtain ⟨es, clock, hbm⟩ := h.hv.isMap
  have hoff := v3.offMap (by omega) hbm
  refine ⟨v3.len, v3.hcap, v3.hmax, fun hn' => ?_⟩
  obtain ⟨g, off, rfl, hlt, hc⟩ := v3.cells hn'
  obtain ⟨q1, q2⟩ := hst k _ n c hl hn _ rfl
  refine ⟨g, off, rfl, Nat.lt_of_lt_of_le hlt hf.size, fun j u hu => ?_⟩
  rw [← hc j u hu]
  exact World.cell?_of_block (hf.old g hlt q2 (hoff hn' _ rfl) fun a ha he => by have := hA a ha; simp only at q1; omega)
/-- what reading a register leaves -/
def RetTm (w : World) (base base2 br mv ms mq mi : Nat) (ml : List (Int × Value)) (M : Rm) (A : Option Addr) (out : List C) (v : Rv) (more : List C) (e : Ending) (w' : World) : Prop :=
  ∃ A' n' c', e = .returned (.slice A' n' c') ∧ Out w' base2 A' n' c' (out ++ more) ∧ RdAt w' base br mv ms mq mi ml M v ∧ Fr w w' br mv A A'
theorem IsK.offRd {w : World} {A : Option Addr} {n c b : Nat} {xs : List In} {v0 v1 v2 v3 v4 : Value} {t : TypeId} (h : IsK w A n c xs) (hb : w.heap[b]? = some (.cells #[v0, v1, v2, v3, v4] t (0, 0))) : Off A n b := fun hn a ha he => by
  obtain ⟨vs, h1, h2, h3, h4⟩ := h.rows
  obtain ⟨g, off, rfl, hlt, hc⟩ := h3.cells hn
  cases ha
  simp only at he
  subst he
  have hl := h3.len
  have h5 : 5 < vs.flatten.length := by rw [hl]; omega
  have h6 := hc 5 _ (List.getElem?_eq_getElem h5)
  rw [cells_of hb] at h6
  rw [Array.getElem?_eq_none (by simp)] at h6
  cases h6
theorem int_wf {k n : Int} (hk : i64 k) (hn : i64 n) : (⟨k, noName, n⟩ : C).wf := ⟨hk, hn, empty_size⟩
theorem Out.snoc {w : World} {base n c : Nat} {A : Option Addr} {out : List C} {x : C} (hx : x.wf) (ht : Tail w base 45 3 A (n + 1) c (flatC out ++ [.int .i64 x.kind, .string x.name, .int .i64 x.n])) (hw : ∀ x ∈ out, x.wf) (hl : ∀ a, A = some a → base ≤ a.block ∧ a.block < w.heap.size) : Out w base A (n + 1) c (out ++ [x]) :=
  ⟨by rw [flatC_append]; exact ht, fun y hy => by
    rcases List.mem_append.1 hy with h | h
    · exact hw y h
    · simp at h; subst h; exact hx, hl⟩
theorem infoC10 : (Try.prog.info? 45).map (fun i => (i.zero, i.size, i.bytes)) = some (some (.agg #[.int .i64 0, .string ⟨#[]⟩, .int .i64 0]), 3, 32) := by kernel_rfl
theorem one_cell (nm : ByteArray) (m : Int) : ∀ u ∈ [Value.int .i64 3, .string nm, .int .i64 m], u.oneCell' = true := by
  intro u hu
  simp at hu
  rcases hu with rfl | rfl | rfl <;> rfl
theorem Out.len {w : World} {base n c : Nat} {A : Option Addr} {out : List C} (h : Out w base A n c out) : out.length = n := by
  have := h.tl.len
  rw [flatC_len] at this
  omega
theorem grow_out {w w1 : World} {base base2 br mv ms mq mi n c c1 : Nat} {ml : List (Int × Value)} {M : Rm} {v : Rv} {A A1 : Option Addr} {out : List C} {x : C} (hR : RdAt w base br mv ms mq mi ml M v) (hO : Out w base2 A n c out) (hap : Apart w w1 A A1) (hbn : Below base2 w w1)
    (ht : Tail w1 base2 45 3 A1 (n + 1) c1 (flatC out ++ [.int .i64 x.kind, .string x.name, .int .i64 x.n])) (hx : x.wf) (hlow : br < base2 ∧ mv < base2 ∧ ms < base2 ∧ mq < base2 ∧ mi < base2)
    (hst : ∀ k B n c, look ml k = some (.slice B n c) → 0 < n → ∀ a, B = some a → a.block < base2 ∧ a.block ≠ br) (hw2 : base2 ≤ w.heap.size) :
    Out w1 base2 A1 (n + 1) c1 (out ++ [x]) ∧ RdAt w1 base br mv ms mq mi ml M v ∧ Fr w w1 br mv A A1 := by
  have hf : Fr w w1 br mv A A1 := Fr.apart hap hbn
  have hA : ∀ a, A = some a → base2 ≤ a.block := fun a ha => (hO.lt a ha).1
  refine ⟨Out.snoc hx ht hO.wf fun a ha => ?_, ?_, hf⟩
  · obtain ⟨q1, q2⟩ := hap.blk a ha
    refine ⟨?_, q1⟩
    rcases q2 with ⟨a0, q3, q4⟩ | q2
    · rw [q4]; exact hA a0 q3
    · omega
  · exact hR.fr (v' := v) hf hA hlow hst ((hap.old br (block_lt hR.blk) fun a ha he => by have := hA a ha; omega).trans hR.blk) (hR.hv.block (hap.old mv hR.hv.lt fun a ha he => by have := hA a ha; omega))
set_option maxRecDepth 100000 in
set_option maxHeartbeats 8000000 in
theorem rdTerm_any (base base2 br mv ms mq mi : Nat) (ml : List (Int × Value)) (M : Rm) (hM : MOk M) (hK : ∀ r row, lk M.structs r = some row → row.length ≤ 4001) (hbb : base ≤ base2)
    (hlow : br < base2 ∧ mv < base2 ∧ ms < base2 ∧ mq < base2 ∧ mi < base2) (f : Nat) : ∀ (v : Rv) (reg : Int) (A : Option Addr) (n c : Nat) (out : List C) (w : World), 1810 - v.cells ≤ f → RdAt w base br mv ms mq mi ml M v →
    (∀ k B n c, look ml k = some (.slice B n c) → 0 < n → ∀ a, B = some a → a.block < base2 ∧ a.block ≠ br) → Out w base2 A n c out → i64 reg → potF 4000 v.cells ≤ 7300000 → n ≤ 10 + 4001 * v.cells → VOk v → base2 ≤ w.heap.size →
    Calls Try.prog 39 #[.pointer (some ⟨br, 0, none⟩), .int .i64 reg, .slice A n c] w (RetTm w base base2 br mv ms mq mi ml M A out (termF M f v reg).1 (termF M f v reg).2) := by
  induction f with
  | zero =>
    intro v reg A n c out w hf hR hst hO hreg hpot hn hv hw2
    have hover : 1810 ≤ v.cells := by omega
    have hc : v.cells ≤ 7300000 := by have : v.cells ≤ potF 4000 v.cells := Nat.le_add_right _ _; omega
    have hgt : (1809 : Int) < (v.cells : Int) + 1 := by omega
    have hb := hR.blk
    have r4 := cells_of hb 4
    have f4 := frozen_of hb 4
    have rl := block_lt hb
    simp at r4
    go_enter Try.func39, Try.ntmps39
    go_wp2
    go_ret
    have hs := set_block (k := 4) hb (.int .i64 ((v.cells : Int) + 1))
    simp at hs
    have hne := map_ne hR.hv hR.blk
    have hf0 := Fr.set w br mv 4 (.int .i64 ((v.cells : Int) + 1)) (fun a ha => (hO.lt a ha).2)
    exact ⟨A, n, c, rfl, by simpa [termF] using hO.at_ hf0.size (fun a ha => set_other (by have := (hO.lt a ha).1; omega) _), hR.fr (v' := tick v) hf0 (fun a ha => (hO.lt a ha).1) hlow hst (by simpa [tick] using hs) (hR.hv.block (set_other (fun e => hne e.symm) _)), hf0⟩
  | succ f ih =>
    intro v reg A n c out w hf hR hst hO hreg hpot hn hv hw2
    have Ih := Lib.hid ih
    have hc : v.cells ≤ 7300000 := by have : v.cells ≤ potF 4000 v.cells := Nat.le_add_right _ _; omega
    have hb := hR.blk
    have r4 := cells_of hb 4
    have f4 := frozen_of hb 4
    have rl := block_lt hb
    simp at r4
    have hs := set_block (k := 4) hb (.int .i64 ((v.cells : Int) + 1))
    simp at hs
    have hne := map_ne hR.hv hR.blk
    have hf0 := Fr.set w br mv 4 (.int .i64 ((v.cells : Int) + 1)) (fun a ha => (hO.lt a ha).2)
    have hO0 : Out (w.setCell ⟨br, 4, none⟩ (.int .i64 ((v.cells : Int) + 1))) base2 A n c out := hO.at_ hf0.size (fun a ha => set_other (by have := (hO.lt a ha).1; omega) _)
    have hR0 : RdAt (w.setCell ⟨br, 4, none⟩ (.int .i64 ((v.cells : Int) + 1))) base br mv ms mq mi ml M (tick v) := hR.fr (v' := tick v) hf0 (fun a ha => (hO.lt a ha).1) hlow hst (by simpa [tick] using hs) (hR.hv.block (set_other (fun e => hne e.symm) _))
    by_cases hover : 1809 < v.cells + 1
    · have hgt : (1809 : Int) < (v.cells : Int) + 1 := by omega
      have ht : termF M (f + 1) v reg = (tick v, []) := by rw [termF, if_pos hover]
      have Ht := Lib.hid ht
      have H0 := Lib.hid (And.intro hR0 hO0)
      have HS := Lib.hid hs
      clear ih ht hR0 hO0 hs
      go_enter Try.func39, Try.ntmps39
      go_wp2
      go_ret
      rw [Ht.out]
      exact ⟨A, n, c, rfl, by simpa using H0.out.2, H0.out.1, hf0⟩
    · have hgt : ¬ (1809 : Int) < (v.cells : Int) + 1 := by omega
      have H0 := Lib.hid (And.intro hR0 (And.intro hO0 hf0))
      have Hover := Lib.hid hover
      clear ih hR0 hO0 hs hf0 hover
      go_enter Try.func39, Try.ntmps39
      go_upto_region 4 with fail
      refine wp_world' (Φ := fun X => RdAt X base br mv ms mq mi ml M (tick v) ∧ Out X base2 A n c out ∧ Fr w X br mv A A) H0.out ?_
      rintro X ⟨hRX, hOX, hfX⟩
      have hwX := hfX.size
      clear r4 f4 rl hb hne H0
      have r0 := cells_of hRX.blk 0
      have r1 := cells_of hRX.blk 1
      have r2 := cells_of hRX.blk 2
      have r3 := cells_of hRX.blk 3
      have rl := block_lt hRX.blk
      simp at r0 r1 r2 r3
      have hal : ∀ o, Below X.heap.size X (X.alloc o) := fun o => (Below.refl _ _).alloc (Nat.le_refl _) o
      have hAX : ∀ a, A = some a → a.block < X.heap.size := fun a ha => (hOX.lt a ha).2
      cases hI : lk M.ints reg with
      | some m =>
        have hm64 := hM.ints reg m hI
        have ht : termF M (f + 1) v reg = (tick v, [⟨2, noName, m⟩]) := by rw [termF, if_neg Hover.out, hI]
        have hlI : look (ivals M.ints) reg = some (.int .i64 m) := by rw [look_ivals, hI]; rfl
        have Ht := Lib.hid ht
        clear ht hI
        go_wp2_with (first
          | (at_lookup; refine wpList_map_ok rfl (.tmp 34) (.tmp 35) 61 rfl 3 Try.underlying3 Try.underlying61 (zeroI _) rfl hRX.hi rfl hreg ?_; rw [hlI]; simp only [Option.getD, Option.isSome])
          | (at_builtin; go_must (refine wpList_append_tail (xs := flatC out) rfl (.tmp 40) (.tmp 43) 22 rfl base2 45 Try.underlying22 infoC10 rfl (by omega) rfl (hOX.tl.below ((Below.refl _ _).alloc (Nat.le_refl _) _)) rfl (Sl.blk (cs := #[.int .i64 2, .string ⟨#[]⟩, .int .i64 m]) (t := 45) (alloc_at rfl) rfl (by simp [maxLen])) (by simp [Value.oneCell']) (by omega) (by omega) (by omega) (by simp; omega) ?_); intro A1 cap1 w1 hc1 ht1 hbn1 hap1))
        go_ret
        rw [Ht.out]
        obtain ⟨q1, q2, q3⟩ := grow_out (x := ⟨2, noName, m⟩) (hRX.below (hal _)) (hOX.below (hal _)) hap1 hbn1 ht1 (int_wf (i64_small (by decide) (by decide)) hm64) hlow hst (by simp; omega)
        exact ⟨A1, n + 1, cap1, rfl, q1, q2, hfX.trans ((Fr.below (hal _) hAX).trans q3)⟩
      | none =>
        have hlI : look (ivals M.ints) reg = none := by rw [look_ivals, hI]; rfl
        rcases hRX.st.rel reg with ⟨hlS, hS⟩ | ⟨B, nB, cB, row, hlS, hS, hK1, hnB⟩
        · have ht : termF M (f + 1) v reg = varF (tick v) ((lk M.same reg).getD reg) := by rw [termF, if_neg Hover.out, hI]; simp only [hS]
          have Ht := Lib.hid ht
          clear ht hI hS
          have hvt := hv.tick
          obtain ⟨rg, hrgd⟩ : ∃ rg, (lk M.same reg).getD reg = rg := ⟨_, rfl⟩
          have hrg : i64 rg := by
            rw [← hrgd]
            cases hq : lk M.same reg with
            | some x => exact hM.same reg x hq
            | none => exact hreg
          have Hrgd := Lib.hid hrgd
          have hvl := hvt.len
          have hvl2 : (tick v).vars.length ≤ 7300001 := by simp only [tick] at hvl ⊢; omega
          have hn7 : n ≤ 100000000000 := by omega
          cases hq : lk M.same reg with
          | none =>
            rw [hq] at hrgd
            simp only [Option.getD] at hrgd
            subst hrgd
            have hlQ : look (ivals M.same) reg = none := by rw [look_ivals, hq]; rfl
            rw [hq] at Ht
            simp only [Option.getD] at Ht
            clear hq Hrgd
            cases hV : lk (tick v).vars reg with
            | some kk =>
              have hlV : look (ivals (tick v).vars) reg = some (.int .i64 kk) := by rw [look_ivals, hV]; rfl
              have hvf : varF (tick v) reg = (tick v, [⟨1, noName, kk⟩]) := by simp [varF, hV]
              have hkk := hvt.num _ _ hV
              have hk64 : i64 kk := i64_small (by omega) (by simp only [tick] at hkk; omega)
              rw [hvf] at Ht
              clear hV hvf
              go_wp2_with (first
                | (at_lookup; refine wpList_map_ok rfl (.tmp 34) (.tmp 35) 61 rfl 3 Try.underlying3 Try.underlying61 (zeroI _) rfl hRX.hi rfl hreg ?_; rw [hlI]; simp only [Option.getD, Option.isSome])
                | (at_lookup; refine wpList_map_ok rfl (.tmp 49) (.tmp 50) 105 rfl 26 Try.underlying3 Try.underlying105 (zeroIs _) rfl hRX.hs rfl hreg ?_; rw [hlS]; simp only [Option.getD, Option.isSome])
                | (at_lookup; refine wpList_map_ok rfl (.tmp 60) (.tmp 61) 61 rfl 3 Try.underlying3 Try.underlying61 (zeroI _) rfl hRX.hq rfl hreg ?_; rw [hlQ]; simp only [Option.getD, Option.isSome])
                | (at_lookup; refine wpList_map_ok rfl (.tmp 71) (.tmp 72) 61 rfl 3 Try.underlying3 Try.underlying61 (zeroI _) rfl hRX.hv rfl hrg ?_; rw [hlV]; simp only [Option.getD, Option.isSome])
                | (at_lookup; refine wpList_map_get rfl (.tmp 92) (.tmp 93) 61 rfl 3 Try.underlying3 Try.underlying61 (zeroI _) rfl hRX.hv rfl hrg ?_; rw [hlV]; simp only [Option.getD])
                | (at_builtin; go_must (refine wpList_append_tail (xs := flatC out) rfl (.tmp 88) (.tmp 96) 22 rfl base2 45 Try.underlying22 infoC10 rfl (by omega) rfl (hOX.tl.below ((Below.refl _ _).alloc (Nat.le_refl _) _)) rfl (Sl.blk (cs := #[.int .i64 1, .string ⟨#[]⟩, .int .i64 kk]) (t := 45) (alloc_at rfl) rfl (by simp [maxLen])) (by simp [Value.oneCell']) (by omega) (by omega) (by omega) (by simp; omega) ?_); intro A1 cap1 w1 hc1 ht1 hbn1 hap1))
              go_ret
              rw [Ht.out]
              obtain ⟨q1, q2, q3⟩ := grow_out (x := ⟨1, noName, kk⟩) (hRX.below (hal _)) (hOX.below (hal _)) hap1 hbn1 ht1 (int_wf (i64_small (by decide) (by decide)) hk64) hlow hst (by simp; omega)
              exact ⟨A1, n + 1, cap1, rfl, q1, q2, hfX.trans ((Fr.below (hal _) hAX).trans q3)⟩
            | none =>
              have hlV : look (ivals (tick v).vars) reg = none := by rw [look_ivals, hV]; rfl
              obtain ⟨vl, hvle⟩ : ∃ vl, vl = (tick v).vars.length := ⟨_, rfl⟩
              have hvf : varF (tick v) reg = (⟨pt (tick v).vars reg vl, (tick v).cells⟩, [⟨1, noName, vl⟩]) := by simp [varF, hV, hvle]
              have hk64 : i64 (vl : Int) := i64_small (by omega) (by omega)
              rw [hvf] at Ht
              clear hV hvf
              obtain ⟨w2, hrun, hq2, hg2⟩ := run_map_put (w := X.drew) (t := 61) 3 Try.underlying3 Try.underlying61 (hRX.hv.below (Below.refl _ _).drew) (by rw [len_ivals]; omega) (.int .i64 (vl : Int)) hrg
              rw [put_ivals] at hq2
              have hdr : Below X.heap.size X X.drew := (Below.refl _ _).drew
              have hOd := hOX.below hdr
              have hRd := hRX.below hdr
              have hf2 : Fr X.drew w2 br mv A A := Fr.grown hg2 hAX
              have hb2 : w2.heap[br]? = some _ := (hg2.block br (block_lt hRd.blk) (by simpa using map_ne hRd.hv hRd.blk)).trans hRd.blk
              have hR2 : RdAt w2 base br mv ms mq mi ml M ⟨pt (tick v).vars reg vl, (tick v).cells⟩ := hRd.fr (v' := ⟨pt (tick v).vars reg vl, (tick v).cells⟩) hf2 (fun a ha => (hOd.lt a ha).1) hlow hst hb2 hq2
              have hO2 : Out w2 base2 A n c out := hOd.at_ hf2.size (fun a ha => hg2.block _ (hOd.lt a ha).2 (by have := (hOd.lt a ha).1; simp; omega))
              have hl2 : look (ivals (pt (tick v).vars reg vl)) reg = some (.int .i64 vl) := by rw [look_ivals, lk_pt, if_pos rfl]; rfl
              have b0 := cells_of hR2.blk 0
              simp at b0
              have hw2X : X.heap.size ≤ w2.heap.size := hf2.size
              have hlen := len_ivals (tick v).vars
              rw [← hvle] at hlen
              have Hlen := Lib.hid hlen
              clear hlen hvle
              go_upto_region 14 with (first
                | (at_lookup; refine wpList_map_ok rfl (.tmp 34) (.tmp 35) 61 rfl 3 Try.underlying3 Try.underlying61 (zeroI _) rfl hRX.hi rfl hreg ?_; rw [hlI]; simp only [Option.getD, Option.isSome])
                | (at_lookup; refine wpList_map_ok rfl (.tmp 49) (.tmp 50) 105 rfl 26 Try.underlying3 Try.underlying105 (zeroIs _) rfl hRX.hs rfl hreg ?_; rw [hlS]; simp only [Option.getD, Option.isSome])
                | (at_lookup; refine wpList_map_ok rfl (.tmp 60) (.tmp 61) 61 rfl 3 Try.underlying3 Try.underlying61 (zeroI _) rfl hRX.hq rfl hreg ?_; rw [hlQ]; simp only [Option.getD, Option.isSome])
                | (at_lookup; refine wpList_map_ok rfl (.tmp 71) (.tmp 72) 61 rfl 3 Try.underlying3 Try.underlying61 (zeroI _) rfl hRX.hv rfl hrg ?_; rw [hlV]; simp only [Option.getD, Option.isSome]))
              go_region_law
                (first
                  | (refine step_map_len (by rfl) (.tmp 86) 61 (by rfl) 3 Try.underlying61 (by rfl) (hRX.hv.below ?_) ?_; (focus (exact hdr)); rw [Hlen.out])
                  | fail)
              all_goals
                go_wp2_with (first
                  | (at_lookup; refine wpList_map_get rfl (.tmp 92) (.tmp 93) 61 rfl 3 Try.underlying3 Try.underlying61 (zeroI _) rfl hR2.hv rfl hrg ?_; rw [hl2]; simp only [Option.getD])
                  | (at_builtin; go_must (refine wpList_append_tail (xs := flatC out) rfl (.tmp 88) (.tmp 96) 22 rfl base2 45 Try.underlying22 infoC10 rfl (by omega) rfl (hO2.tl.below ((Below.refl _ _).alloc (Nat.le_refl _) _)) rfl (Sl.blk (cs := #[.int .i64 1, .string ⟨#[]⟩, .int .i64 (vl : Int)]) (t := 45) (alloc_at rfl) rfl (by simp [maxLen])) (by simp [Value.oneCell']) (by omega) (by omega) (by omega) (by simp; omega) ?_); intro A1 cap1 w1 hc1 ht1 hbn1 hap1))
                go_ret
                rw [Ht.out]
                have hal2 : ∀ o, Below w2.heap.size w2 (w2.alloc o) := fun o => (Below.refl _ _).alloc (Nat.le_refl _) o
                obtain ⟨q1, q2, q3⟩ := grow_out (x := ⟨1, noName, vl⟩) (hR2.below (hal2 _)) (hO2.below (hal2 _)) hap1 hbn1 ht1 (int_wf (i64_small (by decide) (by decide)) hk64) hlow hst (by simp; omega)
                exact ⟨A1, n + 1, cap1, rfl, q1, q2, hfX.trans ((Fr.below hdr hAX).trans (hf2.trans ((Fr.below (hal2 _) (fun a ha => (hO2.lt a ha).2)).trans q3)))⟩
          | some x =>
            rw [hq] at hrgd
            simp only [Option.getD] at hrgd
            subst hrgd
            have hlQ : look (ivals M.same) reg = some (.int .i64 x) := by rw [look_ivals, hq]; rfl
            rw [hq] at Ht
            simp only [Option.getD] at Ht
            clear hq Hrgd
            cases hV : lk (tick v).vars x with
            | some kk =>
              have hlV : look (ivals (tick v).vars) x = some (.int .i64 kk) := by rw [look_ivals, hV]; rfl
              have hvf : varF (tick v) x = (tick v, [⟨1, noName, kk⟩]) := by simp [varF, hV]
              have hkk := hvt.num _ _ hV
              have hk64 : i64 kk := i64_small (by omega) (by simp only [tick] at hkk; omega)
              rw [hvf] at Ht
              clear hV hvf
              go_wp2_with (first
                | (at_lookup; refine wpList_map_ok rfl (.tmp 34) (.tmp 35) 61 rfl 3 Try.underlying3 Try.underlying61 (zeroI _) rfl hRX.hi rfl hreg ?_; rw [hlI]; simp only [Option.getD, Option.isSome])
                | (at_lookup; refine wpList_map_ok rfl (.tmp 49) (.tmp 50) 105 rfl 26 Try.underlying3 Try.underlying105 (zeroIs _) rfl hRX.hs rfl hreg ?_; rw [hlS]; simp only [Option.getD, Option.isSome])
                | (at_lookup; refine wpList_map_ok rfl (.tmp 60) (.tmp 61) 61 rfl 3 Try.underlying3 Try.underlying61 (zeroI _) rfl hRX.hq rfl hreg ?_; rw [hlQ]; simp only [Option.getD, Option.isSome])
                | (at_lookup; refine wpList_map_ok rfl (.tmp 71) (.tmp 72) 61 rfl 3 Try.underlying3 Try.underlying61 (zeroI _) rfl hRX.hv rfl hrg ?_; rw [hlV]; simp only [Option.getD, Option.isSome])
                | (at_lookup; refine wpList_map_get rfl (.tmp 92) (.tmp 93) 61 rfl 3 Try.underlying3 Try.underlying61 (zeroI _) rfl hRX.hv rfl hrg ?_; rw [hlV]; simp only [Option.getD])
                | (at_builtin; go_must (refine wpList_append_tail (xs := flatC out) rfl (.tmp 88) (.tmp 96) 22 rfl base2 45 Try.underlying22 infoC10 rfl (by omega) rfl (hOX.tl.below ((Below.refl _ _).alloc (Nat.le_refl _) _)) rfl (Sl.blk (cs := #[.int .i64 1, .string ⟨#[]⟩, .int .i64 kk]) (t := 45) (alloc_at rfl) rfl (by simp [maxLen])) (by simp [Value.oneCell']) (by omega) (by omega) (by omega) (by simp; omega) ?_); intro A1 cap1 w1 hc1 ht1 hbn1 hap1))
              go_ret
              rw [Ht.out]
              obtain ⟨q1, q2, q3⟩ := grow_out (x := ⟨1, noName, kk⟩) (hRX.below (hal _)) (hOX.below (hal _)) hap1 hbn1 ht1 (int_wf (i64_small (by decide) (by decide)) hk64) hlow hst (by simp; omega)
              exact ⟨A1, n + 1, cap1, rfl, q1, q2, hfX.trans ((Fr.below (hal _) hAX).trans q3)⟩
            | none =>
              have hlV : look (ivals (tick v).vars) x = none := by rw [look_ivals, hV]; rfl
              obtain ⟨vl, hvle⟩ : ∃ vl, vl = (tick v).vars.length := ⟨_, rfl⟩
              have hvf : varF (tick v) x = (⟨pt (tick v).vars x vl, (tick v).cells⟩, [⟨1, noName, vl⟩]) := by simp [varF, hV, hvle]
              have hk64 : i64 (vl : Int) := i64_small (by omega) (by omega)
              rw [hvf] at Ht
              clear hV hvf
              obtain ⟨w2, hrun, hq2, hg2⟩ := run_map_put (w := X.drew) (t := 61) 3 Try.underlying3 Try.underlying61 (hRX.hv.below (Below.refl _ _).drew) (by rw [len_ivals]; omega) (.int .i64 (vl : Int)) hrg
              rw [put_ivals] at hq2
              have hdr : Below X.heap.size X X.drew := (Below.refl _ _).drew
              have hOd := hOX.below hdr
              have hRd := hRX.below hdr
              have hf2 : Fr X.drew w2 br mv A A := Fr.grown hg2 hAX
              have hb2 : w2.heap[br]? = some _ := (hg2.block br (block_lt hRd.blk) (by simpa using map_ne hRd.hv hRd.blk)).trans hRd.blk
              have hR2 : RdAt w2 base br mv ms mq mi ml M ⟨pt (tick v).vars x vl, (tick v).cells⟩ := hRd.fr (v' := ⟨pt (tick v).vars x vl, (tick v).cells⟩) hf2 (fun a ha => (hOd.lt a ha).1) hlow hst hb2 hq2
              have hO2 : Out w2 base2 A n c out := hOd.at_ hf2.size (fun a ha => hg2.block _ (hOd.lt a ha).2 (by have := (hOd.lt a ha).1; simp; omega))
              have hl2 : look (ivals (pt (tick v).vars x vl)) x = some (.int .i64 vl) := by rw [look_ivals, lk_pt, if_pos rfl]; rfl
              have b0 := cells_of hR2.blk 0
              simp at b0
              have hw2X : X.heap.size ≤ w2.heap.size := hf2.size
              have hlen := len_ivals (tick v).vars
              rw [← hvle] at hlen
              have Hlen := Lib.hid hlen
              clear hlen hvle
              go_upto_region 14 with (first
                | (at_lookup; refine wpList_map_ok rfl (.tmp 34) (.tmp 35) 61 rfl 3 Try.underlying3 Try.underlying61 (zeroI _) rfl hRX.hi rfl hreg ?_; rw [hlI]; simp only [Option.getD, Option.isSome])
                | (at_lookup; refine wpList_map_ok rfl (.tmp 49) (.tmp 50) 105 rfl 26 Try.underlying3 Try.underlying105 (zeroIs _) rfl hRX.hs rfl hreg ?_; rw [hlS]; simp only [Option.getD, Option.isSome])
                | (at_lookup; refine wpList_map_ok rfl (.tmp 60) (.tmp 61) 61 rfl 3 Try.underlying3 Try.underlying61 (zeroI _) rfl hRX.hq rfl hreg ?_; rw [hlQ]; simp only [Option.getD, Option.isSome])
                | (at_lookup; refine wpList_map_ok rfl (.tmp 71) (.tmp 72) 61 rfl 3 Try.underlying3 Try.underlying61 (zeroI _) rfl hRX.hv rfl hrg ?_; rw [hlV]; simp only [Option.getD, Option.isSome]))
              go_region_law
                (first
                  | (refine step_map_len (by rfl) (.tmp 86) 61 (by rfl) 3 Try.underlying61 (by rfl) (hRX.hv.below ?_) ?_; (focus (exact hdr)); rw [Hlen.out])
                  | fail)
              all_goals
                go_wp2_with (first
                  | (at_lookup; refine wpList_map_get rfl (.tmp 92) (.tmp 93) 61 rfl 3 Try.underlying3 Try.underlying61 (zeroI _) rfl hR2.hv rfl hrg ?_; rw [hl2]; simp only [Option.getD])
                  | (at_builtin; go_must (refine wpList_append_tail (xs := flatC out) rfl (.tmp 88) (.tmp 96) 22 rfl base2 45 Try.underlying22 infoC10 rfl (by omega) rfl (hO2.tl.below ((Below.refl _ _).alloc (Nat.le_refl _) _)) rfl (Sl.blk (cs := #[.int .i64 1, .string ⟨#[]⟩, .int .i64 (vl : Int)]) (t := 45) (alloc_at rfl) rfl (by simp [maxLen])) (by simp [Value.oneCell']) (by omega) (by omega) (by omega) (by simp; omega) ?_); intro A1 cap1 w1 hc1 ht1 hbn1 hap1))
                go_ret
                rw [Ht.out]
                have hal2 : ∀ o, Below w2.heap.size w2 (w2.alloc o) := fun o => (Below.refl _ _).alloc (Nat.le_refl _) o
                obtain ⟨q1, q2, q3⟩ := grow_out (x := ⟨1, noName, vl⟩) (hR2.below (hal2 _)) (hO2.below (hal2 _)) hap1 hbn1 ht1 (int_wf (i64_small (by decide) (by decide)) hk64) hlow hst (by simp; omega)
                exact ⟨A1, n + 1, cap1, rfl, q1, q2, hfX.trans ((Fr.below hdr hAX).trans (hf2.trans ((Fr.below (hal2 _) (fun a ha => (hO2.lt a ha).2)).trans q3)))⟩
        · obtain ⟨hrn, hrw⟩ := hM.rows reg row hS
          have hrl := hK reg row hS
          obtain ⟨hd, tl, rfl⟩ : ∃ hd tl, row = hd :: tl := by cases row with | nil => exact absurd rfl hrn | cons a b => exact ⟨a, b, rfl⟩
          have ht : termF M (f + 1) v reg = ((restF (termF M f) (tick v) tl).1, ⟨3, hd.name, hd.n⟩ :: (restF (termF M f) (tick v) tl).2) := by rw [termF, if_neg Hover.out, hI]; simp only [hS]
          have Ht := Lib.hid ht
          have hlenB := hK1.len
          have hcapB := hK1.cap_le
          obtain ⟨hBlt, hBbr⟩ : (∀ a, B = some a → a.block < base2) ∧ (∀ a, B = some a → a.block ≠ br) := ⟨fun a ha => (hst reg B nB cB hlS hnB a ha).1, fun a ha => (hst reg B nB cB hlS hnB a ha).2⟩
          obtain ⟨es, clock, hbm⟩ := hRX.hv.isMap
          have hBmv := hK1.offMap (by omega) hbm hnB
          obtain ⟨b, off, rfl, hbb, hw0, -, -, -, c3, c4, -⟩ := hK1.at' (k := 0) (i := hd) rfl
          simp only [Nat.zero_mul, Nat.add_zero] at c3 c4
          have hb1 := hBlt _ rfl
          have hb2 := hBbr _ rfl
          have hb3 := hBmv _ rfl
          simp only at hb1 hb2 hb3
          have hcut : IsK X (if cB = 1 then some ⟨b, off, none⟩ else some ⟨b, off + 6, none⟩) tl.length (cB - 1) tl := by
            have h1 := hK1.drop (m := 1) (by omega)
            have h2 : (if cB = 1 then (some ⟨b, off, none⟩ : Option Addr) else (some (⟨b, off, none⟩ : Addr)).map (·.add (1 * 6))) = if cB = 1 then some ⟨b, off, none⟩ else some ⟨b, off + 6, none⟩ := by split <;> simp [Addr.add]
            rw [h2] at h1
            have h3 : nB - 1 = tl.length := by simp at hlenB; omega
            rw [h3] at h1
            exact h1
          obtain ⟨offc, hcutE⟩ : ∃ offc, (if cB = 1 then (some ⟨b, off, none⟩ : Option Addr) else some ⟨b, off + 6, none⟩) = some ⟨b, offc, none⟩ := by split <;> exact ⟨_, rfl⟩
          rw [hcutE] at hcut
          have htl : tl.length ≤ 4000 := by simp at hrl; omega
          have hnB1 : nB = tl.length + 1 := by simpa using hlenB.symm
          have hwd : hd.wf := hrw hd (by simp)
          have hn0 : (0 : Int) < (nB : Int) := by omega
          have hn7 : n ≤ 100000000000 := by omega
          have Hrw := Lib.hid hrw
          have Hc := Lib.hid hcut
          clear ht hI hS hrn hrl hlenB hBlt hBbr hBmv hrw hbm hcut
          go_upto_region 16 with (first
            | (at_lookup; refine wpList_map_ok rfl (.tmp 34) (.tmp 35) 61 rfl 3 Try.underlying3 Try.underlying61 (zeroI _) rfl hRX.hi rfl hreg ?_; rw [hlI]; simp only [Option.getD, Option.isSome])
            | (at_lookup; refine wpList_map_ok rfl (.tmp 49) (.tmp 50) 105 rfl 26 Try.underlying3 Try.underlying105 (zeroIs _) rfl hRX.hs rfl hreg ?_; rw [hlS]; simp only [Option.getD, Option.isSome]))
          go_region_held3 (fun w' => w'.cell? ⟨b, off + 3, none⟩ = some (.string hd.name) ∧ w'.cell? ⟨b, off + 4, none⟩ = some (.int .i64 hd.n))
            (first | assumption | go_keep)
            (first
              | (refine step_append_any (xs := flatC out) (by rfl) (.tmp 98) (.tmp 108) 22 (by rfl) base2 45 Try.underlying22 infoC10 (by rfl) (by omega) (by rfl) ?_ ?_ (by rfl) ?_ (one_cell hd.name hd.n) (by omega) (by omega) ?_ ?_ ?_; (focus (exact hOX.tl.below ((Below.refl _ _).alloc (Nat.le_refl _) _).drew)); (focus (intro b hb; have hq := hAX b hb; simp; omega)); (focus (exact Sl.blk (cs := #[.int .i64 3, .string hd.name, .int .i64 hd.n]) (t := 45) (alloc_at (w := X) rfl) rfl (by simp [maxLen]))); (focus (simp; omega)); (focus (exact hOX.tl.none_cap)); intro A1 cap1 w1 ht1 hbn1 hap1; have c31 := (World.cell?_of_block (a := ⟨b, off + 3, none⟩) ((hap1.old b (by simp; omega) (fun a ha he => by have := (hOX.lt a ha).1; omega)).trans (((hal _).drew).block b hbb))).trans c3; have c41 := (World.cell?_of_block (a := ⟨b, off + 4, none⟩) ((hap1.old b (by simp; omega) (fun a ha he => by have := (hOX.lt a ha).1; omega)).trans (((hal _).drew).block b hbb))).trans c4)
              | fail)
          all_goals
            obtain ⟨qO, qR, qF⟩ := grow_out (x := ⟨3, hd.name, hd.n⟩) (hRX.below (hal _).drew) (hOX.below (hal _).drew) hap1 hbn1 ht1 ⟨i64_small (n := 3) (by decide) (by decide), hwd.n, hwd.name⟩ hlow hst (by simp; omega)
            have hF1 : Fr X w1 br mv A A1 := (Fr.below (hal _).drew hAX).trans qF
            have hFw1 : Fr w w1 br mv A A1 := hfX.trans hF1
            have hXw1 := hF1.size
            have hAb2 : ∀ a, A = some a → base2 ≤ a.block := fun a ha => (hOX.lt a ha).1
            clear ht1 hap1 hbn1 c31 c41 c3 c4 qF
            obtain ⟨TOT, hTOT⟩ : ∃ TOT, restF (termF M f) (tick v) tl = TOT := ⟨_, rfl⟩
            have hstart : (restF (termF M f) (tick v) (tl.drop 0)).1 = TOT.1 ∧ (out ++ [(⟨3, hd.name, hd.n⟩ : C)]) ++ (restF (termF M f) (tick v) (tl.drop 0)).2 = (out ++ [(⟨3, hd.name, hd.n⟩ : C)]) ++ TOT.2 := by rw [List.drop_zero, hTOT]; exact ⟨rfl, rfl⟩
            have Hstart := Lib.hid hstart
            have HTOT := Lib.hid hTOT
            have hpt := pot_step 4000 v.cells (by have := Hover.out; omega)
            have htc : (tick v).cells = v.cells + 1 := rfl
            have hpot1 : potF 4000 (tick v).cells + 4000 ≤ potF 4000 v.cells + 1 := Nat.le_of_eq hpt
            have hn1 : (n + 1) + 4000 ≤ 10 + 4001 * (tick v).cells := by rw [htc]; omega
            have hf1 : 1810 - (tick v).cells ≤ f := by rw [htc]; omega
            obtain ⟨c0, hc0⟩ : ∃ c0, (tick v).cells = c0 := ⟨_, rfl⟩
            rw [hc0] at hpot1 hn1 hf1
            have Hc0 := Lib.hid hc0
            have hpot2 : potF 4000 c0 + 4000 ≤ 7300001 := by omega
            clear hstart hTOT hpt htc hc0
            go_wp2
            go_loopw [2, 113] (fun o i wr => ∃ (j : Nat) (A2 : Option Addr) (n2 c2 : Nat) (out2 : List C) (v2 : Rv), j ≤ tl.length ∧ i = .int .i64 j ∧ o = .slice A2 n2 c2 ∧ Out wr base2 A2 n2 c2 out2 ∧ RdAt wr base br mv ms mq mi ml M v2 ∧ VOk v2 ∧ Fr w1 wr br mv A1 A2 ∧
                c0 ≤ v2.cells ∧ potF 4000 v2.cells ≤ potF 4000 c0 + j ∧ n2 + 4000 ≤ 10 + 4001 * v2.cells + j ∧
                Hid ((restF (termF M f) v2 (tl.drop j)).1 = TOT.1 ∧ out2 ++ (restF (termF M f) v2 (tl.drop j)).2 = (out ++ [(⟨3, hd.name, hd.n⟩ : C)]) ++ TOT.2)) (fun _ i _ => tl.length - (intOf i).toNat)
            case atStart => exact ⟨0, A1, n + 1, cap1, _, tick v, Nat.zero_le _, rfl, rfl, qO, qR, hv.tick, Fr.below (Below.refl _ _) (fun a ha => (qO.lt a ha).2), Nat.le_of_eq Hc0.out.symm, by rw [Hc0.out]; exact Nat.le_refl _, by rw [Hc0.out]; omega, Hstart⟩
            case round =>
              clear qO qR Hstart hRX hOX
              obtain ⟨j, A2, n2, c2, out2, v2, hj, rfl, rfl, hO2, hR2, hv2, hF2, hc02, hpo, hn2, hres⟩ := hrel
              have hs12 := hF2.size
              have hFX := hF1.trans hF2
              have hc2 : v2.cells ≤ 7304000 := by have : v2.cells ≤ potF 4000 v2.cells := Nat.le_add_right _ _; omega
              have hn27 : n2 ≤ 100000000000 := by omega
              by_cases hlt : j < tl.length
              · obtain ⟨i, hik⟩ : ∃ i, tl[j]? = some i := ⟨_, List.getElem?_eq_getElem hlt⟩
                obtain ⟨b9, off9, hA9, hb9, hw9, e0, e1, e2, e3, e4, e5⟩ := Hc.out.at' hik
                have hcap9 := Hc.out.cap_le
                cases hA9
                have hbk : wr.heap[b]? = X.heap[b]? := hFX.old b hb9 hb2 hb3 (fun a ha he => by have := hAb2 a ha; omega)
                have hcl : ∀ o, wr.cell? ⟨b, o, none⟩ = X.cell? ⟨b, o, none⟩ := fun o => World.cell?_of_block (a := ⟨b, o, none⟩) hbk
                have g0 := (hcl _).trans e0
                have g1 := (hcl _).trans e1
                have g2 := (hcl _).trans e2
                have g3 := (hcl _).trans e3
                have g4 := (hcl _).trans e4
                have g5 := (hcl _).trans e5
                have hbw9 : b < wr.heap.size := by omega
                have hdr := drop_get hik
                have Hdr := Lib.hid hdr
                have hwx9 := hw9.x
                have hwn9 := hw9.n
                clear e0 e1 e2 e3 e4 e5 hcl hbk hdr hik
                by_cases hop : i.op = 7 ∨ i.op = 11
                · have hrest : restF (termF M f) v2 (i :: tl.drop (j + 1)) = ((restF (termF M f) v2 (tl.drop (j + 1))).1, ⟨2, noName, i.n⟩ :: (restF (termF M f) v2 (tl.drop (j + 1))).2) := by rw [restF, if_pos hop]
                  have Hrest := Lib.hid hrest
                  clear hrest
                  have hal2 : ∀ o, Below wr.heap.size wr (wr.alloc o) := fun o => (Below.refl _ _).alloc (Nat.le_refl _) o
                  have hal3 : ∀ o o', Below wr.heap.size wr ((wr.alloc o).alloc o') := fun o o' => (hal2 o).alloc (by simp) o'
                  rcases hop with hop | hop
                  all_goals
                    go_wp2_with (first
                      | (at_builtin; go_must (refine wpList_append_tail (xs := flatC out2) rfl (.tmp 125) (.tmp 129) 22 rfl base2 45 Try.underlying22 infoC10 rfl (by omega) rfl (hO2.tl.below (hal3 _ _)) rfl (Sl.blk (cs := #[.int .i64 2, .string ⟨#[]⟩, .int .i64 i.n]) (t := 45) (alloc_at (by simp)) rfl (by simp [maxLen])) (by simp [Value.oneCell']) (by omega) (by omega) (by omega) (by simp; omega) ?_); intro A3 cap3 w5 hc5 ht5 hbn5 hap5))
                    obtain ⟨p1, p2, p3⟩ := grow_out (x := ⟨2, noName, i.n⟩) (hR2.below (hal3 _ _)) (hO2.below (hal3 _ _)) hap5 hbn5 ht5 (int_wf (i64_small (by decide) (by decide)) hwn9) hlow hst (by simp; omega)
                    go_roundw
                    case rel => exact ⟨j + 1, A3, n2 + 1, cap3, _, v2, by omega, by go_num, rfl, p1, p2, hv2, hF2.trans ((Fr.below (hal3 _ _) (fun a ha => (hO2.lt a ha).2)).trans p3), hc02, by omega, by omega, by have := hres.out; rw [Hdr.out, Hrest.out] at this; exact ⟨this.1, by rw [List.append_assoc]; exact this.2⟩⟩
                    case measure => simp [intOf]; omega
                · have hrest : restF (termF M f) v2 (i :: tl.drop (j + 1)) = ((restF (termF M f) (termF M f v2 i.x).1 (tl.drop (j + 1))).1, (termF M f v2 i.x).2 ++ (restF (termF M f) (termF M f v2 i.x).1 (tl.drop (j + 1))).2) := by rw [restF, if_neg hop]
                  have Hrest := Lib.hid hrest
                  have cn7 : ¬ i.op = 7 := fun h => hop (.inl h)
                  have cn11 : ¬ i.op = 11 := fun h => hop (.inr h)
                  have cb7 : (i.op == 7) = false := by simp [cn7]
                  have cb11 : (i.op == 11) = false := by simp [cn11]
                  have hal2 : ∀ o, Below wr.heap.size wr (wr.alloc o) := fun o => (Below.refl _ _).alloc (Nat.le_refl _) o
                  have hgr := term_grown M 4000 hK f v2 i.x
                  have hvo := VOk.term M f v2 i.x hv2
                  have Hgr := Lib.hid hgr
                  clear hrest hop hgr
                  obtain ⟨v3, hv3e⟩ : ∃ v3, (termF M f v2 i.x).1 = v3 := ⟨_, rfl⟩
                  obtain ⟨more, hmore⟩ : ∃ more, (termF M f v2 i.x).2 = more := ⟨_, rfl⟩
                  have hrec := fun w5 => Ih.out v2 i.x A2 n2 c2 out2 w5
                  rw [hv3e, hmore] at hrec Hrest Hgr
                  rw [hv3e] at hvo
                  have Hrec := Lib.hid hrec
                  clear hrec hv3e hmore
                  go_wp2_with (first
                    | (go_at_call 39; go_must (refine (Hrec.out _ (by omega) (hR2.below (hal2 _)) hst (hO2.below (hal2 _)) hwx9 (by omega) (by omega) hv2 (by simp; omega)).mono ?_); rintro e w5 ⟨A3, n3, c3, rfl, hO3, hR3, hF3⟩))
                  have hl2 := hO2.len
                  have hl3 := hO3.len
                  have hg1 := Hgr.out.mono
                  have hg2 := Hgr.out.pot
                  have hg3 := Hgr.out.len
                  rw [List.length_append] at hl3
                  go_roundw
                  case rel => exact ⟨j + 1, A3, n3, c3, _, v3, by omega, by go_num, rfl, hO3, hR3, hvo, hF2.trans ((Fr.below (hal2 _) (fun a ha => (hO2.lt a ha).2)).trans hF3), by omega, by omega, by omega, by have := hres.out; rw [Hdr.out, Hrest.out] at this; exact ⟨this.1, by rw [List.append_assoc]; exact this.2⟩⟩
                  case measure => simp [intOf]; omega
              · have hend : tl.drop j = [] := List.drop_eq_nil_of_le (by omega)
                have hfin := hres.out
                rw [hend] at hfin
                have hfin1 : v2 = TOT.1 := hfin.1
                have hfin2 : out2 = (out ++ [(⟨3, hd.name, hd.n⟩ : C)]) ++ TOT.2 := by have := hfin.2; simpa [restF] using this
                have Hf1 := Lib.hid hfin1
                have Hf2 := Lib.hid hfin2
                clear hend hfin hfin1 hfin2 hres
                go_wp2
                go_ret
                rw [Ht.out, HTOT.out]
                refine ⟨A2, n2, c2, rfl, ?_, by rw [← Hf1.out]; exact hR2, hFw1.trans hF2⟩
                have : out ++ ((⟨3, hd.name, hd.n⟩ : C) :: TOT.2) = out2 := by rw [Hf2.out]; simp
                rw [this]
                exact hO2
end Go.Proofs.Ytdeaeiolehglaaa
