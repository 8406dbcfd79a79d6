/- Texts of this proof that belong together: words of memory, plain laws, walks. -/
import Derived.BigQuiet
import Derived.WalkMore
import Derived.Test.YtgipiplklaeplaaDoorA06
import Derived.Test.YtgipiplklaeplaaDoorA07
import Derived.Test.YtgipiplklaeplaaDoorA08
import Derived.Test.YtgipiplklaeplaaDoorA09
import Derived.Test.YtgipiplklaeplaaDoorA12
import Derived.Test.YtgipiplklaeplaaDoorA13
import Derived.Test.YtgipiplklaeplaaDoorA14
import Derived.Test.YtgipiplklaeplaaDoorA18
import Derived.Test.YtgipiplklaeplaaDoorA19
import Derived.Test.YtgipiplklaeplaaDoorA21
import Derived.Test.YtgipiplklaeplaaDoorA37
import Derived.Test.YtgipiplklaeplaaDoorA38
import Derived.Test.YtgipiplklaeplaaDoorA44
set_option linter.unusedVariables false
set_option linter.unusedSimpArgs false
namespace Go.Proofs.YtgipiplklaeplaaDoor
open Go.RowKit
theorem own_typ9 {w : World} {base size n cap : Nat} {e : TypeId} {a : Addr} {xs : List Value} (h : w.ownsRow base e size (.slice (some a) n cap) n xs) : ∃ cur, w.heap[a.block]? = some (.cells cur e (0, 0)) := by
  rcases h.2 with ⟨h1, _⟩ | ⟨g, cap', cur, h1, hb, h2, _⟩
  · cases h1
  · injection h1 with e1 e2 e3
    injection e1 with e1
    subst e1
    exact ⟨_, h2⟩
theorem IsI.from9 {w : World} {B : Option Addr} {m d mt : Nat} {tr : List Int} (h : IsI w B m d tr) (hmt : mt ≤ m) : IsI w (if d = mt then B else B.map (·.add mt)) (m - mt) (d - mt) (tr.drop mt) := by
  refine ⟨?_, fun x hx => h.wf x (List.mem_of_mem_drop hx)⟩
  have hl := h.len
  have := h.sl.cut hmt (Nat.le_refl _) (by omega)
  simp only [Nat.mul_one] at this
  rw [← List.map_drop, List.take_of_length_le (by rw [List.length_map, List.length_drop]; omega)] at this
  exact this
/-- a row of numbers in a block of numbers -/
def IT (w : World) (A : Option Addr) (n c : Nat) (l : List Int) : Prop := IsI w A n c l ∧ ∀ a, A = some a → ∃ cur, w.heap[a.block]? = some (.cells cur 3 (0, 0))
theorem IT.below {w w' : World} {A : Option Addr} {n c : Nat} {l : List Int} (h : IT w A n c l) (hb : Below w.heap.size w w') : IT w' A n c l :=
  ⟨h.1.below hb, fun a ha => by obtain ⟨cur, hc⟩ := h.2 a ha; exact ⟨cur, (hb.block a.block (block_lt hc)).trans hc⟩⟩
end Go.Proofs.YtgipiplklaeplaaDoor
namespace Go.Proofs.YtgipiplklaeplaaDoor
open Go.RowKit
theorem add_flat9 (b o k : Nat) : (⟨b, o, none⟩ : Addr).add k = ⟨b, o + k, none⟩ := by
  unfold Addr.add
  split
  · rename_i h; subst h; rfl
  · rfl
def RisOk (l : List C) (k : Nat) (L : List Int) : Prop := ∀ x, x ∈ L ↔ ∃ j c, j < k ∧ l[j]? = some c ∧ c.kind = 1 ∧ c.n = x
theorem RisOk.skip {l : List C} {k : Nat} {L : List Int} (h : RisOk l k L) {c : C} (hc : l[k]? = some c) (hk : c.kind ≠ 1 ∨ c.n ∈ L) : RisOk l (k + 1) L := fun x => by
  refine ⟨fun hx => ?_, ?_⟩
  · obtain ⟨j, c', h1, h2⟩ := (h x).1 hx
    exact ⟨j, c', by omega, h2⟩
  · rintro ⟨j, c', h1, h2, h3, h4⟩
    by_cases e : j = k
    · subst e
      rw [hc] at h2
      injection h2 with h2
      subst h2
      rcases hk with hk | hk
      · exact absurd h3 hk
      · rw [← h4]; exact hk
    · exact (h x).2 ⟨j, c', by omega, h2, h3, h4⟩
theorem RisOk.put {l : List C} {k : Nat} {L : List Int} (h : RisOk l k L) {c : C} (hc : l[k]? = some c) (hk : c.kind = 1) (i : Nat) : RisOk l (k + 1) (L.take i ++ [c.n] ++ L.drop i) := fun x => by
  have hm : x ∈ L.take i ++ [c.n] ++ L.drop i ↔ x ∈ L ∨ x = c.n := by
    conv => rhs; rw [← List.take_append_drop i L]
    simp only [List.mem_append, List.mem_singleton]
    constructor
    · rintro ((h | h) | h)
      · exact .inl (.inl h)
      · exact .inr h
      · exact .inl (.inr h)
    · rintro ((h | h) | h)
      · exact .inl (.inl h)
      · exact .inr h
      · exact .inl (.inr h)
  rw [hm]
  constructor
  · rintro (hx | rfl)
    · obtain ⟨j, c', h1, h2⟩ := (h x).1 hx
      exact ⟨j, c', by omega, h2⟩
    · exact ⟨k, c, by omega, hc, hk, rfl⟩
  · rintro ⟨j, c', h1, h2, h3, h4⟩
    by_cases e : j = k
    · subst e
      rw [hc] at h2
      injection h2 with h2
      subst h2
      exact .inr h4.symm
    · exact .inl ((h x).2 ⟨j, c', by omega, h2, h3, h4⟩)
def RetRis (l : List C) (w : World) (e : Ending) (w' : World) : Prop := ∃ A n c L, e = .returned (.slice A n c) ∧ IT w' A n c L ∧ Below w.heap.size w w' ∧ n ≤ l.length ∧ RisOk l l.length L
set_option maxRecDepth 100000 in
set_option maxHeartbeats 8000000 in
theorem urising_any (A : Option Addr) (n c : Nat) (l : List C) (w : World) (h : IsC w A n c l) (hn : n ≤ 100000) :
    Calls Tryd.prog 50 #[.slice A n c] w (RetRis l w) := by
  have hl := h.len
  have HC := Lib.hid h
  have Hl := Lib.hid hl
  have hcd := h.sl.hcap
  have hcm := h.sl.hmax
  unfold maxLen at hcm
  clear h hl
  go_enter Tryd.func50, Tryd.ntmps50
  go_wp2
  go_loopw [3, 4] (fun ov iv wr => ∃ (i n2 c2 : Nat) (L : List Int) (A2 : Option Addr), i ≤ n ∧ n2 ≤ i ∧ iv = .int .i64 i ∧ ov = .slice A2 n2 c2 ∧ IT wr A2 n2 c2 L ∧ Hid (RisOk l i L) ∧ Below w.heap.size w wr) (fun _ iv _ => n - (intOf iv).toNat)
  case atStart => exact ⟨0, 0, 0, [], _, Nat.zero_le _, Nat.le_refl _, rfl, rfl, ⟨IsI.nil _ _ _ (by simp [maxLen]), fun a ha => by injection ha with ha; subst ha; exact ⟨_, alloc_at rfl⟩⟩, Lib.hid (fun x => by simp), (Below.refl _ _).alloc (Nat.le_refl _) _⟩
  case round =>
    obtain ⟨i, n2, c2, L, A2, hi, hn2, rfl, rfl, hI, hris, hb⟩ := hrel
    have HIT := Lib.hid hI
    replace hI := hI.1
    have HI := Lib.hid hI
    have hLl := hI.len
    have HLl := Lib.hid hLl
    have hc1 := hI.sl.hcap
    have hc2 := hI.sl.hmax
    unfold maxLen at hc2
    have Hb := Lib.hid hb
    have hszb := hb.size
    clear hI hLl hb
    by_cases hin : i < n
    · obtain ⟨x, hx⟩ : ∃ x, l[i]? = some x := ⟨_, List.getElem?_eq_getElem (by have := Hl.out; omega)⟩
      obtain ⟨b, off, rfl, hbb, hwf, e0, e1, e2⟩ := HC.out.at_ hx
      have Hx := Lib.hid hx
      have Hwf := Lib.hid hwf
      have k0 := (Hb.out.cell (p := ⟨b, off + i * 3, none⟩) hbb).trans e0
      have k2 := (Hb.out.cell (p := ⟨b, off + i * 3 + 2, none⟩) hbb).trans e2
      have hbbr : b < wr.heap.size := Nat.lt_of_lt_of_le hbb hszb
      clear hx hwf e0 e1 e2
      obtain ⟨wr0, hwr0⟩ : ∃ wr0, wr0 = wr := ⟨_, rfl⟩
      go_wp2
      go_loopw [5] (fun av wr3 => ∃ at_ : Nat, at_ ≤ n2 ∧ av = .int .i64 at_ ∧ Below wr0.heap.size wr0 wr3) (fun av _ => n2 - (intOf av).toNat)
      case atStart => exact ⟨0, Nat.zero_le _, rfl, by rw [hwr0]; exact Below.refl _ _⟩
      case round =>
        subst hwr0
        obtain ⟨at_, hat, rfl, hb3⟩ := hrel
        have j0 := (hb3.cell (p := ⟨b, off + i * 3, none⟩) hbbr).trans k0
        have j2 := (hb3.cell (p := ⟨b, off + i * 3 + 2, none⟩) hbbr).trans k2
        have hbr3 : b < wr.heap.size := Nat.lt_of_lt_of_le hbbr hb3.size
        by_cases han : at_ < n2
        · obtain ⟨y, hy⟩ : ∃ y, L[at_]? = some y := ⟨_, List.getElem?_eq_getElem (by have := HLl.out; omega)⟩
          obtain ⟨b2, off2, rfl, hb2, hwfy, f0⟩ := HI.out.at_ hy
          have f0' := (hb3.cell (p := ⟨b2, off2 + at_, none⟩) hb2).trans f0
          have hb2r : b2 < wr.heap.size := Nat.lt_of_lt_of_le hb2 hb3.size
          have hym := List.mem_of_getElem? hy
          have Hym := Lib.hid hym
          have hlt2 : ((at_ : Int) < (n2 : Int)) := by omega
          clear hy hwfy f0 hym
          by_cases hyx : y < x.n
          · first | go_upto_region 6 with fail | skip
            go_quiet (fail)
            go_wp2
            go_roundw
            case rel => exact ⟨at_ + 1, by omega, by go_num, below_drewN hb3 _⟩
            case measure => simp [intOf]; omega
          · by_cases hye : y = x.n
            · have hyb : (y == x.n) = true := by simp [hye]
              have Hmem := Lib.hid (show x.n ∈ L by rw [← hye]; exact Hym.out)
              clear hye
              first | go_upto_region 6 with fail | skip
              go_quiet (fail)
              by_cases hk1 : x.kind = 1
              · have hk1' : (x.kind != 1) = false := by simp [hk1]
                have Hsk := Lib.hid (hris.out.skip Hx.out (.inr Hmem.out))
                clear hk1
                go_upto_region 8 with fail
                go_quiet (fail)
                go_wp2
                go_roundw
                case rel => exact ⟨i + 1, n2, c2, L, _, by omega, by omega, by go_num, rfl, HIT.out.below (below_drewN hb3 _), Hsk, Hb.out.trans ((below_drewN hb3 _).mono hszb)⟩
                case measure => simp [intOf]; omega
              · have hk1' : (x.kind != 1) = true := by simp [hk1]
                have Hsk := Lib.hid (hris.out.skip Hx.out (.inl hk1))
                clear hk1
                go_upto_region 8 with fail
                go_quiet (fail)
                go_wp2
                go_roundw
                case rel => exact ⟨i + 1, n2, c2, L, _, by omega, by omega, by go_num, rfl, HIT.out.below (below_drewN hb3 _), Hsk, Hb.out.trans ((below_drewN hb3 _).mono hszb)⟩
                case measure => simp [intOf]; omega
            · have hyb : (y == x.n) = false := by simp [hye]
              clear hye
              first | go_upto_region 6 with fail | skip
              go_quiet (fail)
              by_cases hk1 : x.kind = 1
              · have Hput := Lib.hid (hris.out.put Hx.out hk1 at_)
                have hk1' : (x.kind != 1) = false := by simp [hk1]
                have Hbr := Lib.hid (fun q => below_drewN hb3 q)
                clear hk1
                go_upto_region 8 with fail
                go_quiet (fail)
                have HT0 := Lib.hid (HI.out.take hat)
                go_upto_region 10 with (first
                  | (at_builtin; go_must (refine wpList_append_sl rfl (.tmp 56) (.tmp 59) 42 rfl wr0.heap.size 3 Tryd.underlying42 infoI rfl (by omega) rfl (World.ownsRow_lit _ #[] 0 ((Hbr.out _).size) (by simp [maxLen]) rfl) rfl ((HT0.out.below (Hbr.out _)).below ((Below.refl _ _).alloc (Nat.le_refl _) _)).sl (oneI _ (L.take at_)) (by omega) (by omega) (by have := hb3.size; simp; omega) ?_); intro A3 c3 w3 hown3 hb4 _ _; have Hown3 := Lib.hid (show w3.ownsRow wr0.heap.size 3 1 (.slice A3 at_ c3) at_ ((L.take at_).map (Value.int .i64)) by simpa using hown3); have Hb3 := Lib.hid (((Hbr.out _).alloc ((Hbr.out _).size) _).trans hb4); clear hown3 hb4))
                have h3z := Hb3.out.size
                have r0 := (Hb3.out.cell (p := ⟨b, off + i * 3 + 2, none⟩) hbbr).trans k2
                have hbb3 : b < w3.heap.size := by omega
                have HOa := Lib.hid (Hown3.out.alloc (.cells #[.int .i64 x.n] 3))
                clear Hown3
                go_upto_region 11 with (first
                  | (at_builtin; go_must (refine wpList_append_sl rfl (.tmp 61) (.tmp 67) 42 rfl wr0.heap.size 3 Tryd.underlying42 infoI rfl (by omega) rfl HOa.out rfl (Sl.lit w3 _ [.int .i64 x.n] 3 1 1 (by simp) rfl (by simp [maxLen])) (one1 rfl) (by omega) (by omega) (by simp; omega) ?_); intro A4 c4 w4 hown4 hb5 _ _; have Hown4 := Lib.hid hown4; have Hb4 := Lib.hid ((Hb3.out.alloc h3z _).trans hb5); clear hown4 hb5))
                have h4z := Hb4.out.size
                have hfr := HI.out.from9 hat
                by_cases hct : c2 = at_
                · obtain rfl : at_ = n2 := by omega
                  subst hct
                  rw [if_pos rfl, Nat.sub_self] at hfr
                  have HQ := Lib.hid hfr
                  clear hfr
                  go_wp2_with (first
                    | (at_builtin; go_must (refine wpList_append_sl rfl (.tmp 69) (.tmp 72) 42 rfl wr0.heap.size 3 Tryd.underlying42 infoI rfl (by omega) rfl Hown4.out rfl (HQ.out.below Hb4.out).sl (oneI _ _) (by omega) (by omega) (by omega) ?_); intro A5 c5 w5 hown5 hb6 _ _; have Hown5 := Lib.hid hown5; have Hb5 := Lib.hid (Hb4.out.trans hb6); clear hown5 hb6))
                  go_roundw
                  case rel => exact ⟨i + 1, _, _, _, _, by omega, by omega, by go_num, rfl, ⟨⟨by have h9 := Sl.own Hown5.out (by omega); rw [List.map_append, List.map_append]; exact h9, fun y hy => by
                    rcases List.mem_append.1 hy with hy | hy
                    · rcases List.mem_append.1 hy with hy | hy
                      · exact HI.out.wf y (List.mem_of_mem_take hy)
                      · obtain rfl := List.mem_singleton.1 hy
                        exact Hwf.out.n
                    · exact HI.out.wf y (List.mem_of_mem_drop hy)⟩, fun a ha => by subst ha; exact own_typ9 Hown5.out⟩, Hput, Hb.out.trans (Hb5.out.mono hszb)⟩
                  case measure => simp [intOf]; omega
                · rw [if_neg hct] at hfr
                  try simp only [Option.map_some, add_flat9] at hfr
                  have HQ := Lib.hid hfr
                  clear hfr
                  go_wp2_with (first
                    | (at_builtin; go_must (refine wpList_append_sl rfl (.tmp 69) (.tmp 72) 42 rfl wr0.heap.size 3 Tryd.underlying42 infoI rfl (by omega) rfl Hown4.out rfl (HQ.out.below Hb4.out).sl (oneI _ _) (by omega) (by omega) (by omega) ?_); intro A5 c5 w5 hown5 hb6 _ _; have Hown5 := Lib.hid hown5; have Hb5 := Lib.hid (Hb4.out.trans hb6); clear hown5 hb6))
                  go_roundw
                  case rel => exact ⟨i + 1, _, _, _, _, by omega, by omega, by go_num, rfl, ⟨⟨by have h9 := Sl.own Hown5.out (by omega); rw [List.map_append, List.map_append]; exact h9, fun y hy => by
                    rcases List.mem_append.1 hy with hy | hy
                    · rcases List.mem_append.1 hy with hy | hy
                      · exact HI.out.wf y (List.mem_of_mem_take hy)
                      · obtain rfl := List.mem_singleton.1 hy
                        exact Hwf.out.n
                    · exact HI.out.wf y (List.mem_of_mem_drop hy)⟩, fun a ha => by subst ha; exact own_typ9 Hown5.out⟩, Hput, Hb.out.trans (Hb5.out.mono hszb)⟩
                  case measure => simp [intOf]; omega
              · have hk1' : (x.kind != 1) = true := by simp [hk1]
                have Hsk := Lib.hid (hris.out.skip Hx.out (.inl hk1))
                clear hk1
                go_upto_region 8 with fail
                go_quiet (fail)
                go_wp2
                go_roundw
                case rel => exact ⟨i + 1, n2, c2, L, _, by omega, by omega, by go_num, rfl, HIT.out.below (below_drewN hb3 _), Hsk, Hb.out.trans ((below_drewN hb3 _).mono hszb)⟩
                case measure => simp [intOf]; omega
        · first | go_upto_region 6 with fail | skip
          go_quiet (fail)
          by_cases hk1 : x.kind = 1
          · have Hput := Lib.hid (hris.out.put Hx.out hk1 at_)
            have hk1' : (x.kind != 1) = false := by simp [hk1]
            have Hbr := Lib.hid (fun q => below_drewN hb3 q)
            clear hk1
            go_upto_region 8 with fail
            go_quiet (fail)
            have HT0 := Lib.hid (HI.out.take hat)
            go_upto_region 10 with (first
              | (at_builtin; go_must (refine wpList_append_sl rfl (.tmp 56) (.tmp 59) 42 rfl wr0.heap.size 3 Tryd.underlying42 infoI rfl (by omega) rfl (World.ownsRow_lit _ #[] 0 ((Hbr.out _).size) (by simp [maxLen]) rfl) rfl ((HT0.out.below (Hbr.out _)).below ((Below.refl _ _).alloc (Nat.le_refl _) _)).sl (oneI _ (L.take at_)) (by omega) (by omega) (by have := hb3.size; simp; omega) ?_); intro A3 c3 w3 hown3 hb4 _ _; have Hown3 := Lib.hid (show w3.ownsRow wr0.heap.size 3 1 (.slice A3 at_ c3) at_ ((L.take at_).map (Value.int .i64)) by simpa using hown3); have Hb3 := Lib.hid (((Hbr.out _).alloc ((Hbr.out _).size) _).trans hb4); clear hown3 hb4))
            have h3z := Hb3.out.size
            have r0 := (Hb3.out.cell (p := ⟨b, off + i * 3 + 2, none⟩) hbbr).trans k2
            have hbb3 : b < w3.heap.size := by omega
            have HOa := Lib.hid (Hown3.out.alloc (.cells #[.int .i64 x.n] 3))
            clear Hown3
            go_upto_region 11 with (first
              | (at_builtin; go_must (refine wpList_append_sl rfl (.tmp 61) (.tmp 67) 42 rfl wr0.heap.size 3 Tryd.underlying42 infoI rfl (by omega) rfl HOa.out rfl (Sl.lit w3 _ [.int .i64 x.n] 3 1 1 (by simp) rfl (by simp [maxLen])) (one1 rfl) (by omega) (by omega) (by simp; omega) ?_); intro A4 c4 w4 hown4 hb5 _ _; have Hown4 := Lib.hid hown4; have Hb4 := Lib.hid ((Hb3.out.alloc h3z _).trans hb5); clear hown4 hb5))
            have h4z := Hb4.out.size
            have hfr := HI.out.from9 hat
            by_cases hct : c2 = at_
            · obtain rfl : at_ = n2 := by omega
              subst hct
              rw [if_pos rfl, Nat.sub_self] at hfr
              have HQ := Lib.hid hfr
              clear hfr
              go_wp2_with (first
                | (at_builtin; go_must (refine wpList_append_sl rfl (.tmp 69) (.tmp 72) 42 rfl wr0.heap.size 3 Tryd.underlying42 infoI rfl (by omega) rfl Hown4.out rfl (HQ.out.below Hb4.out).sl (oneI _ _) (by omega) (by omega) (by omega) ?_); intro A5 c5 w5 hown5 hb6 _ _; have Hown5 := Lib.hid hown5; have Hb5 := Lib.hid (Hb4.out.trans hb6); clear hown5 hb6))
              go_roundw
              case rel => exact ⟨i + 1, _, _, _, _, by omega, by omega, by go_num, rfl, ⟨⟨by have h9 := Sl.own Hown5.out (by omega); rw [List.map_append, List.map_append]; exact h9, fun y hy => by
                rcases List.mem_append.1 hy with hy | hy
                · rcases List.mem_append.1 hy with hy | hy
                  · exact HI.out.wf y (List.mem_of_mem_take hy)
                  · obtain rfl := List.mem_singleton.1 hy
                    exact Hwf.out.n
                · exact HI.out.wf y (List.mem_of_mem_drop hy)⟩, fun a ha => by subst ha; exact own_typ9 Hown5.out⟩, Hput, Hb.out.trans (Hb5.out.mono hszb)⟩
              case measure => simp [intOf]; omega
            · rw [if_neg hct] at hfr
              try simp only [Option.map_some, add_flat9] at hfr
              have HQ := Lib.hid hfr
              clear hfr
              go_wp2_with (first
                | (at_builtin; go_must (refine wpList_append_sl rfl (.tmp 69) (.tmp 72) 42 rfl wr0.heap.size 3 Tryd.underlying42 infoI rfl (by omega) rfl Hown4.out rfl (HQ.out.below Hb4.out).sl (oneI _ _) (by omega) (by omega) (by omega) ?_); intro A5 c5 w5 hown5 hb6 _ _; have Hown5 := Lib.hid hown5; have Hb5 := Lib.hid (Hb4.out.trans hb6); clear hown5 hb6))
              go_roundw
              case rel => exact ⟨i + 1, _, _, _, _, by omega, by omega, by go_num, rfl, ⟨⟨by have h9 := Sl.own Hown5.out (by omega); rw [List.map_append, List.map_append]; exact h9, fun y hy => by
                rcases List.mem_append.1 hy with hy | hy
                · rcases List.mem_append.1 hy with hy | hy
                  · exact HI.out.wf y (List.mem_of_mem_take hy)
                  · obtain rfl := List.mem_singleton.1 hy
                    exact Hwf.out.n
                · exact HI.out.wf y (List.mem_of_mem_drop hy)⟩, fun a ha => by subst ha; exact own_typ9 Hown5.out⟩, Hput, Hb.out.trans (Hb5.out.mono hszb)⟩
              case measure => simp [intOf]; omega
          · have hk1' : (x.kind != 1) = true := by simp [hk1]
            have Hsk := Lib.hid (hris.out.skip Hx.out (.inl hk1))
            clear hk1
            go_upto_region 8 with fail
            go_quiet (fail)
            go_wp2
            go_roundw
            case rel => exact ⟨i + 1, n2, c2, L, _, by omega, by omega, by go_num, rfl, HIT.out.below (below_drewN hb3 _), Hsk, Hb.out.trans ((below_drewN hb3 _).mono hszb)⟩
            case measure => simp [intOf]; omega
    · have hie : i = n := by omega
      have hr := hris.out
      rw [hie] at hr
      have Hr := Lib.hid hr
      clear hie hr
      go_wp2
      go_ret
      exact ⟨_, _, _, L, rfl, HIT.out, Hb.out, by have := Hl.out; omega, by rw [Hl.out]; exact Hr.out⟩
end Go.Proofs.YtgipiplklaeplaaDoor
namespace Go.Proofs.YtgipiplklaeplaaDoor
open Go.RowKit
theorem bas (w : World) (o : Obj) : Below w.heap.size w (w.alloc o) := (Below.refl _ _).alloc (Nat.le_refl _) _
end Go.Proofs.YtgipiplklaeplaaDoor
namespace Go.Proofs.YtgipiplklaeplaaDoor
open Go.RowKit
def RetB (w : World) (v : Value) (e : Ending) (w' : World) : Prop := e = .returned v ∧ w = w'
end Go.Proofs.YtgipiplklaeplaaDoor
namespace Go.Proofs.YtgipiplklaeplaaDoor
open Go.RowKit
theorem lkB_some : ∀ {s : List (Int × List C)} {n : Int} {t : List C}, lkB s n = some t → (n, t) ∈ s
  | p :: s, n, t, h => by
    unfold lkB at h
    by_cases e : p.1 = n
    · rw [if_pos e] at h
      injection h with h
      rw [← e, ← h]
      exact List.mem_cons_self ..
    · rw [if_neg e] at h
      exact List.mem_cons_of_mem _ (lkB_some h)
end Go.Proofs.YtgipiplklaeplaaDoor
namespace Go.Proofs.YtgipiplklaeplaaDoor
open Go.RowKit
theorem Good.den_vle {l : List C} (h : Good l) (hN : l.length ≤ 1000) : ∀ p, p < l.length → (den l p).vle 999 = true := by
  refine h.induct fun p hp ih => ?_
  cases ho : onB l p
  · rcases ok_kind (shp_at h.shp hp) with k | k | k | k
    · have hf : Free1 l p := ⟨hp, k, by rw [on_ref k] at ho; simpa using ho⟩
      rw [h.den_free hf]
      simp [Tm.vle]
      omega
    · rw [h.den_num k]
      simp [Tm.vle]
    · rw [on_ptr k] at ho; cases ho
    · rw [h.den_top k]
      simp only [Tm.vle, vles_all, List.all_eq_true]
      intro x hx
      obtain ⟨i, hi, rfl⟩ := List.mem_map.1 hx
      exact ih _ (by rw [leads_top k]; exact List.mem_map.2 ⟨i, hi, rfl⟩)
  · rw [h.den_step ho]
    exact ih _ (by rw [leads_on ho]; simp)
end Go.Proofs.YtgipiplklaeplaaDoor
