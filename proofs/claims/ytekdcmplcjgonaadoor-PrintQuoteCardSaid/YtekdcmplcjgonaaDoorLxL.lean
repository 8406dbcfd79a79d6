/- The walk that tells all tokens of a text. -/
import Derived.Test.YtekdcmplcjgonaaDoorLxK
import Derived.Test.YtekdcmplcjgonaaDoorCls6
set_option linter.unusedVariables false
set_option linter.unusedSimpArgs false
namespace Go.Proofs.YtekdcmplcjgonaaDoor
open Go.RowKit

theorem infoTok : (Tryd.prog.info? 60).map (fun i => (i.zero, i.size, i.bytes)) = some (some (.agg #[.int .i64 0, .string ⟨#[]⟩, .int .i64 0, .int .i64 0]), 4, 40) := by kernel_rfl
theorem oneTk (t : Tk) : ∀ u ∈ [Value.int .i64 t.kind, .string t.text, .int .i64 t.n, .int .i64 t.pos], u.oneCell' = true := by
  intro u hu
  simp at hu
  rcases hu with rfl | rfl | rfl | rfl <;> rfl
/-- a token's cells -/
def RTk : World → Tk → List Value → Prop := fun _ t v => v = t.flat
def RTu (_ : Option Addr) : World → Tk → List Value → Prop := RTk
theorem famT : Fam RTu := ⟨fun _ _ _ _ _ h _ => h, fun _ _ _ _ _ _ h _ => h⟩
/-- the tokens from a place on -/
inductive LexP (s : ByteArray) : Nat → List Tk → Prop
  | done : LexP s s.size []
  | tok (p : Nat) (k : Int) (tx : ByteArray) (n : Int) (q j : Nat) (ts : List Tk) (hp : p < s.size) (h : TokP s p k tx n q) (hj : PassP s q j) (rest : LexP s j ts) : LexP s p (⟨k, tx, n, p⟩ :: ts)
theorem endF_gt {p : UInt8 → Bool} {s : ByteArray} {k : Nat} {c : UInt8} (h : s.data.toList[k]? = some c) (hc : p c = true) : k < endF p s k := by
  unfold endF
  have hk := get_lt h
  have e : s.data.toList.drop k = c :: s.data.toList.drop (k + 1) := by
    have hl : k < s.data.toList.length := by simpa using hk
    rw [List.drop_eq_getElem_cons hl]
    congr 1
    rw [List.getElem?_eq_getElem hl] at h
    exact Option.some.inj h
  rw [e, List.takeWhile_cons, if_pos hc]
  simp
theorem TokP.lt {s : ByteArray} {p : Nat} {k : Int} {tx : ByteArray} {n : Int} {q : Nat} (h : TokP s p k tx n q) : p < q := by
  cases h with
  | name c h hc hq => exact endF_gt h (by simp [letB, hc])
  | var c h hc => exact endF_gt h (by unfold greatB at hc; rw [Bool.or_eq_true] at hc; unfold letB restB; rcases hc with hc | hc; unfold upB at hc; rw [hc]; simp; rw [hc]; simp)
  | num c h hc hv => exact endF_gt h hc
  | quo _ h => omega
  | punct c h hc => omega
  | stop h hn => omega
  | sym c h hc h46 hq => exact endF_gt h hc
theorem LexP.le {s : ByteArray} {p : Nat} {ts : List Tk} (h : LexP s p ts) : p ≤ s.size := by
  cases h with
  | done => exact Nat.le_refl _
  | tok _ _ _ _ _ _ _ hp => omega
def RetLex (w : World) (ts : List Tk) (e : Ending) (w' : World) : Prop := ∃ (A : Option Addr) (n c : Nat), e = .returned (.tuple #[.slice A n c, .int .i64 0, .int .i64 0]) ∧ IsG RTk 4 w' A n c ts ∧ Below w.heap.size w w'
set_option maxRecDepth 100000 in
set_option maxHeartbeats 4000000 in
theorem lxLex_any (s : ByteArray) (hs : s.size ≤ 20000) (j : Nat) (hj : PassP s 0 j) (ts : List Tk) (h : LexP s j ts) (w : World) : Calls Tryd.prog 33 #[.string s] w (RetLex w ts) := by
  have hps := fun w => lxPass_any s (by omega) 0 j hj w
  have h20 : decide ((20000 : Int) < (s.size : Int)) = false := decide_eq_false (by omega)
  have Hps := Lib.hid hps
  have H := Lib.hid h
  clear hps h hj
  go_enter Tryd.func33, Tryd.ntmps33
  go_wp2_with (go_at_call 56; refine (Hps.out _).mono ?_; rintro e w1 ⟨rfl, rfl⟩)
  clear Hps
  go_loopw [5, 6] (fun ov av wx => ∃ (p k c : Nat) (A : Option Addr) (dn rest : List Tk), av = .int .i64 p ∧ ov = .slice A k c ∧ k ≤ p ∧ p ≤ s.size ∧ Hid (ts = dn ++ rest) ∧ Hid (LexP s p rest) ∧ Hid (RowG RTu 4 60 wx w.heap.size A k c dn) ∧ Below w.heap.size w wx) (fun _ av _ => s.size - (intOf av).toNat)
  case atStart => exact ⟨j, 0, 0, _, [], ts, rfl, rfl, Nat.zero_le _, H.out.le, Lib.hid rfl, H, Lib.hid (RowG.nil _ (fun a ha => by cases ha; simp)), (Below.refl _ _).alloc (Nat.le_refl _) _⟩
  case round =>
    clear H
    obtain ⟨p, k, c, A, dn, rest, rfl, rfl, hkp, hps, hts, hlx, hrow, hb⟩ := hrel
    have hwz := hb.size
    by_cases hlt : p < s.size
    · have hlt' : decide ((p : Int) < (s.size : Int)) = true := by simpa using hlt
      obtain ⟨k0, tx, n0, q, j2, tl, hT, hP, hR, rfl⟩ : ∃ k0 tx n0 q j2 tl, TokP s p k0 tx n0 q ∧ PassP s q j2 ∧ LexP s j2 tl ∧ rest = ⟨k0, tx, n0, p⟩ :: tl := by
        cases hlx.out with
        | done => omega
        | tok _ k0 tx n0 q j2 tl _ hT hP hR => exact ⟨k0, tx, n0, q, j2, tl, hT, hP, hR, rfl⟩
      have hpq := hT.lt
      have hqj := hP.le
      have hj2 := hP.hi
      have htk := fun w => lxToken_any hT (by omega) w
      have hpa := fun w => lxPass_any s (by omega) q j2 hP w
      have Htk := Lib.hid htk
      have Hpa := Lib.hid hpa
      have HR := Lib.hid hR
      have Hb := Lib.hid hb
      clear htk hpa hT hP hR hlx hb
      go_upto_region 7 with (go_at_call 57; refine (Htk.out _).mono ?_; rintro e w1 ⟨rfl, hb1⟩)
      have hbo := Hb.out.trans (hb1.mono hwz)
      have hoz := hbo.size
      have hal : Below w1.heap.size w1 ((w1.alloc (.cells #[.int .i64 k0, .string tx, .int .i64 n0, .int .i64 p] 60)).alloc (.cells #[.int .i64 k0, .string tx, .int .i64 n0, .int .i64 p] 60)) := ((Below.refl _ _).alloc (Nat.le_refl _) _).alloc (by simp) _
      obtain ⟨vs, v1, v2, v3, v4⟩ := ((hrow.out.below famT hb1).below famT hal).rows
      have hlC := hrow.out.len
      have hts2 : ts = (dn ++ [⟨k0, tx, n0, p⟩]) ++ tl := by rw [hts.out, List.append_assoc]; rfl
      have Hts2 := Lib.hid hts2
      have Hown := Lib.hid v3
      have V4 := Lib.hid v4
      have V1 := Lib.hid (And.intro v1 v2)
      have Hbo := Lib.hid (hbo.trans (hal.mono hoz))
      clear v1 v2 v3 v4 hts hts2 hrow hb1 hbo Hb hal Htk
      go_upto_region 10 with (at_builtin; go_must (refine wpList_append_own1 rfl (.tmp 31) (.tmp 33) 56 rfl w.heap.size 60 Tryd.underlying56 infoTok rfl (by omega) rfl Hown.out rfl (Sl.lit _ _ [_, _, _, _] 60 4 1 (by first | rfl | (simp; done)) rfl (by simp [maxLen])) (oneTk ⟨k0, tx, n0, p⟩) (by omega) (by omega) (by omega) (by simp; omega) ?_); intro A2 cap2 w5 hown5 hb5 hap5)
      have hrow5 := RowG.snoc famT hlC V1.out.1 V1.out.2 V4.out hown5 hap5 rfl (x := ⟨k0, tx, n0, p⟩) rfl
      have hb5' := Hbo.out.trans hb5
      have Hrow5 := Lib.hid hrow5
      have Hb5 := Lib.hid hb5'
      clear hown5 hb5 hap5 hrow5 hb5' Hown
      go_wp2_with (go_at_call 56; refine (Hpa.out _).mono ?_; rintro e w1 ⟨rfl, rfl⟩)
      go_roundw
      case rel => exact ⟨j2, k + 1, cap2, A2, dn ++ [⟨k0, tx, n0, p⟩], tl, rfl, by go_num, by omega, hj2, Hts2, HR, Hrow5, Hb5.out⟩
      case measure => simp [intOf]; omega
    · obtain rfl : p = s.size := by omega
      have hlt' : decide ((s.size : Int) < (s.size : Int)) = false := decide_eq_false (by omega)
      obtain rfl : rest = [] := by
        cases hlx.out with
        | done => rfl
        | tok => omega
      have hd : ts = dn := by have := hts.out; simpa using this
      have hfin : ∀ v, v = Ending.returned (.tuple #[.slice A k c, .int .i64 0, .int .i64 0]) → RetLex w ts v wr := fun v hv => ⟨A, k, c, hv, by rw [hd]; exact hrow.out.is (by omega), hb⟩
      have Hfin := Lib.hid hfin
      clear hfin hrow hb hd hts hlx
      go_wp2
      exact bodyPost_ret (v := .tuple #[.slice A k c, .int .i64 0, .int .i64 0]) (by simp [results, Tryd.results33, go_sem]) rfl (Hfin.out _ rfl)
end Go.Proofs.YtekdcmplcjgonaaDoor
