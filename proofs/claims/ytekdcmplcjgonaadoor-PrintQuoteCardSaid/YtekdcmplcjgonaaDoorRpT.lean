/- The walks of the document's texts of rows of terms, and of lists. -/
import Derived.Deep.CutBlock
import Derived.Test.YtekdcmplcjgonaaDoorRT
import Derived.Test.YtekdcmplcjgonaaDoorLst
import Derived.Test.YtekdcmplcjgonaaDoorRpW
import Derived.Test.YtekdcmplcjgonaaDoorLP2
set_option linter.unusedVariables false
set_option linter.unusedSimpArgs false
namespace Go.Proofs.YtekdcmplcjgonaaDoor
open Go.RowKit

def RpT (N : Nat) : Prop := ∀ (A : Option Addr) (n cap : Nat) (T : Tm) (w : World), IsC w A n cap T.flat → T.ok = true → T.size ≤ N → Calls Tryd.prog 18 #[.slice A n cap] w (RetS w (prT T))
theorem sizes_take (Ts : List Tm) (k : Nat) : sizes (Ts.take k) ≤ sizes Ts := by
  have h := sizes_append (Ts.take k) (Ts.drop k)
  rw [List.take_append_drop] at h
  omega
set_option maxRecDepth 100000 in
set_option maxHeartbeats 2000000 in
theorem rtexts_any {N : Nat} (hT : RpT N) (A : Option Addr) (n cap : Nat) (Ts : List Tm) (w : World) (h : IsCC w A n cap (Ts.map Tm.flat)) (hok : ∀ U ∈ Ts, U.ok = true ∧ U.size ≤ N) (hn : n ≤ 1000) (hs : sizes Ts ≤ 300) :
    Calls Tryd.prog 45 #[.slice A n cap] w (RetS w (prA Ts)) := by
  have hl := h.len
  rw [List.length_map] at hl
  have Hh := Lib.hid h
  have Hok := Lib.hid hok
  have HT := Lib.hid hT
  clear h hok hT
  go_enter Tryd.func45, Tryd.ntmps45
  go_wp2
  go_loopw [3, 4] (fun sv iv wr => ∃ k : Nat, sv = .string ⟨(prA (Ts.take k)).toArray⟩ ∧ iv = .int .i64 k ∧ k ≤ n ∧ Below w.heap.size w wr) (fun _ iv _ => n - (intOf iv).toNat)
  case atStart => exact ⟨0, rfl, rfl, Nat.zero_le _, Below.refl _ _⟩
  case round =>
    obtain ⟨k, rfl, rfl, hk, hb⟩ := hrel
    have hwz := hb.size
    by_cases hlt : k < n
    · obtain ⟨T, hTk⟩ : ∃ T, Ts[k]? = some T := ⟨_, List.getElem?_eq_getElem (by omega)⟩
      obtain ⟨bq, off, A', n', c', rfl, hbq, g0', hi'⟩ := Hh.out.at_ (k := k) (t := T.flat) (by rw [List.getElem?_map, hTk]; rfl)
      have g0 := (hb.cell (p := ⟨bq, off + k, none⟩) hbq).trans g0'
      have hbq2 : bq < wr.heap.size := Nat.lt_of_lt_of_le hbq hwz
      obtain ⟨okT, szT⟩ := Hok.out T (List.mem_of_getElem? hTk)
      have htell := HT.out A' n' c' T wr (hi'.below hb) okT szT
      have hsn := prA_snoc (Ts.take k) T
      rw [← take_snoc hTk] at hsn
      have hc0 : k = 0 → prA (Ts.take (k + 1)) = prA (Ts.take k) ++ prT T := fun h => by
        rw [hsn, h, List.take_zero, if_pos rfl]; rfl
      have hc1 : ¬ k = 0 → prA (Ts.take (k + 1)) = prA (Ts.take k) ++ [44] ++ prT T := fun h => by
        rw [hsn, if_neg (by intro e; have := congrArg List.length e; rw [List.length_take, List.length_nil] at this; omega)]; simp
      have hpl := prT_len T okT
      have hm := size_mem (List.mem_of_getElem? hTk)
      have hpA := prA_len (Ts.take k) (oks_of fun U hU => (Hok.out U (List.mem_of_mem_take hU)).1)
      have hst := sizes_take Ts k
      rw [List.length_take] at hpA
      obtain ⟨XT, hXT⟩ : ∃ Y, prT T = Y := ⟨_, rfl⟩
      obtain ⟨L, hL⟩ : ∃ Y, prA (Ts.take k) = Y := ⟨_, rfl⟩
      rw [hXT] at htell hpl hc0 hc1
      rw [hL] at hpA hc0 hc1 ⊢
      have hXl : XT.length ≤ 20000 := by omega
      have hLl : L.length ≤ 50000 := by omega
      have Htell := Lib.hid htell
      have Hc0 := Lib.hid hc0
      have Hc1 := Lib.hid hc1
      have Hb := Lib.hid hb
      clear g0' hi' hbq okT szT htell hsn hc0 hc1 hpl hm hpA hst hXT hL hTk hb hs
      by_cases hk0 : k = 0
      · subst hk0
        rw [Nat.add_zero] at g0
        have t3 : decide ((0 : Int) < ((0 : Nat) : Int)) = false := by decide
        go_wp2_with fail
        refine Htell.out.mono ?_
        rintro e w6 ⟨rfl, hb6⟩
        go_wp2
        go_roundw
        case rel => exact ⟨0 + 1, by rw [Hc0.out (by first | rfl | trivial)]; exact congrArg Value.string (cat L XT), by go_num, by omega, Hb.out.trans (hb6.mono hwz)⟩
        case measure => simp [intOf]; omega
      · have t3 : decide ((0 : Int) < (k : Int)) = true := decide_eq_true (by omega)
        go_wp2_with fail
        refine Htell.out.mono ?_
        rintro e w6 ⟨rfl, hb6⟩
        go_wp2
        go_roundw
        case rel => exact ⟨k + 1, by rw [Hc1.out hk0]; exact congrArg Value.string (cat3 L [44] XT), by go_num, by omega, Hb.out.trans (hb6.mono hwz)⟩
        case measure => simp [intOf]; omega
    · obtain rfl : k = n := by omega
      rw [List.take_of_length_le (by omega)]
      have Hb := Lib.hid hb
      clear hb
      go_wp2
      go_ret
      exact ⟨rfl, Hb.out⟩

/-- terms in a row of the call's own, that are read in W -/
def RowW (W w : World) (base : Nat) (A : Option Addr) (k c : Nat) (Ts : List Tm) : Prop :=
  Ts.length = k ∧ (∀ a, A = some a → a.block < w.heap.size) ∧ ∃ vs : List Value, Own0 w base 22 1 (.slice A k c) k vs ∧ ∀ (i : Nat) (T : Tm), Ts[i]? = some T → ∃ A' n' c', vs[i]? = some (.slice A' n' c') ∧ IsC W A' n' c' T.flat
theorem RowW.cc {W w : World} {base : Nat} {A : Option Addr} {k c : Nat} {Ts : List Tm} (h : RowW W w base A k c Ts) (hb : Below W.heap.size W w) : IsCC w A k c (Ts.map Tm.flat) := by
  obtain ⟨hl, _, vs, h1, h2⟩ := h
  refine ⟨by rw [List.length_map, hl], vs, h1.sl (by omega), fun i t hi => ?_⟩
  rw [List.getElem?_map] at hi
  obtain ⟨T, hT, rfl⟩ := Option.map_eq_some_iff.1 hi
  obtain ⟨A', n', c', h3, h4⟩ := h2 i T hT
  exact ⟨A', n', c', h3, h4.below hb⟩
theorem RowW.snoc {W w' : World} {base : Nat} {A' A2 : Option Addr} {n' c' k c2 : Nat} {Ts : List Tm} {vs : List Value} {T : Tm} (hl : Ts.length = k) (hown : w'.ownsRow base 22 1 (.slice A2 (k + 1) c2) (k + 1) (vs ++ [.slice A' n' c']))
    (h2 : ∀ (i : Nat) (T : Tm), Ts[i]? = some T → ∃ A' n' c', vs[i]? = some (.slice A' n' c') ∧ IsC W A' n' c' T.flat) (hT : IsC W A' n' c' T.flat) : RowW W w' base A2 (k + 1) c2 (Ts ++ [T]) := by
  have hvl : vs.length = k := by have := hown.1; simp at this; omega
  refine ⟨by simp [hl], fun a ha => (Own0.lt hown a ha).2, _, .inr hown, fun i U hi => ?_⟩
  rw [List.getElem?_append] at hi
  split at hi
  · rename_i hlt
    obtain ⟨A', n', c', e, hc⟩ := h2 i U hi
    exact ⟨A', n', c', by rw [List.getElem?_append_left (by omega)]; exact e, hc⟩
  · rename_i hlt
    have := (List.getElem?_eq_some_iff.1 hi).1
    simp at this
    obtain rfl : i = Ts.length := by omega
    simp at hi
    subst hi
    exact ⟨A', n', c', by rw [hl, ← hvl]; simp, hT⟩
theorem lst_snoc : ∀ (l : List Tm) (x E : Tm), lstT (l ++ [x]) E = lstT l (.f ⟨#[46]⟩ [x, E])
  | [], x, E => rfl
  | y :: l, x, E => by rw [List.cons_append, lstT, lstT, lst_snoc l x E]
set_option maxRecDepth 100000 in
set_option maxHeartbeats 4000000 in
theorem rplist_any {N : Nat} (hT : RpT N) (A : Option Addr) (n cap : Nat) (T : Tm) (w : World) (h : IsC w A n cap T.flat) (hok : T.ok = true) (hsz : T.size ≤ N + 1) (hN9 : N ≤ 199) (hl0 : isDot T ∨ isNil T) :
    Calls Tryd.prog 44 #[.slice A n cap] w (RetS w (prT T)) := by
  have Hh := Lib.hid h
  have Hok := Lib.hid hok
  have HT := Lib.hid hT
  have Hl0 := Lib.hid hl0
  clear h hok hT hl0
  go_enter Tryd.func44, Tryd.ntmps44
  go_wp2
  go_loopw [0, 3, 4] (fun tv lv _ wr => ∃ (its : List Tm) (U : Tm) (AU : Option Addr) (nU cU : Nat) (AL : Option Addr) (kL cL : Nat), tv = .slice AU nU cU ∧ lv = .slice AL kL cL ∧ Hid (IsC w AU nU cU U.flat) ∧ Hid (U.ok = true) ∧ nU + kL ≤ N + 1 ∧ Hid (RowW w wr w.heap.size AL kL cL its) ∧ Hid (∀ V ∈ its, V.ok = true ∧ V.size ≤ N) ∧ Hid (T = lstT its U) ∧ Below w.heap.size w wr) (fun tv _ _ _ => match tv with | .slice _ k _ => k | _ => 0)
  case atStart => exact ⟨[], T, A, n, cap, _, 0, 0, rfl, rfl, Hh, Hok, by have := Hh.out.len; rw [flat_size] at this; omega, Lib.hid ⟨rfl, fun a ha => (by cases ha; simp), [], .inl ⟨_, rfl, rfl, rfl⟩, by simp⟩, Lib.hid (by simp), Lib.hid rfl, (Below.refl _ _).alloc (Nat.le_refl _) _⟩
  case round =>
    have Hsz := Lib.hid hsz
    clear Hh Hok hsz
    obtain ⟨its, U, AU, nU, cU, AL, kL, cL, rfl, rfl, hU, hUok, hnk, hrow, hits, hlst, hb⟩ := hrel
    have hwz := hb.size
    obtain ⟨b0, off0, rfl, hb0, hw0, k0', k1', k2'⟩ := hU.out.at_ (flat_get0 U)
    rw [Nat.zero_mul, Nat.add_zero] at k0' k1' k2'
    have k0 := (hb.cell (p := ⟨b0, off0, none⟩) hb0).trans k0'
    have k1 := (hb.cell (p := ⟨b0, off0 + 1, none⟩) hb0).trans k1'
    have k2 := (hb.cell (p := ⟨b0, off0 + 2, none⟩) hb0).trans k2'
    have hnU := hU.out.len
    rw [flat_size] at hnU
    have hUp := U.size_pos
    have hb02 : b0 < wr.heap.size := Nat.lt_of_lt_of_le hb0 hwz
    clear k0' k1' k2' hw0
    by_cases hd : isDot U
    · obtain ⟨s, a, c, rfl, hs⟩ := hd
      obtain rfl := bytes_eq hs
      simp only [Tm.c0] at k0 k1 k2
      have hparts := rParts_w w _ nU cU _ wr hU.out hb (right_flat hUok.out (by omega))
      have Hparts := Lib.hid hparts
      have Hb := Lib.hid hb
      clear hparts hb
      go_upto_region 4 with (go_at_call 43; refine Hparts.out.mono ?_; rintro e w2 ⟨AP, nP, cP, vP, rfl, hPl, hPown, hProws, hPb⟩)
      obtain ⟨A0, n0, c0, A1, n1, c1, rfl, hi0, hi1⟩ := dot_parts hUok.out (by omega) hProws
      have hsl := Sl.own hPown (by omega)
      have hnP : nP = 2 := by have := hsl.len; simp at this; omega
      subst hnP
      obtain ⟨gp, op, rfl, hgp, hpc⟩ := hsl.cells (by omega)
      have hp0 := hpc 0 _ rfl
      have hp1 := hpc 1 _ rfl
      rw [Nat.add_zero] at hp0
      have hgp1 : wr.heap.size ≤ gp := (Own0.lt hPown _ rfl).1
      obtain ⟨hl, hlt, vs, hown, hrows⟩ := hrow.out
      have hal2 : Below w2.heap.size w2 (w2.alloc (.cells #[.slice A0 n0 c0] 22)) := (Below.refl _ _).alloc (Nat.le_refl _) _
      have hownL := (hown.below hPb).below hal2
      have hw2 : Below w.heap.size w w2 := Hb.out.trans (hPb.mono hwz)
      have hw2z := hw2.size
      have hokA := args_ok hUok.out
      have hszU := size_args (Tm.f ⟨#[46]⟩ [a, c])
      simp only [Tm.args, oks, sizes, Bool.and_eq_true, Bool.and_true, Nat.add_zero] at hokA hszU
      have hap := a.size_pos
      have hcp := c.size_pos
      have hn1 := hi1.len
      rw [flat_size] at hn1
      have hits2 : ∀ V ∈ its ++ [a], V.ok = true ∧ V.size ≤ N := fun V hV => by
        rcases List.mem_append.1 hV with h | h
        · exact hits.out V h
        · rw [List.mem_singleton.1 h]; exact ⟨hokA.1, by omega⟩
      have hlst2 : T = lstT (its ++ [a]) c := by rw [lst_snoc]; exact hlst.out
      have hUn : ∀ q, AL = some q → q.block ≠ gp := fun q hq => by have := hlt q hq; omega
      have hnk2 : n1 + (kL + 1) ≤ N + 1 := by omega
      have hn1U : n1 < nU := by omega
      have hkL : kL ≤ 300 := by omega
      have HownL := Lib.hid hownL
      have Hrows := Lib.hid hrows
      have Hits2 := Lib.hid hits2
      have Hlst2 := Lib.hid hlst2
      have Hi0 := Lib.hid hi0
      have Hi1 := Lib.hid hi1
      have HUn := Lib.hid hUn
      have Hw2 := Lib.hid hw2
      have HokA := Lib.hid hokA
      clear hownL hrows hits2 hlst2 hi0 hi1 hUn hw2 hokA hszU hap hcp hn1 hown hlt hrow hits hlst hUok hU hPb hPown hProws hPl hsl hpc Hparts Hb hnU hUp k0 k1 k2 hb0 hb02 hal2
      go_upto_region 5 with (at_builtin; go_must (refine wpList_append_own1 rfl (.tmp 28) (.tmp 32) 62 rfl w.heap.size 22 Tryd.underlying62 infoCs rfl (by omega) rfl HownL.out rfl (Sl.lit _ _ [.slice A0 n0 c0] 22 1 1 (by first | rfl | simp) rfl (by simp [maxLen])) (one1 rfl) (by omega) (by omega) (by omega) (by simp; omega) ?_); intro A7 c7 w7 hown7 hb7 hap7)
      have hq1 : w7.cell? ⟨gp, op + 1, none⟩ = some (.slice A1 n1 c1) := by
        have h1 := hap7.old gp (by simp; omega) HUn.out
        have h2 : w7.heap[gp]? = w2.heap[gp]? := h1.trans (alloc_past hgp)
        simpa [World.cell?, h2] using hp1
      have hrow7 := RowW.snoc hl hown7 Hrows.out Hi0.out
      have hgp7 : gp < w7.heap.size := by have := hap7.size; simp at this; omega
      have hb7' : Below w.heap.size w w7 := (Hw2.out.alloc hw2z _).trans hb7
      have Hrow7 := Lib.hid hrow7
      have Hb7 := Lib.hid hb7'
      clear hown7 hb7 hap7 hrow7 hb7' hp0 hp1 HownL
      go_wp2
      go_roundw
      case rel => exact ⟨its ++ [a], c, A1, n1, c1, A7, kL + 1, c7, rfl, rfl, Hi1, Lib.hid HokA.out.2, hnk2, Hrow7, Hits2, Hlst2, Hb7.out⟩
      case measure => simp; omega
    · have hcc := hrow.out.cc hb
      have hlsz := lst_size its U
      rw [← hlst.out] at hlsz
      have hszT := Hsz.out
      have hlen := hrow.out.1
      have htx := rtexts_any HT.out AL kL cL its wr hcc hits.out (by omega) (by omega)
      have hpA := prA_len its (oks_of fun V hV => (hits.out V hV).1)
      have hpU := prT_len U hUok.out
      have hfin1 : isNil U → prT T = 91 :: (prA its ++ [93]) := fun hn => by
        have hUn : U = hN := by obtain ⟨s, rfl, hs⟩ := hn; rw [bytes_eq hs]; rfl
        rw [hlst.out, hUn]
        cases its with
        | nil => rw [lstT]; exact ht5
        | cons x l => rw [prT_lst, prL_nil]
      have hpos : ¬ isNil U → 0 < kL := fun hn => by
        rcases Nat.eq_zero_or_pos kL with h0 | h0
        · have : its = [] := List.eq_nil_of_length_eq_zero (by omega)
          have hTU : T = U := by rw [hlst.out, this]; rfl
          rcases Hl0.out with h1 | h1
          · exact absurd (hTU ▸ h1) hd
          · exact absurd (hTU ▸ h1) hn
        · exact h0
      have hfin2 : ¬ isNil U → prT T = 91 :: (prA its ++ 124 :: (prT U ++ [93])) := fun hn => by
        have hp := hpos hn
        have hUn : U ≠ hN := fun e => hn ⟨_, e, by decide⟩
        rw [hlst.out]
        cases its with
        | nil => simp at hlen; omega
        | cons x l => rw [prT_lst, prL_end hUok.out hd hUn]
      have hrec : ¬ isNil U → ∀ w', Below wr.heap.size wr w' → Calls Tryd.prog 18 #[.slice (some ⟨b0, off0, none⟩) nU cU] w' (RetS w' (prT U)) := fun hn w' hb' => HT.out _ _ _ U w' ((hU.out.below hb).below hb') hUok.out (by have := hpos hn; omega)
      have hnU0 : 0 < nU := by omega
      obtain ⟨L, hL⟩ : ∃ L, prA its = L := ⟨_, rfl⟩
      obtain ⟨X, hX⟩ : ∃ L, prT U = L := ⟨_, rfl⟩
      rw [hL] at htx hpA hfin1 hfin2
      rw [hX] at hpU hfin2 hrec
      have hLl : L.length ≤ 20000 := by omega
      have hXl : X.length ≤ 20000 := by omega
      have Htx := Lib.hid htx
      have Hf1 := Lib.hid hfin1
      have Hf2 := Lib.hid hfin2
      have Hrec := Lib.hid hrec
      have Hb := Lib.hid hb
      clear hcc hlsz hszT hlen htx hpA hpU hfin1 hfin2 hpos hrec hL hX hb hrow hits hlst hU Hsz hnk hnU hUp hb0
      have hn0 : 0 < nU := hnU0
      match U, hd with
      | .f s as_, hd =>
        simp only [Tm.c0] at k0 k1 k2
        by_cases hs1 : s.toList = [46]
        · have hl2 : ((as_.length : Int) == 2) = false := by
            rw [← Bool.not_eq_true]
            intro e
            simp at e
            match as_, e with
            | [], e => simp at e
            | [_], e => simp at e
            | [a, b], _ => exact hd ⟨s, a, b, rfl, by unfold bytesOf; rw [← ByteArray.toList_eq]; exact hs1⟩
            | _ :: _ :: _ :: _, e => simp at e; omega
          obtain rfl : s = ⟨#[46]⟩ := bytes_eq (by unfold bytesOf; rw [← ByteArray.toList_eq]; exact hs1)
          have hn : ¬ isNil (.f ⟨#[46]⟩ as_) := by rintro ⟨s', h, h'⟩; cases h; exact absurd h' (by decide)
          have He := Lib.hid (Hf2.out hn)
          have Hr := Lib.hid (Hrec.out hn)
          clear hn hd Hf1 Hf2 Hrec
          go_wp2_with fail
          refine Htx.out.mono ?_
          rintro e w5 ⟨rfl, hb5⟩
          have hz5 := hb5.size
          have k0' := (hb5.cell (p := ⟨b0, off0, none⟩) hb02).trans k0
          have k1' := (hb5.cell (p := ⟨b0, off0 + 1, none⟩) hb02).trans k1
          have k2' := (hb5.cell (p := ⟨b0, off0 + 2, none⟩) hb02).trans k2
          have Hb5 := Lib.hid hb5
          clear hb5
          go_wp2_with fail
          refine (Hr.out _ Hb5.out).mono ?_
          rintro e w6 ⟨rfl, hb6⟩
          have hb6' := Hb.out.trans ((Hb5.out.trans (hb6.mono hz5)).mono hwz)
          clear hb6
          go_wp2
          go_ret
          exact ⟨by rw [He.out]; exact congrArg (fun z => Ending.returned (Value.string z)) (bar_text L X).symm, hb6'⟩
        · by_cases hs2 : s.toList = [91, 93]
          · obtain rfl : s = ⟨#[91, 93]⟩ := bytes_eq (by unfold bytesOf; rw [← ByteArray.toList_eq]; exact hs2)
            clear hs1 hs2
            cases as_ with
            | nil =>
              have hn : isNil (.f ⟨#[91, 93]⟩ []) := ⟨_, rfl, by decide⟩
              have He := Lib.hid (Hf1.out hn)
              clear hn hd Hf1 Hf2 Hrec
              go_wp2_with fail
              refine Htx.out.mono ?_
              rintro e w5 ⟨rfl, hb5⟩
              have hb5' := Hb.out.trans (hb5.mono hwz)
              have hz5 := hb5.size
              have k0' := (hb5.cell (p := ⟨b0, off0, none⟩) hb02).trans k0
              have k1' := (hb5.cell (p := ⟨b0, off0 + 1, none⟩) hb02).trans k1
              have k2' := (hb5.cell (p := ⟨b0, off0 + 2, none⟩) hb02).trans k2
              clear hb5
              go_wp2
              go_ret
              exact ⟨by rw [He.out]; exact congrArg (fun z => Ending.returned (Value.string z)) (lit_text L).symm, hb5'⟩
            | cons a l =>
              have hn : ¬ isNil (.f ⟨#[91, 93]⟩ (a :: l)) := by rintro ⟨s', h, h'⟩; cases h
              have hl1 : (((a :: l).length : Int) == 0) = false := by simp; omega
              have hl2 : (((a :: l).length : Int) != 0) = true := by simp; omega
              obtain ⟨q, hq⟩ : ∃ q : Int, ((a :: l).length : Int) = q := ⟨_, rfl⟩
              rw [hq] at k2 hl1 hl2
              clear hq
              have He := Lib.hid (Hf2.out hn)
              have Hr := Lib.hid (Hrec.out hn)
              clear hn hd Hf1 Hf2 Hrec
              go_wp2_with fail
              refine Htx.out.mono ?_
              rintro e w5 ⟨rfl, hb5⟩
              have hz5 := hb5.size
              have k0' := (hb5.cell (p := ⟨b0, off0, none⟩) hb02).trans k0
              have k1' := (hb5.cell (p := ⟨b0, off0 + 1, none⟩) hb02).trans k1
              have k2' := (hb5.cell (p := ⟨b0, off0 + 2, none⟩) hb02).trans k2
              have Hb5 := Lib.hid hb5
              clear hb5
              go_wp2_with fail
              refine (Hr.out _ Hb5.out).mono ?_
              rintro e w6 ⟨rfl, hb6⟩
              have hb6' := Hb.out.trans ((Hb5.out.trans (hb6.mono hz5)).mono hwz)
              clear hb6
              go_wp2
              go_ret
              exact ⟨by rw [He.out]; exact congrArg (fun z => Ending.returned (Value.string z)) (bar_text L X).symm, hb6'⟩
          · have hn : ¬ isNil (.f s as_) := by rintro ⟨s', h, h'⟩; cases h; exact hs2 (by rw [ByteArray.toList_eq]; exact h')
            have He := Lib.hid (Hf2.out hn)
            have Hr := Lib.hid (Hrec.out hn)
            clear hn hd Hf1 Hf2 Hrec
            go_wp2_with fail
            refine Htx.out.mono ?_
            rintro e w5 ⟨rfl, hb5⟩
            have hz5 := hb5.size
            have k0' := (hb5.cell (p := ⟨b0, off0, none⟩) hb02).trans k0
            have k1' := (hb5.cell (p := ⟨b0, off0 + 1, none⟩) hb02).trans k1
            have k2' := (hb5.cell (p := ⟨b0, off0 + 2, none⟩) hb02).trans k2
            have Hb5 := Lib.hid hb5
            clear hb5
            go_wp2_with fail
            refine (Hr.out _ Hb5.out).mono ?_
            rintro e w6 ⟨rfl, hb6⟩
            have hb6' := Hb.out.trans ((Hb5.out.trans (hb6.mono hz5)).mono hwz)
            clear hb6
            go_wp2
            go_ret
            exact ⟨by rw [He.out]; exact congrArg (fun z => Ending.returned (Value.string z)) (bar_text L X).symm, hb6'⟩
      | .v m, _ =>
        simp only [Tm.c0] at k0 k1 k2
        have hn : ¬ isNil (.v m) := by rintro ⟨s', h, h'⟩; cases h
        have He := Lib.hid (Hf2.out hn)
        have Hr := Lib.hid (Hrec.out hn)
        clear hn hd Hf1 Hf2 Hrec
        go_wp2_with fail
        refine Htx.out.mono ?_
        rintro e w5 ⟨rfl, hb5⟩
        have hz5 := hb5.size
        have k0' := (hb5.cell (p := ⟨b0, off0, none⟩) hb02).trans k0
        have k1' := (hb5.cell (p := ⟨b0, off0 + 1, none⟩) hb02).trans k1
        have k2' := (hb5.cell (p := ⟨b0, off0 + 2, none⟩) hb02).trans k2
        have Hb5 := Lib.hid hb5
        clear hb5
        go_wp2_with fail
        refine (Hr.out _ Hb5.out).mono ?_
        rintro e w6 ⟨rfl, hb6⟩
        have hb6' := Hb.out.trans ((Hb5.out.trans (hb6.mono hz5)).mono hwz)
        clear hb6
        go_wp2
        go_ret
        exact ⟨by rw [He.out]; exact congrArg (fun z => Ending.returned (Value.string z)) (bar_text L X).symm, hb6'⟩
      | .i m, _ =>
        simp only [Tm.c0] at k0 k1 k2
        have hn : ¬ isNil (.i m) := by rintro ⟨s', h, h'⟩; cases h
        have He := Lib.hid (Hf2.out hn)
        have Hr := Lib.hid (Hrec.out hn)
        clear hn hd Hf1 Hf2 Hrec
        go_wp2_with fail
        refine Htx.out.mono ?_
        rintro e w5 ⟨rfl, hb5⟩
        have hz5 := hb5.size
        have k0' := (hb5.cell (p := ⟨b0, off0, none⟩) hb02).trans k0
        have k1' := (hb5.cell (p := ⟨b0, off0 + 1, none⟩) hb02).trans k1
        have k2' := (hb5.cell (p := ⟨b0, off0 + 2, none⟩) hb02).trans k2
        have Hb5 := Lib.hid hb5
        clear hb5
        go_wp2_with fail
        refine (Hr.out _ Hb5.out).mono ?_
        rintro e w6 ⟨rfl, hb6⟩
        have hb6' := Hb.out.trans ((Hb5.out.trans (hb6.mono hz5)).mono hwz)
        clear hb6
        go_wp2
        go_ret
        exact ⟨by rw [He.out]; exact congrArg (fun z => Ending.returned (Value.string z)) (bar_text L X).symm, hb6'⟩
end Go.Proofs.YtekdcmplcjgonaaDoor
