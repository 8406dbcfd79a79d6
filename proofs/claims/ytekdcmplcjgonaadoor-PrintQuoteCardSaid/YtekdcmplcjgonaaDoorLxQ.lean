/- A name's, and a variable's, letters are one token. -/
import Derived.Test.YtekdcmplcjgonaaDoorLxL
set_option linter.unusedVariables false
set_option linter.unusedSimpArgs false
namespace Go.Proofs.YtekdcmplcjgonaaDoor
open Go.RowKit

theorem lex_one {S : ByteArray} {k : Int} {tx : ByteArray} {n : Int} (h : TokP S 0 k tx n S.size) (h0 : 0 < S.size) : LexP S 0 [⟨k, tx, n, 0⟩] :=
  .tok 0 k tx n S.size S.size [] h0 h ⟨Nat.le_refl _, Nat.le_refl _, fun i c h1 h2 => by omega, fun c hc => by have := get_lt hc; omega⟩ .done
theorem pass_none {S : ByteArray} {c : UInt8} (h : S.data.toList[0]? = some c) (hb : blankB c = false) (h37 : c ≠ 37) : PassP S 0 0 :=
  ⟨Nat.le_refl _, Nat.zero_le _, fun i d h1 h2 => by omega, fun d hd => by rw [h] at hd; cases hd; exact ⟨hb, h37⟩⟩
theorem let_not {c : UInt8} (h : letB c = true) : blankB c = false ∧ c ≠ 37 := by
  unfold letB lowB restB at h
  simp only [Bool.or_eq_true, Bool.and_eq_true, decide_eq_true_eq, UInt8.le_iff_toNat_le, beq_iff_eq] at h
  have e1 : (97 : UInt8).toNat = 97 := rfl
  have e2 : (65 : UInt8).toNat = 65 := rfl
  have e3 : (48 : UInt8).toNat = 48 := rfl
  have hge : 48 ≤ c.toNat := by
    rcases h with h | (h | h) | rfl
    · omega
    · omega
    · omega
    · decide
  refine ⟨?_, ?_⟩
  · rw [← Bool.not_eq_true]
    unfold blankB
    intro hb
    simp only [Bool.or_eq_true, beq_iff_eq] at hb
    rcases hb with rfl | rfl | rfl | rfl <;> (revert hge; decide)
  · rintro rfl; revert hge; decide
theorem endF_all {p : UInt8 → Bool} {S : ByteArray} (h : ∀ c ∈ S.data.toList, p c = true) : endF p S 0 = S.size := by
  unfold endF
  rw [List.drop_zero]
  have : S.data.toList.takeWhile p = S.data.toList := by
    have := (span_take (r := []) h (fun c hc => by simp at hc)).1
    rwa [List.append_nil] at this
  rw [this]
  simp
theorem extract_all (S : ByteArray) : S.extract 0 S.size = S := by
  apply ByteArray.ext
  simp [ByteArray.data_extract]
theorem lex_quote {s : ByteArray} (h : okName s = true) : LexP ⟨(quoteN (bytesOf s)).toArray⟩ 0 [⟨1, s, 0, 0⟩] ∧ PassP ⟨(quoteN (bytesOf s)).toArray⟩ 0 0 ∧ (quoteN (bytesOf s)).length ≤ 14 := by
  have h12 := okName_le h
  have h1 := okName_ge h
  have hne := name_ne h
  have hl : (bytesOf s).length = s.size := by unfold bytesOf; simp
  unfold quoteN
  split
  · rename_i hp
    have e : (⟨(bytesOf s).toArray⟩ : ByteArray) = s := nameOf_bytes s
    rw [e]
    obtain ⟨c, t, hc, hlow⟩ := plainN_head hp hne
    have hg : s.data.toList[0]? = some c := by
      show (bytesOf s)[0]? = some c
      rw [hc]; rfl
    have hall := plainN_let hp
    have hend : endF letB s 0 = s.size := endF_all hall
    have ht := TokP.name (s := s) (p := 0) c hg hlow (by omega)
    rw [hend, extract_all] at ht
    obtain ⟨b1, b2⟩ := let_not (c := c) (by simp [letB, hlow])
    exact ⟨lex_one ht (by omega), pass_none hg b1 b2, by omega⟩
  · have hsz : (⟨(39 :: (bytesOf s ++ [39])).toArray⟩ : ByteArray).size = s.size + 2 := by
      show (39 :: (bytesOf s ++ [39])).toArray.size = _
      rw [List.size_toArray, List.length_cons, List.length_append, hl, List.length_singleton]
    have hq : QuoP ⟨(39 :: (bytesOf s ++ [39])).toArray⟩ 0 s := ⟨h, by
      have e : (⟨(39 :: (bytesOf s ++ [39])).toArray⟩ : ByteArray).data.toList = 39 :: (bytesOf s ++ [39]) := List.toList_toArray
      rw [e, List.drop_zero, List.take_of_length_le (by simp only [List.length_cons, List.length_append, hl]; simp)]⟩
    have ht := TokP.quo _ hq
    rw [show 0 + s.size + 2 = (⟨(39 :: (bytesOf s ++ [39])).toArray⟩ : ByteArray).size by rw [hsz]; omega] at ht
    have hg : (⟨(39 :: (bytesOf s ++ [39])).toArray⟩ : ByteArray).data.toList[0]? = some 39 := by
      have e : (⟨(39 :: (bytesOf s ++ [39])).toArray⟩ : ByteArray).data.toList = 39 :: (bytesOf s ++ [39]) := List.toList_toArray
      rw [e]; rfl
    exact ⟨lex_one ht (by omega), pass_none hg (by decide) (by decide), by rw [List.length_cons, List.length_append, hl, List.length_singleton]; omega⟩
theorem up_of (i : Nat) (h : i < 26) : upB (UInt8.ofNat (65 + i)) = true := by
  have e : (UInt8.ofNat (65 + i)).toNat = 65 + i := by rw [UInt8.toNat_ofNat']; omega
  unfold upB
  simp only [Bool.and_eq_true, decide_eq_true_eq, UInt8.le_iff_toNat_le, e]
  have e1 : (65 : UInt8).toNat = 65 := rfl
  have e2 : (90 : UInt8).toNat = 90 := rfl
  omega
theorem var_let (n : Nat) : ∀ c ∈ varName n, letB c = true := by
  intro c hc
  unfold varName at hc
  rcases List.mem_cons.1 hc with rfl | hc
  · have := up_of (n % 26) (by omega)
    unfold upB at this
    unfold letB restB
    rw [this]
    simp
  · split at hc
    · simp at hc
    · have := (valD_dec (n / 26) (n / 26) (Nat.le_refl _)).2 c hc
      unfold letB
      rw [dig_rest this]
      simp
theorem lex_var (n : Nat) : LexP ⟨(varName n).toArray⟩ 0 [⟨2, ⟨(varName n).toArray⟩, 0, 0⟩] ∧ PassP ⟨(varName n).toArray⟩ 0 0 := by
  have hg : (⟨(varName n).toArray⟩ : ByteArray).data.toList[0]? = some (UInt8.ofNat (65 + n % 26)) := by simp [varName]
  have hall : ∀ c ∈ (⟨(varName n).toArray⟩ : ByteArray).data.toList, letB c = true := by simpa using var_let n
  have hend := endF_all hall
  have hu := up_of (n % 26) (by omega)
  have ht := TokP.var _ hg (by unfold greatB; rw [hu]; rfl)
  rw [hend, extract_all] at ht
  have hm : letB (UInt8.ofNat (65 + n % 26)) = true := var_let n _ (by unfold varName; simp)
  obtain ⟨b1, b2⟩ := let_not hm
  exact ⟨lex_one ht (get_lt hg), pass_none hg b1 b2⟩
theorem varName_inj {n m : Nat} (hn : n ≤ 999) (hm : m ≤ 999) (h : varName n = varName m) : n = m := by
  have := prT_inj (T := .v n) (U := .v m) (by simp [Tm.ok]; omega) (by simp [Tm.ok]; omega) (by simpa [prT] using h)
  injection this with e
  omega
end Go.Proofs.YtekdcmplcjgonaaDoor
