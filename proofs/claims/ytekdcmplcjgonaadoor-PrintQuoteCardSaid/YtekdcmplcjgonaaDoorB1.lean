/- Texts of this proof that belong together: words of memory, plain laws, short walks. -/
import Derived.Lib.ItoaNum
import Derived.Test.YtekdcmplcjgonaaDoorB0
set_option linter.unusedVariables false
set_option linter.unusedSimpArgs false
/- Terms' texts, in plain words over trees. No program in sight. -/
namespace Go.Proofs.YtekdcmplcjgonaaDoor
open Go.RowKit

def varName (n : Nat) : List UInt8 := UInt8.ofNat (65 + n % 26) :: (if n < 26 then [] else Lib.decDigits (n / 26))
def lowB (c : UInt8) : Bool := 97 ≤ c && c ≤ 122
def restB (c : UInt8) : Bool := (65 ≤ c && c ≤ 90) || (48 ≤ c && c ≤ 57) || c == 95
def plainN : List UInt8 → Bool
  | [] => true
  | c :: l => lowB c && l.all fun d => lowB d || restB d
def quoteN (l : List UInt8) : List UInt8 := if plainN l then l else 39 :: (l ++ [39])
def bytesOf (s : ByteArray) : List UInt8 := s.data.toList
/-- a name that stands between its two arguments -/
def opN (l : List UInt8) : Bool := l == [61] || l == [60] || l == [43] || l == [45] || l == [42]
mutual
def prT : Tm → List UInt8
  | .v n => varName n.toNat
  | .i n => Lib.itoa n
  | .f s [] => if bytesOf s = [91, 93] then [91, 93] else quoteN (bytesOf s)
  | .f s [a] => if bytesOf s = [45] then 45 :: 40 :: (prT a ++ [41]) else quoteN (bytesOf s) ++ 40 :: (prT a ++ [41])
  | .f s [a, b] =>
    if opN (bytesOf s) then 40 :: (prT a ++ 32 :: (bytesOf s ++ 32 :: (prT b ++ [41])))
    else if bytesOf s = [46] then 91 :: (prT a ++ prL b)
    else quoteN (bytesOf s) ++ 40 :: (prT a ++ 44 :: (prT b ++ [41]))
  | .f s (a :: b :: c :: ts) => quoteN (bytesOf s) ++ 40 :: (prT a ++ prC (b :: c :: ts) ++ [41])
/-- what stands behind a list's term -/
def prL : Tm → List UInt8
  | .f s [a, b] => if bytesOf s = [46] then 44 :: (prT a ++ prL b) else 124 :: (prT (.f s [a, b]) ++ [93])
  | .f s [] => if bytesOf s = [91, 93] then [93] else 124 :: (prT (.f s []) ++ [93])
  | .v n => 124 :: (prT (.v n) ++ [93])
  | .i n => 124 :: (prT (.i n) ++ [93])
  | .f s [a] => 124 :: (prT (.f s [a]) ++ [93])
  | .f s (a :: b :: c :: ts) => 124 :: (prT (.f s (a :: b :: c :: ts)) ++ [93])
/-- terms, each behind a comma -/
def prC : List Tm → List UInt8
  | [] => []
  | t :: ts => 44 :: (prT t ++ prC ts)
end
end Go.Proofs.YtekdcmplcjgonaaDoor

/- How long terms' texts are. No program in sight. -/
namespace Go.Proofs.YtekdcmplcjgonaaDoor
open Go.RowKit

theorem nDigits_lt : ∀ (k u : Nat), u < 10 ^ (k + 1) → Lib.nDigits u ≤ k + 1
  | 0, u, h => by rw [Lib.nDigits_small (by omega)]; omega
  | k + 1, u, h => by
    by_cases h1 : u < 10
    · rw [Lib.nDigits_small h1]; omega
    · rw [Lib.nDigits_big h1]
      have := nDigits_lt k (u / 10) (by rw [Nat.pow_succ] at h; omega)
      omega
theorem varName_len (n : Nat) (h : n ≤ 999) : (varName n).length ≤ 3 := by
  unfold varName
  split
  · simp
  · rw [List.length_cons, Lib.decDigits_length]
    have := nDigits_lt 1 (n / 26) (by omega)
    omega
theorem itoa_len (n : Int) (h1 : -2147483647 ≤ n) (h2 : n ≤ 2147483647) : (Lib.itoa n).length ≤ 11 := by
  unfold Lib.itoa
  split
  · rw [List.length_cons, Lib.decDigits_length]
    have := nDigits_lt 9 n.natAbs (by omega)
    omega
  · rw [Lib.decDigits_length]
    have := nDigits_lt 9 n.toNat (by omega)
    omega
theorem quoteN_len (l : List UInt8) : (quoteN l).length ≤ l.length + 2 := by
  unfold quoteN
  split <;> simp
theorem name_len {s : ByteArray} (h : okName s = true) : (bytesOf s).length ≤ 12 := by
  unfold okName at h
  simp at h
  have := h.2.2
  unfold bytesOf
  simpa using this
mutual
theorem prT_len : ∀ T : Tm, T.ok = true → (prT T).length ≤ 40 * T.size
  | .v n, h => by
    simp [Tm.ok] at h
    have := varName_len n.toNat (by omega)
    simp [prT, Tm.size]; omega
  | .i n, h => by
    simp [Tm.ok] at h
    have := itoa_len n h.1 h.2
    simp [prT, Tm.size]; omega
  | .f s [], h => by
    simp [Tm.ok] at h
    have h1 := name_len h.1
    have h2 := quoteN_len (bytesOf s)
    rw [prT]
    split <;> simp [Tm.size, sizes] <;> omega
  | .f s [a], h => by
    simp [Tm.ok, oks] at h
    have h1 := name_len h.1
    have h2 := quoteN_len (bytesOf s)
    have h3 := prT_len a h.2
    rw [prT]
    split <;> simp [Tm.size, sizes] <;> omega
  | .f s [a, b], h => by
    simp [Tm.ok, oks] at h
    have h1 := name_len h.1
    have h2 := quoteN_len (bytesOf s)
    have h3 := prT_len a h.2.1
    have h4 := prT_len b h.2.2
    have h5 := prL_len b h.2.2
    rw [prT]
    split
    · simp [Tm.size, sizes]; omega
    · split <;> simp [Tm.size, sizes] <;> omega
  | .f s (a :: b :: c :: ts), h => by
    simp [Tm.ok, oks_cons] at h
    have h1 := name_len h.1
    have h2 := quoteN_len (bytesOf s)
    have h3 := prT_len a h.2.2.1
    have h4 := prC_len (b :: c :: ts) (by simp [oks_cons]; exact h.2.2.2)
    rw [prT]
    simp [Tm.size, sizes_cons] at h4 ⊢; omega
theorem prL_len : ∀ T : Tm, T.ok = true → (prL T).length ≤ 40 * T.size + 2
  | .v n, h => by
    have := prT_len (.v n) h
    rw [prL]; simp; omega
  | .i n, h => by
    have := prT_len (.i n) h
    rw [prL]; simp; omega
  | .f s [], h => by
    have := prT_len (.f s []) h
    rw [prL]
    split <;> simp <;> omega
  | .f s [a], h => by
    have := prT_len (.f s [a]) h
    rw [prL]; simp; omega
  | .f s [a, b], h => by
    have h0 := prT_len (.f s [a, b]) h
    simp [Tm.ok, oks] at h
    have h3 := prT_len a h.2.1
    have h5 := prL_len b h.2.2
    rw [prL]
    split
    · simp [Tm.size, sizes]; omega
    · simp; omega
  | .f s (a :: b :: c :: ts), h => by
    have := prT_len (.f s (a :: b :: c :: ts)) h
    rw [prL]; simp; omega
theorem prC_len : ∀ ts : List Tm, oks ts = true → (prC ts).length ≤ 40 * sizes ts + ts.length
  | [], _ => by simp [prC]
  | t :: ts, h => by
    rw [oks_cons, Bool.and_eq_true] at h
    have h1 := prT_len t h.1
    have h2 := prC_len ts h.2
    rw [prC]
    simp [sizes_cons]; omega
end
end Go.Proofs.YtekdcmplcjgonaaDoor

/- Texts of terms are read back: two right terms of one text are one. No program in sight. -/
namespace Go.Proofs.YtekdcmplcjgonaaDoor
open Go.RowKit

def digB (c : UInt8) : Bool := 48 ≤ c && c ≤ 57
def upB (c : UInt8) : Bool := 65 ≤ c && c ≤ 90
def letB (c : UInt8) : Bool := lowB c || restB c
def valD (l : List UInt8) : Nat := l.foldl (fun n c => n * 10 + (c.toNat - 48)) 0
theorem valD_snoc (l : List UInt8) (c : UInt8) : valD (l ++ [c]) = valD l * 10 + (c.toNat - 48) := by simp [valD]
theorem dig_of (i : Nat) (h : i < 10) : (UInt8.ofNat (48 + i)).toNat = 48 + i ∧ digB (UInt8.ofNat (48 + i)) = true := by
  have e : (UInt8.ofNat (48 + i)).toNat = 48 + i := by simp; omega
  refine ⟨e, ?_⟩
  unfold digB
  simp only [Bool.and_eq_true, decide_eq_true_eq, UInt8.le_iff_toNat_le, e]
  simp
  omega
theorem dec_step (u : Nat) (h : ¬ u < 10) : Lib.decDigits u = Lib.decDigits (u / 10) ++ [UInt8.ofNat (48 + u % 10)] := by
  rw [Lib.decDigits, dif_neg h]
theorem valD_dec : ∀ k u : Nat, u ≤ k → valD (Lib.decDigits u) = u ∧ ∀ c ∈ Lib.decDigits u, digB c = true := by
  intro k
  induction k with
  | zero =>
    intro u h
    obtain rfl : u = 0 := by omega
    rw [Lib.decDigits_one (by decide)]
    exact ⟨by decide, by decide⟩
  | succ k ih =>
    intro u h
    by_cases h1 : u < 10
    · rw [Lib.decDigits_one h1]
      obtain ⟨e, hd⟩ := dig_of u h1
      refine ⟨?_, by simpa using hd⟩
      have := valD_snoc [] (UInt8.ofNat (48 + u))
      rw [List.nil_append, e] at this
      rw [this]
      simp [valD]
    · obtain ⟨i1, i2⟩ := ih (u / 10) (by omega)
      obtain ⟨e, hd⟩ := dig_of (u % 10) (by omega)
      rw [dec_step u h1]
      refine ⟨by rw [valD_snoc, i1, e]; omega, fun c hc => ?_⟩
      rcases List.mem_append.1 hc with h | h
      · exact i2 c h
      · rw [List.mem_singleton.1 h]; exact hd
/-- what goes no further than a row of bytes -/
def OffP (p : UInt8 → Bool) (r : List UInt8) : Prop := ∀ c, r.head? = some c → p c = false
theorem span_take {p : UInt8 → Bool} : ∀ {l r : List UInt8}, (∀ c ∈ l, p c = true) → OffP p r → (l ++ r).takeWhile p = l ∧ (l ++ r).dropWhile p = r
  | [], r, _, hr => by
    cases r with
    | nil => simp
    | cons c r => have := hr c rfl; simp [this]
  | c :: l, r, h, hr => by
    obtain ⟨h1, h2⟩ := span_take (l := l) (fun d hd => h d (by simp [hd])) hr
    have hc := h c (by simp)
    rw [List.cons_append, List.takeWhile_cons, List.dropWhile_cons, if_pos hc, if_pos hc, h1, h2]
    exact ⟨rfl, rfl⟩
/-- a name, and what is behind it -/
def rdN (l : List UInt8) : List UInt8 × List UInt8 :=
  if l.head? = some 39 then (l.tail.takeWhile (fun c => c != 39), (l.tail.dropWhile (fun c => c != 39)).tail) else (l.takeWhile letB, l.dropWhile letB)
theorem name_no39 {s : ByteArray} (h : okName s = true) : ∀ c ∈ bytesOf s, (c != 39) = true := by
  intro c hc
  unfold okName at h
  rw [Bool.and_eq_true] at h
  have h1 := h.1
  rw [Bool.not_eq_true', ← Bool.not_eq_true, List.any_eq_true] at h1
  rw [bne_iff_ne]
  rintro rfl
  exact h1 ⟨39, hc, by decide⟩
theorem plainN_let {l : List UInt8} (h : plainN l = true) : ∀ c ∈ l, letB c = true := by
  cases l with
  | nil => intro c hc; simp at hc
  | cons c l =>
    simp only [plainN, Bool.and_eq_true, List.all_eq_true] at h
    intro d hd
    rcases List.mem_cons.1 hd with rfl | hd
    · unfold letB; rw [h.1]; rfl
    · exact h.2 d hd
theorem plainN_head {l : List UInt8} (h : plainN l = true) (hn : l ≠ []) : ∃ c t, l = c :: t ∧ lowB c = true := by
  cases l with
  | nil => exact absurd rfl hn
  | cons c l =>
    simp only [plainN, Bool.and_eq_true] at h
    exact ⟨c, l, rfl, h.1⟩
theorem low_not {c : UInt8} (h : lowB c = true) : c ≠ 39 ∧ upB c = false ∧ digB c = false ∧ c ≠ 45 ∧ c ≠ 40 ∧ c ≠ 91 := by
  unfold lowB at h
  simp only [Bool.and_eq_true, decide_eq_true_eq, UInt8.le_iff_toNat_le] at h
  obtain ⟨h1, h2⟩ := h
  have e97 : (97 : UInt8).toNat = 97 := rfl
  rw [e97] at h1
  refine ⟨?_, ?_, ?_, ?_, ?_, ?_⟩
  · rintro rfl; simp at h1
  · unfold upB; rw [Bool.and_eq_false_iff]; right; rw [decide_eq_false_iff_not, UInt8.le_iff_toNat_le]; have : (90 : UInt8).toNat = 90 := rfl; omega
  · unfold digB; rw [Bool.and_eq_false_iff]; right; rw [decide_eq_false_iff_not, UInt8.le_iff_toNat_le]; have : (57 : UInt8).toNat = 57 := rfl; omega
  · rintro rfl; simp at h1
  · rintro rfl; simp at h1
  · rintro rfl; simp at h1
/-- how a name's letters begin -/
theorem quoteN_begin {s : ByteArray} (h : okName s = true) (hne : bytesOf s ≠ []) : ∃ c t, quoteN (bytesOf s) = c :: t ∧ upB c = false ∧ digB c = false ∧ c ≠ 45 ∧ c ≠ 40 ∧ c ≠ 91 := by
  unfold quoteN
  split
  · rename_i hp
    obtain ⟨c, t, e, hc⟩ := plainN_head hp hne
    obtain ⟨_, h2, h3, h4, h5, h6⟩ := low_not hc
    exact ⟨c, t, e, h2, h3, h4, h5, h6⟩
  · exact ⟨39, _, rfl, by decide, by decide, by decide, by decide, by decide⟩
theorem rdN_quote {s : ByteArray} (h : okName s = true) (hne : bytesOf s ≠ []) {r : List UInt8} (hr : OffP letB r) : rdN (quoteN (bytesOf s) ++ r) = (bytesOf s, r) := by
  unfold quoteN
  split
  · rename_i hp
    obtain ⟨c, t, e, hc⟩ := plainN_head hp hne
    have h39 := (low_not hc).1
    have hh : (bytesOf s ++ r).head? ≠ some 39 := by
      rw [e, List.cons_append, List.head?_cons]
      intro hx
      exact h39 (Option.some.inj hx)
    unfold rdN
    rw [if_neg hh]
    obtain ⟨h1, h2⟩ := span_take (plainN_let hp) hr
    rw [h1, h2]
  · unfold rdN
    rw [List.cons_append, List.head?_cons, if_pos rfl, List.tail_cons, List.append_assoc]
    obtain ⟨h1, h2⟩ := span_take (p := fun c => c != 39) (l := bytesOf s) (r := [39] ++ r) (name_no39 h) (fun c hc => by simp at hc; subst hc; rfl)
    rw [h1, h2]
    rfl
def nameOf (l : List UInt8) : ByteArray := ⟨l.toArray⟩
theorem nameOf_bytes (s : ByteArray) : nameOf (bytesOf s) = s := by unfold nameOf bytesOf; simp
mutual
def rd : Nat → List UInt8 → Option (Tm × List UInt8)
  | 0, _ => none
  | k + 1, l =>
    match l.head? with
    | none => none
    | some c =>
      if upB c then some (.v ((c.toNat - 65 + 26 * valD (l.tail.takeWhile digB) : Nat) : Int), l.tail.dropWhile digB)
      else if digB c then some (.i (valD (l.takeWhile digB) : Int), l.dropWhile digB)
      else if c = 45 then
        if l.tail.head? = some 40 then (rd k l.tail.tail).map fun p => (.f ⟨#[45]⟩ [p.1], p.2.tail)
        else some (.i (-(valD (l.tail.takeWhile digB) : Int)), l.tail.dropWhile digB)
      else if c = 40 then (rd k l.tail).bind fun p => (rd k p.2.tail.tail.tail).map fun q => (.f (nameOf (p.2.tail.take 1)) [p.1, q.1], q.2.tail)
      else if c = 91 then
        if l.tail.head? = some 93 then some (.f ⟨#[91, 93]⟩ [], l.tail.tail)
        else (rd k l.tail).bind fun p => (rdL k p.2).map fun q => (.f ⟨#[46]⟩ [p.1, q.1], q.2)
      else if (rdN l).2.head? = some 40 then (rdA k (rdN l).2.tail).map fun q => (.f (nameOf (rdN l).1) q.1, q.2)
      else some (.f (nameOf (rdN l).1) [], (rdN l).2)
def rdL : Nat → List UInt8 → Option (Tm × List UInt8)
  | 0, _ => none
  | k + 1, l =>
    if l.head? = some 93 then some (.f ⟨#[91, 93]⟩ [], l.tail)
    else if l.head? = some 124 then (rd k l.tail).map fun p => (p.1, p.2.tail)
    else (rd k l.tail).bind fun p => (rdL k p.2).map fun q => (.f ⟨#[46]⟩ [p.1, q.1], q.2)
def rdA : Nat → List UInt8 → Option (List Tm × List UInt8)
  | 0, _ => none
  | k + 1, l => (rd k l).bind fun p => if p.2.head? = some 44 then (rdA k p.2.tail).map fun q => (p.1 :: q.1, q.2) else some ([p.1], p.2.tail)
end
/-- what may stand behind a term -/
def stopB (c : UInt8) : Bool := letB c || c == 40
def Stop (r : List UInt8) : Prop := OffP stopB r
theorem Stop.let {r : List UInt8} (h : Stop r) : OffP letB r := fun c hc => by have := h c hc; unfold stopB at this; simp at this; exact this.1
theorem dig_rest {c : UInt8} (h : digB c = true) : restB c = true := by unfold restB; unfold digB at h; rw [h]; simp
theorem Stop.dig {r : List UInt8} (h : Stop r) : OffP digB r := fun c hc => by
  have := h.let c hc
  unfold letB at this
  rw [Bool.or_eq_false_iff] at this
  cases hd : digB c with
  | false => rfl
  | true => rw [dig_rest hd] at this; exact absurd this.2 (by simp)
theorem Stop.paren {r : List UInt8} (h : Stop r) : r.head? ≠ some 40 := fun hc => by have := h 40 hc; simp [stopB] at this
theorem Stop.of {c : UInt8} {r : List UInt8} (h : stopB c = false) : Stop (c :: r) := fun d hd => by simp at hd; subst hd; exact h
theorem opN_oneR {l : List UInt8} (h : opN l = true) : ∃ c, l = [c] := by
  unfold opN at h
  simp only [Bool.or_eq_true, beq_iff_eq] at h
  rcases h with (((h | h) | h) | h) | h <;> exact ⟨_, h⟩
theorem bytes_eq {s : ByteArray} {l : List UInt8} (h : bytesOf s = l) : s = ⟨l.toArray⟩ := by rw [← h]; exact (nameOf_bytes s).symm
theorem name_ne {s : ByteArray} (h : okName s = true) : bytesOf s ≠ [] := by
  unfold okName at h
  simp at h
  intro e
  have h3 : s.data.toList.length = 0 := by unfold bytesOf at e; rw [e]; rfl
  rw [Array.length_toList] at h3
  have h2 : s.data.size = s.size := rfl
  have := h.2.1
  omega
def prA : List Tm → List UInt8
  | [] => []
  | t :: ts => prT t ++ prC ts
/-- what a term's text begins with -/
theorem prT_begin {T : Tm} (h : T.ok = true) : ∃ c t, prT T = c :: t ∧ c ≠ 93 := by
  match T with
  | .v n =>
    rw [prT]
    refine ⟨_, _, rfl, fun hc => ?_⟩
    have := congrArg UInt8.toNat hc
    simp at this
    omega
  | .i n =>
    rw [prT]
    unfold Lib.itoa
    split
    · exact ⟨45, _, rfl, by decide⟩
    · have h2 := (valD_dec _ n.toNat (Nat.le_refl _)).2
      cases hd : Lib.decDigits n.toNat with
      | nil =>
        have := Lib.decDigits_length n.toNat
        have := Lib.nDigits_pos n.toNat
        rw [hd] at *
        simp at *
        omega
      | cons c t =>
        rw [hd] at h2
        refine ⟨c, t, rfl, ?_⟩
        rintro rfl
        exact absurd (h2 93 (by simp)) (by decide)
  | .f s [] =>
    rw [prT]
    have ho : okName s = true := by simp [Tm.ok] at h; exact h.1
    split
    · exact ⟨91, _, rfl, by decide⟩
    · unfold quoteN
      split
      · rename_i hp
        obtain ⟨c, t, e, hc⟩ := plainN_head hp (name_ne ho)
        refine ⟨c, t, e, ?_⟩
        rintro rfl
        exact absurd hc (by decide)
      · exact ⟨39, _, rfl, by decide⟩
  | .f s (a :: ts) =>
    have ho : okName s = true := by simp [Tm.ok] at h; exact h.1
    have hq : ∀ r, ∃ c t, quoteN (bytesOf s) ++ r = c :: t ∧ c ≠ 93 := by
      intro r
      unfold quoteN
      split
      · rename_i hp
        obtain ⟨c, t, e, hc⟩ := plainN_head hp (name_ne ho)
        refine ⟨c, t ++ r, by rw [e]; rfl, ?_⟩
        rintro rfl
        exact absurd hc (by decide)
      · exact ⟨39, _, rfl, by decide⟩
    match ts with
    | [] => rw [prT]; split; exact ⟨45, _, rfl, by decide⟩; exact hq _
    | [b] => rw [prT]; split; exact ⟨40, _, rfl, by decide⟩; split; exact ⟨91, _, rfl, by decide⟩; exact hq _
    | b :: c :: ts => rw [prT]; exact hq _
/-- a term of a name that has no letters of its own kind -/
theorem prT_named {s : ByteArray} {a : Tm} {ts : List Tm} (h1 : ¬ (bytesOf s = [45] ∧ ts = [])) (h2 : ¬ (opN (bytesOf s) = true ∧ ts.length = 1)) (h3 : ¬ (bytesOf s = [46] ∧ ts.length = 1)) : prT (.f s (a :: ts)) = quoteN (bytesOf s) ++ 40 :: (prA (a :: ts) ++ [41]) := by
  match ts with
  | [] => rw [prT, if_neg (fun h => h1 ⟨h, rfl⟩)]; simp [prA, prC]
  | [b] => rw [prT, if_neg (fun h => h2 ⟨h, rfl⟩), if_neg (fun h => h3 ⟨h, rfl⟩)]; simp [prA, prC]
  | b :: c :: ts => rw [prT]; simp [prA]
theorem prL_other {T : Tm} (h : T.ok = true) (h1 : T ≠ .f ⟨#[91, 93]⟩ []) (h2 : ∀ a b, T ≠ .f ⟨#[46]⟩ [a, b]) : prL T = 124 :: (prT T ++ [93]) := by
  match T with
  | .v n => rw [prL]
  | .i n => rw [prL]
  | .f s [] => rw [prL, if_neg (fun h => h1 (by rw [bytes_eq h]))]
  | .f s [a] => rw [prL]
  | .f s [a, b] => rw [prL, if_neg (fun h => h2 a b (by rw [bytes_eq h]))]
  | .f s (a :: b :: c :: ts) => rw [prL]

theorem rd_all : ∀ N : Nat,
    (∀ (T : Tm) (r : List UInt8) (k : Nat), T.size ≤ N → T.ok = true → Stop r → 2 * T.size ≤ k → rd k (prT T ++ r) = some (T, r)) ∧
    (∀ (T : Tm) (r : List UInt8) (k : Nat), T.size ≤ N → T.ok = true → 2 * T.size + 1 ≤ k → rdL k (prL T ++ r) = some (T, r)) ∧
    (∀ (a : Tm) (ts : List Tm) (r : List UInt8) (k : Nat), sizes (a :: ts) ≤ N → oks (a :: ts) = true → 2 * sizes (a :: ts) + 1 ≤ k → rdA k (prA (a :: ts) ++ 41 :: r) = some (a :: ts, r)) := by
  intro N
  induction N with
  | zero =>
    refine ⟨fun T r k h => ?_, fun T r k h => ?_, fun a ts r k h => ?_⟩
    · have := T.size_pos; omega
    · have := T.size_pos; omega
    · rw [sizes_cons] at h; have := a.size_pos; omega
  | succ N ih =>
    obtain ⟨ihT, ihL, ihA⟩ := ih
    have hT : ∀ (T : Tm) (r : List UInt8) (k : Nat), T.size ≤ N + 1 → T.ok = true → Stop r → 2 * T.size ≤ k → rd k (prT T ++ r) = some (T, r) := by
      intro T r k hN hok hr hk
      obtain ⟨k, rfl⟩ : ∃ j, k = j + 1 := ⟨k - 1, by have := T.size_pos; omega⟩
      match T with
      | .v n =>
        simp only [Tm.ok, Bool.and_eq_true, decide_eq_true_eq] at hok
        obtain ⟨m, rfl⟩ : ∃ m : Nat, n = m := ⟨n.toNat, by omega⟩
        have hc : (UInt8.ofNat (65 + m % 26)).toNat = 65 + m % 26 := by simp; omega
        have hup : upB (UInt8.ofNat (65 + m % 26)) = true := by
          unfold upB
          simp only [Bool.and_eq_true, decide_eq_true_eq, UInt8.le_iff_toNat_le, hc]
          have e1 : (65 : UInt8).toNat = 65 := rfl
          have e2 : (90 : UInt8).toNat = 90 := rfl
          omega
        rw [prT, Int.toNat_natCast, varName, List.cons_append, rd, List.head?_cons]
        simp only [hup, if_true, List.tail_cons, hc]
        by_cases h26 : m < 26
        · obtain ⟨s1, s2⟩ := span_take (p := digB) (l := []) (r := r) (by simp) hr.dig
          rw [if_pos h26, s1, s2]
          simp [valD]
          omega
        · obtain ⟨v1, v2⟩ := valD_dec _ (m / 26) (Nat.le_refl _)
          obtain ⟨s1, s2⟩ := span_take (p := digB) (l := Lib.decDigits (m / 26)) (r := r) v2 hr.dig
          rw [if_neg h26, s1, s2, v1]
          have : 65 + m % 26 - 65 + 26 * (m / 26) = m := by omega
          rw [this]
      | .i n =>
        rw [prT]
        unfold Lib.itoa
        split
        · rename_i hn
          obtain ⟨v1, v2⟩ := valD_dec _ n.natAbs (Nat.le_refl _)
          obtain ⟨s1, s2⟩ := span_take (p := digB) (l := Lib.decDigits n.natAbs) (r := r) v2 hr.dig
          have hnp : (Lib.decDigits n.natAbs ++ r).head? ≠ some 40 := by
            cases hd : Lib.decDigits n.natAbs with
            | nil =>
              have h1 := Lib.decDigits_length n.natAbs
              have h2 := Lib.nDigits_pos n.natAbs
              rw [hd] at h1
              simp at h1
              omega
            | cons c t =>
              rw [hd] at v2
              have := v2 c (by simp)
              rw [List.cons_append, List.head?_cons]
              intro hx
              rw [Option.some.inj hx] at this
              exact absurd this (by decide)
          rw [List.cons_append, rd, List.head?_cons]
          have e : -((n.natAbs : Nat) : Int) = n := by omega
          generalize n.natAbs = u at *
          simp only [show upB 45 = false from by decide, show digB 45 = false from by decide, if_false, if_true, List.tail_cons, Bool.false_eq_true]
          refine (if_neg hnp).trans ?_
          rw [s1, s2, v1, e]
        · rename_i hn
          obtain ⟨v1, v2⟩ := valD_dec _ n.toNat (Nat.le_refl _)
          obtain ⟨s1, s2⟩ := span_take (p := digB) (l := Lib.decDigits n.toNat) (r := r) v2 hr.dig
          cases hd : Lib.decDigits n.toNat with
          | nil =>
            have h1 := Lib.decDigits_length n.toNat
            have h2 := Lib.nDigits_pos n.toNat
            rw [hd] at h1
            simp at h1
            omega
          | cons c t =>
            rw [hd] at v1 v2 s1 s2
            have hc := v2 c (by simp)
            have hu : upB c = false := by
              unfold digB at hc
              unfold upB
              simp only [Bool.and_eq_true, decide_eq_true_eq, UInt8.le_iff_toNat_le] at hc
              rw [Bool.and_eq_false_iff]
              left
              rw [decide_eq_false_iff_not, UInt8.le_iff_toNat_le]
              have e1 : (57 : UInt8).toNat = 57 := rfl
              have e2 : (65 : UInt8).toNat = 65 := rfl
              omega
            rw [List.cons_append] at s1 s2 ⊢
            rw [rd, List.head?_cons]
            simp only [hu, hc, if_true, Bool.false_eq_true, if_false, s1, s2, v1]
            have : ((n.toNat : Nat) : Int) = n := by omega
            rw [this]
      | .f s [] =>
        have ho : okName s = true := by simp [Tm.ok] at hok; exact hok.1
        rw [prT]
        split
        · rename_i hs
          rw [bytes_eq hs, List.cons_append, rd, List.head?_cons]
          simp [show upB 91 = false from by decide, show digB 91 = false from by decide]
        · obtain ⟨c, t, e, h1, h2, h3, h4, h5⟩ := quoteN_begin ho (name_ne ho)
          have hq := rdN_quote ho (name_ne ho) hr.let
          rw [rd]
          have hh : (quoteN (bytesOf s) ++ r).head? = some c := by rw [e]; rfl
          rw [hh]
          simp only [h1, h2, h3, h4, h5, if_false, Bool.false_eq_true, hq, if_neg hr.paren, nameOf_bytes]
      | .f s (a :: ts) =>
        have hoo := hok
        simp only [Tm.ok, oks_cons, Bool.and_eq_true, decide_eq_true_eq] at hok
        obtain ⟨ho, hlen, hoa, hots⟩ := hok
        have hsz : (Tm.f s (a :: ts)).size = 1 + (a.size + sizes ts) := by rw [Tm.size, sizes_cons]
        by_cases c1 : bytesOf s = [45] ∧ ts = []
        · obtain ⟨c1, rfl⟩ := c1
          rw [prT, if_pos c1, bytes_eq c1]
          rw [List.cons_append, List.cons_append, List.append_assoc, rd, List.head?_cons]
          simp only [show upB 45 = false from by decide, show digB 45 = false from by decide, if_false, if_true, List.tail_cons, Bool.false_eq_true, List.head?_cons]
          rw [ihT a ([41] ++ r) k (by omega) hoa (Stop.of (by decide)) (by omega)]
          rfl
        by_cases c2 : opN (bytesOf s) = true ∧ ts.length = 1
        · obtain ⟨c2, hl⟩ := c2
          match ts, hl with
          | [b], _ =>
            obtain ⟨o, ho1⟩ := opN_oneR c2
            rw [oks_cons, Bool.and_eq_true] at hots
            rw [sizes_cons] at hsz
            have hbp := b.size_pos
            rw [prT, if_pos c2, ho1, List.cons_append, rd, List.head?_cons]
            simp only [show upB 40 = false from by decide, show digB 40 = false from by decide, show ¬ (40 : UInt8) = 45 from by decide, if_false, if_true, List.tail_cons, Bool.false_eq_true]
            have e1 : prT a ++ 32 :: ([o] ++ 32 :: (prT b ++ [41])) ++ r = prT a ++ (32 :: o :: 32 :: (prT b ++ (41 :: r))) := by simp
            rw [e1, ihT a _ k (by omega) hoa (Stop.of (by decide)) (by omega)]
            simp only [Option.bind_some, List.tail_cons]
            rw [ihT b (41 :: r) k (by omega) hots.1 (Stop.of (by decide)) (by omega)]
            simp only [Option.map_some, List.tail_cons]
            rw [show nameOf (List.take 1 (o :: 32 :: (prT b ++ 41 :: r))) = s by rw [List.take_succ_cons, List.take_zero, ← ho1, nameOf_bytes]]
        by_cases c3 : bytesOf s = [46] ∧ ts.length = 1
        · obtain ⟨c3, hl⟩ := c3
          match ts, hl with
          | [b], _ =>
            rw [oks_cons, Bool.and_eq_true] at hots
            rw [sizes_cons] at hsz
            have hbp := b.size_pos
            obtain ⟨ca, ta, ea, hca⟩ := prT_begin hoa
            rw [prT, if_neg (fun h => c2 ⟨h, rfl⟩), if_pos c3, List.cons_append, List.append_assoc, rd, List.head?_cons]
            have h93 : (prT a ++ (prL b ++ r)).head? ≠ some 93 := by rw [ea]; intro hx; exact hca (Option.some.inj hx)
            simp only [show upB 91 = false from by decide, show digB 91 = false from by decide, show ¬ (91 : UInt8) = 45 from by decide, show ¬ (91 : UInt8) = 40 from by decide, if_false, if_true, List.tail_cons, Bool.false_eq_true]
            refine (if_neg h93).trans ?_
            have hst : Stop (prL b ++ r) := by
              by_cases e1 : b = .f ⟨#[91, 93]⟩ []
              · subst e1; rw [prL, if_pos (by decide)]; exact Stop.of (by decide)
              · by_cases e2 : ∃ x y, b = .f ⟨#[46]⟩ [x, y]
                · obtain ⟨x, y, rfl⟩ := e2; rw [prL, if_pos (by decide)]; exact Stop.of (by decide)
                · rw [prL_other hots.1 e1 (fun x y h => e2 ⟨x, y, h⟩)]; exact Stop.of (by decide)
            rw [ihT a _ k (by omega) hoa hst (by omega)]
            simp only [Option.bind_some]
            rw [ihL b r k (by omega) hots.1 (by omega)]
            simp only [Option.map_some]
            rw [← bytes_eq c3]
        obtain ⟨c, t, e, h1, h2, h3, h4, h5⟩ := quoteN_begin ho (name_ne ho)
        rw [prT_named c1 c2 c3]
        have e1 : quoteN (bytesOf s) ++ 40 :: (prA (a :: ts) ++ [41]) ++ r = quoteN (bytesOf s) ++ (40 :: (prA (a :: ts) ++ 41 :: r)) := by simp
        have hq := rdN_quote ho (name_ne ho) (r := 40 :: (prA (a :: ts) ++ 41 :: r)) (fun d hd => by simp at hd; subst hd; decide)
        rw [e1, rd]
        have hh : (quoteN (bytesOf s) ++ (40 :: (prA (a :: ts) ++ 41 :: r))).head? = some c := by rw [e]; rfl
        rw [hh]
        simp only [h1, h2, h3, h4, h5, if_false, Bool.false_eq_true, hq, List.head?_cons, if_true, List.tail_cons, nameOf_bytes]
        rw [ihA a ts r k (by rw [sizes_cons]; omega) (by rw [oks_cons, hoa, hots]; rfl) (by rw [sizes_cons]; omega)]
        rfl
    refine ⟨hT, ?_, ?_⟩
    · intro T r k hN hok hk
      obtain ⟨k, rfl⟩ : ∃ j, k = j + 1 := ⟨k - 1, by omega⟩
      by_cases e1 : T = .f ⟨#[91, 93]⟩ []
      · subst e1
        rw [prL, if_pos (by decide), rdL]
        simp
      by_cases e2 : ∃ x y, T = .f ⟨#[46]⟩ [x, y]
      · obtain ⟨x, y, rfl⟩ := e2
        simp only [Tm.ok, oks_cons, Bool.and_eq_true] at hok
        have hsz : (Tm.f ⟨#[46]⟩ [x, y]).size = 1 + (x.size + (y.size + 0)) := by rw [Tm.size, sizes_cons, sizes_cons, sizes]
        have hxp := x.size_pos
        have hyp := y.size_pos
        have hst : Stop (prL y ++ r) := by
          by_cases e1 : y = .f ⟨#[91, 93]⟩ []
          · subst e1; rw [prL, if_pos (by decide)]; exact Stop.of (by decide)
          · by_cases e2 : ∃ x' y', y = .f ⟨#[46]⟩ [x', y']
            · obtain ⟨x, y, rfl⟩ := e2; rw [prL, if_pos (by decide)]; exact Stop.of (by decide)
            · rw [prL_other hok.2.2.2.1 e1 (fun x y h => e2 ⟨x, y, h⟩)]; exact Stop.of (by decide)
        rw [prL, if_pos (by decide), rdL, List.cons_append, List.head?_cons, List.append_assoc]
        simp only [show ¬ some (44 : UInt8) = some 93 from by decide, show ¬ some (44 : UInt8) = some 124 from by decide, if_false, List.tail_cons]
        rw [ihT x _ k (by omega) hok.2.2.1 hst (by omega)]
        simp only [Option.bind_some]
        rw [ihL y r k (by omega) hok.2.2.2.1 (by omega)]
        rfl
      · rw [prL_other hok e1 (fun x y h => e2 ⟨x, y, h⟩), rdL, List.cons_append, List.head?_cons, List.append_assoc]
        simp only [show ¬ some (124 : UInt8) = some 93 from by decide, if_true, if_false, List.tail_cons]
        rw [hT T ([93] ++ r) k hN hok (Stop.of (by decide)) (by omega)]
        rfl
    · intro a ts r k hN hok hk
      obtain ⟨k, rfl⟩ : ∃ j, k = j + 1 := ⟨k - 1, by omega⟩
      rw [sizes_cons] at hN hk
      rw [oks_cons, Bool.and_eq_true] at hok
      rw [rdA, prA]
      cases ts with
      | nil =>
        rw [prC, List.append_nil, hT a (41 :: r) k (by omega) hok.1 (Stop.of (by decide)) (by omega)]
        simp
      | cons b ts =>
        have hap := a.size_pos
        rw [prC, List.append_assoc, List.cons_append, hT a _ k (by omega) hok.1 (Stop.of (by decide)) (by omega)]
        simp only [Option.bind_some, List.head?_cons, if_true, List.tail_cons]
        have := ihA b ts r k (by omega) hok.2 (by omega)
        rw [prA] at this
        rw [this]
        rfl
theorem prT_inj {T U : Tm} (h1 : T.ok = true) (h2 : U.ok = true) (h : prT T = prT U) : T = U := by
  have a1 := (rd_all (T.size + U.size)).1 T [] (2 * (T.size + U.size)) (by omega) h1 (fun c hc => by simp at hc) (by omega)
  have a2 := (rd_all (T.size + U.size)).1 U [] (2 * (T.size + U.size)) (by omega) h2 (fun c hc => by simp at hc) (by omega)
  rw [h, a2] at a1
  injection a1 with a1
  injection a1 with a1 _
  exact a1.symm
end Go.Proofs.YtekdcmplcjgonaaDoor

/- The live questions of layer 6, in plain words. No program in sight. -/
namespace Go.Proofs.YtekdcmplcjgonaaDoor
open Go.RowKit
def hA : Tm := .f ⟨#[97]⟩ []
def hN : Tm := .f ⟨#[91, 93]⟩ []
def hT1 : Tm := .f ⟨#[61]⟩ [.v 0, .f ⟨#[43]⟩ [.v 27, .i (-1)]]
def hT2 : Tm := .f ⟨#[46]⟩ [hA, .f ⟨#[46]⟩ [.v 0, hN]]
def hT3 : Tm := .f ⟨#[46]⟩ [hA, .v 0]
def hT4 : Tm := .f ⟨#[91, 93]⟩ [hA]
def hT5 : Tm := hN
def hT6 : Tm := .f ⟨#[45]⟩ [.i (-1)]
def hT7 : Tm := .f ⟨#[65, 98, 32, 99]⟩ []
def hT8 : Tm := .f ⟨#[43]⟩ [hA, hA, hA]
theorem dec1 : Lib.decDigits 1 = [49] := Lib.decDigits_one (by decide)
theorem dec38 : Lib.decDigits 38 = [51, 56] := Lib.decDigits_two (by decide) (by decide)
theorem itoaM1 : Lib.itoa (-1) = [45, 49] := by rw [Lib.itoa, if_pos (by decide)]; exact congrArg _ dec1
theorem vn0 : varName 0 = [65] := rfl
theorem vn25 : varName 25 = [90] := rfl
theorem vn26 : varName 26 = [65, 49] := by rw [varName, if_neg (by decide)]; exact congrArg _ dec1
theorem vn27 : varName 27 = [66, 49] := by rw [varName, if_neg (by decide)]; exact congrArg _ dec1
theorem vn999 : varName 999 = [76, 51, 56] := by rw [varName, if_neg (by decide)]; exact congrArg _ dec38
theorem ht1 : prT hT1 = [40, 65, 32, 61, 32, 40, 66, 49, 32, 43, 32, 45, 49, 41, 41] := by
  have h1 : prT (.v 0) = [65] := by rw [prT]; exact vn0
  have h2 : prT (.v 27) = [66, 49] := by rw [prT]; exact vn27
  have h3 : prT (.i (-1)) = [45, 49] := by rw [prT]; exact itoaM1
  have h4 : prT (.f ⟨#[43]⟩ [.v 27, .i (-1)]) = [40, 66, 49, 32, 43, 32, 45, 49, 41] := by rw [prT, if_pos (by decide), h2, h3]; rfl
  rw [hT1, prT, if_pos (by decide), h1, h4]; rfl
theorem hta : prT hA = [97] := by rw [hA, prT, if_neg (by decide)]; rfl
theorem htv : prT (.v 0) = [65] := by rw [prT]; exact vn0
theorem ht2 : prT hT2 = [91, 97, 44, 65, 93] := by
  have h1 : prL hN = [93] := by rw [hN, prL, if_pos (by decide)]
  have h2 : prL (.f ⟨#[46]⟩ [.v 0, hN]) = [44, 65, 93] := by rw [prL, if_pos (by decide), htv, h1]; rfl
  rw [hT2, prT, if_neg (by decide), if_pos (by decide), hta, h2]; rfl
theorem ht3 : prT hT3 = [91, 97, 124, 65, 93] := by
  have h1 : prL (.v 0) = [124, 65, 93] := by rw [prL, htv]; rfl
  rw [hT3, prT, if_neg (by decide), if_pos (by decide), hta, h1]; rfl
theorem ht4 : prT hT4 = [39, 91, 93, 39, 40, 97, 41] := by rw [hT4, prT, if_neg (by decide), hta]; rfl
theorem ht5 : prT hT5 = [91, 93] := by rw [hT5, hN, prT, if_pos (by decide)]
theorem ht6 : prT hT6 = [45, 40, 45, 49, 41] := by
  have h3 : prT (.i (-1)) = [45, 49] := by rw [prT]; exact itoaM1
  rw [hT6, prT, if_pos (by decide), h3]; rfl
theorem ht7 : prT hT7 = [39, 65, 98, 32, 99, 39] := by rw [hT7, prT, if_neg (by decide)]; rfl
theorem ht8 : prT hT8 = [39, 43, 39, 40, 97, 44, 97, 44, 97, 41] := by
  rw [hT8, prT, hta, prC, prC, prC, hta]; rfl
end Go.Proofs.YtekdcmplcjgonaaDoor
