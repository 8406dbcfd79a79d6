/- Plain facts on building a structure. No program in sight. -/
import Derived.Test.YtdeaeiolehglaaaHd
set_option linter.unusedVariables false
set_option linter.unusedSimpArgs false
namespace Go.Proofs.Ytdeaeiolehglaaa
open Go.RowKit

theorem buildF_fun (s : St) (t : Tm) (h : t.c0.kind = 3) :
    buildF s t = (setsF ((argsF s t.args).1.bump.emit { op := 8, a := (argsF s t.args).1.next, name := t.c0.name, n := t.c0.n }) t.args (argsF s t.args).2, ((argsF s t.args).1.next : Int)) := by
  obtain ⟨nm, us, rfl⟩ := (c0_kind3 t).1 h
  rfl
theorem buildF_one (s : St) (t : Tm) (h : t.c0.kind ≠ 3) : buildF s t = (s, -1) := by
  cases t with
  | v n => rfl
  | i n => rfl
  | f nm us => exact absurd rfl h
theorem argsF_cons (s : St) (t : Tm) (ts : List Tm) : argsF s (t :: ts) = ((argsF (buildF s t).1 ts).1, (buildF s t).2 :: (argsF (buildF s t).1 ts).2) := rfl
theorem argsF_nil (s : St) : argsF s [] = (s, []) := rfl
theorem setsF_fun (s : St) (t : Tm) (ts : List Tm) (x : Int) (xs : List Int) (h : t.c0.kind = 3) : setsF s (t :: ts) (x :: xs) = setsF (s.emit { op := 10, x := x }) ts xs := by
  obtain ⟨nm, us, rfl⟩ := (c0_kind3 t).1 h
  rfl
theorem setsF_one (s : St) (t : Tm) (ts : List Tm) (x : Int) (xs : List Int) (h : t.c0.kind ≠ 3) : setsF s (t :: ts) (x :: xs) = setsF (oneF 9 10 11 s t) ts xs := by
  cases t with
  | v n => rfl
  | i n => rfl
  | f nm us => exact absurd rfl h
theorem argsF_len : ∀ (ts : List Tm) (s : St), (argsF s ts).2.length = ts.length
  | [], _ => rfl
  | t :: ts, s => by rw [argsF_cons, List.length_cons, List.length_cons, argsF_len ts]
theorem setsF_room : ∀ (ts : List Tm) (xs : List Int) (s : St) (k : Nat), s.room (ts.length + k) → (setsF s ts xs).room k
  | [], xs, s, k, h => by
    have : setsF s [] xs = s := by cases xs <;> rfl
    rw [this]; exact h.le (by simp)
  | t :: ts, [], s, k, h => by
    have : setsF s (t :: ts) [] = s := by cases t <;> rfl
    rw [this]; exact h.le (by omega)
  | t :: ts, x :: xs, s, k, h => by
    rw [List.length_cons] at h
    by_cases hk : t.c0.kind = 3
    · rw [setsF_fun _ _ _ _ _ hk]
      exact setsF_room ts xs _ k (room_emit _ (h.le (by omega)))
    · rw [setsF_one _ _ _ _ _ hk]
      exact setsF_room ts xs _ k (room_one _ _ _ _ (h.le (by omega)))
/-- how much room a structure wants -/
def bwt (t : Tm) : Nat := if t.c0.kind = 3 then 1 + 2 * sizes t.args else 0
def bwts : List Tm → Nat
  | [] => 0
  | t :: ts => bwt t + bwts ts
theorem bwts_le : ∀ ts : List Tm, bwts ts + ts.length ≤ 2 * sizes ts
  | [] => by simp [bwts]
  | t :: ts => by
    have := bwts_le ts
    have e : bwts (t :: ts) = bwt t + bwts ts := rfl
    rw [e, sizes_cons, size_args, List.length_cons]
    unfold bwt
    split <;> omega
mutual
theorem buildF_room : ∀ (t : Tm) (s : St) (k : Nat), s.room (bwt t + k) → (buildF s t).1.room k
  | .v n, s, k, h => h.le (by simp [bwt])
  | .i n, s, k, h => h.le (by simp [bwt])
  | .f nm us, s, k, h => by
    rw [buildF_fun s _ rfl]
    have hw : bwt (.f nm us) = 1 + 2 * sizes us := rfl
    have hle := bwts_le us
    rw [hw] at h
    have h1 := argsF_room us s (us.length + k + 1) (h.le (by omega))
    refine setsF_room _ _ _ k ?_
    refine ⟨?_, ?_, ?_⟩
    · have := h1.code; simp [Tm.args, St.emit, St.bump]; omega
    · have := h1.next; simp [Tm.args, St.emit, St.bump]; omega
    · have := h1.vars; simp [Tm.args, St.emit, St.bump]; omega
theorem argsF_room : ∀ (ts : List Tm) (s : St) (k : Nat), s.room (bwts ts + k) → (argsF s ts).1.room k
  | [], s, k, h => h.le (by omega)
  | t :: ts, s, k, h => by
    rw [argsF_cons]
    have e : bwts (t :: ts) = bwt t + bwts ts := rfl
    rw [e] at h
    exact argsF_room ts _ k (buildF_room t s (bwts ts + k) (h.le (by omega)))
end
theorem buildF_small (s : St) (t : Tm) (h : s.room (bwt t)) : -1 ≤ (buildF s t).2 ∧ (buildF s t).2 ≤ 100000 := by
  by_cases hk : t.c0.kind = 3
  · rw [buildF_fun s t hk]
    have hle := bwts_le t.args
    have hb : bwt t = 1 + 2 * sizes t.args := by simp [bwt, hk]
    rw [hb] at h
    have := (argsF_room t.args s 0 (h.le (by omega))).next
    exact ⟨by simp only; omega, by simp only; omega⟩
  · rw [buildF_one s t hk]; exact ⟨by simp, by simp⟩
/-- the registers of those arguments that are structures, by places -/
def belowL : Nat → List Tm → List Int → List (Int × Value)
  | j, t :: ts, x :: xs => if t.c0.kind = 3 then ((j : Int), Value.int .i64 x) :: belowL (j + 1) ts xs else belowL (j + 1) ts xs
  | _, _, _ => []
theorem belowL_snoc (t : Tm) (x : Int) : ∀ (ts : List Tm) (xs : List Int) (j : Nat), xs.length = ts.length → belowL j (ts ++ [t]) (xs ++ [x]) = belowL j ts xs ++ (if t.c0.kind = 3 then [(((j + ts.length : Nat) : Int), Value.int .i64 x)] else [])
  | [], [], j, _ => by simp [belowL]
  | u :: ts, y :: xs, j, h => by
    have := belowL_snoc t x ts xs (j + 1) (by simpa using h)
    simp only [List.cons_append, belowL]
    rw [this, show j + 1 + ts.length = j + (u :: ts).length by simp; omega]
    split <;> rfl
  | [], _ :: _, _, h => by simp at h
  | _ :: _, [], _, h => by simp at h
theorem belowL_look : ∀ (ts : List Tm) (xs : List Int) (j k : Nat), xs.length = ts.length → look (belowL j ts xs) ((j + k : Nat) : Int) = match ts[k]?, xs[k]? with
    | some t, some x => if t.c0.kind = 3 then some (.int .i64 x) else none
    | _, _ => none
  | [], [], j, k, _ => by simp [belowL, look]
  | t :: ts, x :: xs, j, 0, _ => by
    have hno : ∀ (ts : List Tm) (xs : List Int) (j m : Nat), m < j → look (belowL j ts xs) (m : Int) = none := by
      intro ts
      induction ts with
      | nil => intro xs j m _; simp [belowL, look]
      | cons t ts ih =>
        intro xs j m hm
        cases xs with
        | nil => simp [belowL, look]
        | cons x xs =>
          simp only [belowL]
          split
          · simp only [look]
            rw [if_neg (by omega)]
            exact ih xs (j + 1) m (by omega)
          · exact ih xs (j + 1) m (by omega)
    simp only [belowL, Nat.add_zero, List.getElem?_cons_zero]
    split
    · simp [look]
    · exact hno ts xs (j + 1) j (by omega)
  | t :: ts, x :: xs, j, k + 1, h => by
    have ih := belowL_look ts xs (j + 1) k (by simpa using h)
    rw [show j + 1 + k = j + (k + 1) by omega] at ih
    simp only [belowL, List.getElem?_cons_succ]
    split
    · simp only [look]
      rw [if_neg (by omega)]
      exact ih
    · exact ih
  | [], _ :: _, _, _, h => by simp at h
  | _ :: _, [], _, _, h => by simp at h
theorem belowL_len : ∀ (ts : List Tm) (xs : List Int) (j : Nat), (belowL j ts xs).length ≤ ts.length
  | [], _, _ => by simp [belowL]
  | t :: ts, [], _ => by simp [belowL]
  | t :: ts, x :: xs, j => by
    have := belowL_len ts xs (j + 1)
    simp only [belowL]
    split <;> simp <;> omega
/-- a world that differs in one block alone -/
theorem Apart.one {w w' : World} {b : Nat} (h : w.grownBy w' (some b)) : Apart w w' (some ⟨b, 0, none⟩) none :=
  ⟨h.size, fun g hg hne => h.block g hg (by have := hne _ rfl; simp at this; simp; omega), fun a ha => by cases ha⟩
end Go.Proofs.Ytdeaeiolehglaaa
