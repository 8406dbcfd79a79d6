/- The walk that makes a head. -/
import Derived.Test.YtdeaeiolehglaaaOne
import Derived.Test.YtdeaeiolehglaaaPartsW
import Derived.Test.YtdeaeiolehglaaaTail
set_option linter.unusedVariables false
set_option linter.unusedSimpArgs false
namespace Go.Proofs.Ytdeaeiolehglaaa
open Go.RowKit

theorem infoArgC : (Try.prog.info? 95).map (fun i => (i.zero, i.size, i.bytes)) = some (some (.agg #[.slice none 0 0, .int .i64 0]), 2, 32) := by kernel_rfl
theorem Mk.cblk_lt {w : World} {base bm bq : Nat} {s : St} (h : Mk w base bm bq s) {g : Nat} (hg : w.heap.size ≤ g) : cblk w bm ≠ some g := by
  obtain ⟨A, n, cap, hb1, hb2, hm, hcode, hmap⟩ := h.has
  obtain ⟨vs, v1, v2, hown, v4⟩ := hcode.rows
  rw [cblk_of hm]
  intro he
  cases A with
  | none => cases he
  | some a =>
    have := Own0.lt hown a rfl
    simp at he
    omega
theorem Mk.cblk_own {w : World} {base bm bq : Nat} {s : St} (h : Mk w base bm bq s) : ∃ A n cap, w.heap[bm]? = some (.cells #[.slice A n cap, .int .i64 s.next, .map (some bq)] 63 (0, 0)) ∧ OwnG RIn 6 w base 48 (.slice A n cap) n s.code ∧ cblk w bm = A.map (·.block) := by
  obtain ⟨A, n, cap, hb1, hb2, hm, hcode, hmap⟩ := h.has
  exact ⟨A, n, cap, hm, hcode, cblk_of hm⟩
theorem Mk.apart {w w' : World} {base bm bq : Nat} {s : St} {As A' : Option Addr} (h : Mk w base bm bq s) (hap : Apart w w' As A') (hf : ∀ a, As = some a → Free w bm bq a.block) : Mk w' base bm bq s ∧ cblk w' bm = cblk w bm := by
  have hlt := h.lt
  have hbm : w'.heap[bm]? = w.heap[bm]? := hap.old bm hlt.2.1 fun a ha he => (hf a ha).m he
  have hbq : w'.heap[bq]? = w.heap[bq]? := hap.old bq hlt.2.2.2 fun a ha he => (hf a ha).q he
  refine ⟨?_, cblk_same hbm⟩
  obtain ⟨A, n, cap, hb1, hb2, hm, hcode, hmap⟩ := h.has
  obtain ⟨vs, v1, v2, hown, v4⟩ := hcode.rows
  refine ⟨⟨A, n, cap, hb1, hb2, hbm.trans hm, ⟨hcode.len, vs, v1, v2, own_at hown fun a ha => hap.old _ (Own0.lt hown a ha).2 fun a0 h0 he => (hf a0 h0).c ?_, fun i x v hx hv => v4 i x v hx hv⟩, hmap.block hbq⟩, h.fit⟩
  rw [cblk_of hm, ha]
  simp [he]
theorem Kept.apart {w0 w w' : World} {base bm bq : Nat} {s : St} {As A' : Option Addr} (hk : Kept w0 w bm bq) (h : Mk w base bm bq s) (hap : Apart w w' As A') (hf : ∀ a, As = some a → Free w bm bq a.block) (hlow : ∀ a, As = some a → w0.heap.size ≤ a.block) : Kept w0 w' bm bq := ⟨fun g hg => by
  obtain ⟨h1, h2⟩ := hk.free g hg
  have hne : ∀ a, As = some a → a.block ≠ g := fun a ha he => by have := hlow a ha; have := hg.lt; omega
  exact ⟨(hap.old g h2.lt hne).trans h1, ⟨Nat.lt_of_lt_of_le h2.lt hap.size, h2.m, h2.q, by rw [(h.apart hap hf).2]; exact h2.c⟩⟩⟩
theorem free_apart {w w' : World} {base bm bq : Nat} {s : St} {As A' : Option Addr} (h : Mk w base bm bq s) (hap : Apart w w' As A') (hf : ∀ a, As = some a → Free w bm bq a.block) : ∀ a, A' = some a → Free w' bm bq a.block := fun a ha => by
  have hlt := h.lt
  obtain ⟨h1, h2⟩ := hap.blk a ha
  rcases h2 with ⟨a0, h0, he⟩ | h2
  · have := hf a0 h0
    rw [he]
    exact ⟨by rw [← he]; exact h1, this.m, this.q, by rw [(h.apart hap hf).2]; exact this.c⟩
  · exact ⟨h1, by omega, by omega, by rw [(h.apart hap hf).2]; exact h.cblk_lt h2⟩
def RArgW (W : World) : World → Tm × Int → List Value → Prop := fun _ p v => ∃ A n c, v = [.slice A n c, .int .i64 p.2] ∧ IsC W A n c p.1.flat
theorem keepsArgW (W : World) : Keeps (RArgW W) := fun _ _ _ _ h _ => h
theorem IsC.tm {w : World} {A : Option Addr} {n cap : Nat} {T : Tm} (h : IsC w A n cap T.flat) :
    ∃ b off, A = some ⟨b, off, none⟩ ∧ b < w.heap.size ∧ w.cell? ⟨b, off, none⟩ = some (.int .i64 T.c0.kind) ∧ w.cell? ⟨b, off + 1, none⟩ = some (.string T.c0.name) ∧ w.cell? ⟨b, off + 2, none⟩ = some (.int .i64 T.c0.n) ∧ 0 < n := by
  obtain ⟨b, off, hA, hb, _, h0, h1, h2⟩ := h.at_ (flat_get0 T)
  have := h.len
  rw [flat_size] at this
  have hp := T.size_pos
  exact ⟨b, off, hA, hb, by simpa using h0, by simpa using h1, by simpa using h2, by omega⟩
theorem numbered_snoc (t : Tm) : ∀ (l : List Tm) (j : Nat), numbered j (l ++ [t]) = numbered j l ++ [(t, ((j + l.length : Nat) : Int))]
  | [], j => rfl
  | x :: l, j => by
    rw [List.cons_append, numbered, numbered, numbered_snoc t l (j + 1), List.cons_append]
    congr 3
    simp; omega
theorem numbered_len : ∀ (l : List Tm) (j : Nat), (numbered j l).length = l.length
  | [], _ => rfl
  | x :: l, j => by simp [numbered, numbered_len l (j + 1)]
theorem numbered_mem {p : Tm × Int} : ∀ {l : List Tm} {j : Nat}, p ∈ numbered j l → p.1 ∈ l ∧ 0 ≤ p.2 ∧ p.2 < j + l.length
  | x :: l, j, h => by
    rw [numbered] at h
    rcases List.mem_cons.1 h with rfl | h
    · exact ⟨by simp, by simp, by simp; omega⟩
    · obtain ⟨h1, h2, h3⟩ := numbered_mem h
      exact ⟨by simp [h1], h2, by simp at h3 ⊢; omega⟩
/-- how many cells wait in the row, and how much room they want -/
def rsz : List (Tm × Int) → Nat
  | [] => 0
  | p :: r => p.1.size + rsz r
def rwt : List (Tm × Int) → Nat
  | [] => 0
  | p :: r => (1 + 2 * sizes p.1.args) + rwt r
theorem rsz_append : ∀ a b : List (Tm × Int), rsz (a ++ b) = rsz a + rsz b
  | [], b => by simp [rsz]
  | p :: a, b => by rw [List.cons_append, rsz, rsz, rsz_append a b, Nat.add_assoc]
theorem rwt_append : ∀ a b : List (Tm × Int), rwt (a ++ b) = rwt a + rwt b
  | [], b => by simp [rwt]
  | p :: a, b => by rw [List.cons_append, rwt, rwt, rwt_append a b]; omega
theorem rwt_len : ∀ a : List (Tm × Int), a.length ≤ rwt a
  | [] => by simp [rwt]
  | p :: a => by have := rwt_len a; simp only [rwt, List.length_cons]; omega
theorem rsz_numbered : ∀ (l : List Tm) (j : Nat), rsz (numbered j l) = sizes l
  | [], _ => rfl
  | x :: l, j => by rw [numbered, rsz, rsz_numbered l (j + 1), sizes_cons]
theorem rwt_numbered : ∀ (l : List Tm) (j : Nat), rwt (numbered j l) ≤ 2 * sizes l
  | [], _ => by simp [numbered, rwt]
  | x :: l, j => by
    have := rwt_numbered l (j + 1)
    have e : rwt (numbered j (x :: l)) = (1 + 2 * sizes x.args) + rwt (numbered (j + 1) l) := rfl
    rw [e, sizes_cons, size_args]
    omega
/-- what a row's terms are -/
def RowOk (row : List (Tm × Int)) : Prop := ∀ p ∈ row, p.1.ok = true ∧ p.1.size ≤ 200 ∧ 0 ≤ p.2 ∧ p.2 ≤ 100000
theorem RowOk.append {a b : List (Tm × Int)} (ha : RowOk a) (hb : RowOk b) : RowOk (a ++ b) := fun p hp => (List.mem_append.1 hp).elim (ha p) (hb p)
theorem c0_kind3 (T : Tm) : T.c0.kind = 3 ↔ ∃ s us, T = .f s us := by
  cases T with
  | v n => simp [Tm.c0]
  | i n => simp [Tm.c0]
  | f s us => simp [Tm.c0]
theorem unisF_fun (s : St) (t : Tm) (ts : List Tm) (h : t.c0.kind = 3) :
    unisF s (t :: ts) = ((unisF (s.emit { op := 5, x := s.next }).bump ts).1, (t, (s.next : Int)) :: (unisF (s.emit { op := 5, x := s.next }).bump ts).2) := by
  obtain ⟨nm, us, rfl⟩ := (c0_kind3 t).1 h
  rfl
theorem unisF_one (s : St) (t : Tm) (ts : List Tm) (h : t.c0.kind ≠ 3) : unisF s (t :: ts) = unisF (oneF 5 6 7 s t) ts := by
  cases t with
  | v n => rfl
  | i n => rfl
  | f s us => exact absurd rfl h
theorem unisF_room : ∀ (ts : List Tm) (s : St) (k : Nat), s.room (2 * sizes ts + k) → (unisF s ts).1.room (rwt (unisF s ts).2 + k)
  | [], s, k, h => h.le (by simp [unisF, rwt])
  | t :: ts, s, k, h => by
    rw [sizes_cons, size_args] at h
    by_cases hk : t.c0.kind = 3
    · rw [unisF_fun s t ts hk]
      have := unisF_room ts (s.emit { op := 5, x := s.next }).bump (k + 1 + 2 * sizes t.args) ((room_fresh _ (h.le (j := 2 * sizes ts + (k + 1 + 2 * sizes t.args) + 1) (by omega))))
      exact this.le (by simp only [rwt]; omega)
    · rw [unisF_one s t ts hk]
      exact unisF_room ts _ k (room_one _ _ _ _ (h.le (by omega)))
theorem unisF_rsz : ∀ (ts : List Tm) (s : St), rsz (unisF s ts).2 ≤ sizes ts
  | [], s => by simp [unisF, rsz]
  | t :: ts, s => by
    rw [sizes_cons]
    by_cases hk : t.c0.kind = 3
    · rw [unisF_fun s t ts hk]
      have := unisF_rsz ts (s.emit { op := 5, x := s.next }).bump
      simp only [rsz]; omega
    · rw [unisF_one s t ts hk]
      have := unisF_rsz ts (oneF 5 6 7 s t)
      omega
theorem unisF_ok : ∀ (ts : List Tm) (s : St), oks ts = true → sizes ts ≤ 199 → s.room (2 * sizes ts) → RowOk (unisF s ts).2
  | [], s, _, _, _ => by simp [unisF, RowOk]
  | t :: ts, s, ho, hs, hr => by
    rw [oks_cons, Bool.and_eq_true] at ho
    rw [sizes_cons] at hs hr
    have hp := t.size_pos
    by_cases hk : t.c0.kind = 3
    · rw [unisF_fun s t ts hk]
      have h1 := hr.next
      have := unisF_ok ts (s.emit { op := 5, x := s.next }).bump ho.2 (by omega) (room_fresh _ (hr.le (by omega)))
      intro p hp'
      rcases List.mem_cons.1 hp' with rfl | hp'
      · exact ⟨ho.1, by dsimp only; omega, by simp, by simp; omega⟩
      · exact this p hp'
    · rw [unisF_one s t ts hk]
      exact unisF_ok ts _ ho.2 (by omega) (room_one _ _ _ _ (hr.le (by omega)))
theorem headF_fun (s : St) (t : Tm) (r : Int) (h : t.c0.kind = 3) : headF s (t, r) = unisF (s.emit { op := 4, a := r, name := t.c0.name, n := t.c0.n }) t.args := by
  obtain ⟨nm, us, rfl⟩ := (c0_kind3 t).1 h
  rfl
theorem headF_room {s : St} {p : Tm × Int} {k : Nat} (h : s.room (1 + 2 * sizes p.1.args + k)) : (headF s p).1.room (rwt (headF s p).2 + k) := by
  obtain ⟨t, r⟩ := p
  cases t with
  | v n => exact (room_reg n _ (h.le (j := k + 1) (by omega))).le (by simp [headF, rwt])
  | i n => exact (room_emit _ (h.le (j := k + 1) (by omega))).le (by simp [headF, rwt])
  | f nm us =>
    rw [headF_fun s _ r rfl]
    exact unisF_room _ _ k (room_emit _ (h.le (by simp only [Tm.args]; omega)))
theorem headF_rsz (s : St) (p : Tm × Int) : rsz (headF s p).2 + 1 ≤ p.1.size := by
  obtain ⟨t, r⟩ := p
  cases t with
  | v n => simp [headF, rsz, Tm.size]
  | i n => simp [headF, rsz, Tm.size]
  | f nm us =>
    rw [headF_fun s _ r rfl, size_args]
    have := unisF_rsz (Tm.f nm us).args (s.emit { op := 4, a := r, name := (Tm.f nm us).c0.name, n := (Tm.f nm us).c0.n })
    simp only
    omega
theorem headF_ok {s : St} {p : Tm × Int} (ho : p.1.ok = true) (hs : p.1.size ≤ 200) (h : s.room (1 + 2 * sizes p.1.args)) : RowOk (headF s p).2 := by
  obtain ⟨t, r⟩ := p
  cases t with
  | v n => simp [headF, RowOk]
  | i n => simp [headF, RowOk]
  | f nm us =>
    rw [headF_fun s _ r rfl]
    rw [size_args] at hs
    exact unisF_ok _ _ (args_ok ho) (by simp only at hs; omega) (room_emit _ (h.le (by simp only; omega)))
theorem headsF_nil (k : Nat) (s : St) : headsF k s [] = s := by cases k <;> rfl
theorem headsF_cons (k : Nat) (s : St) (p : Tm × Int) (row : List (Tm × Int)) : headsF (k + 1) s (p :: row) = headsF k (headF s p).1 (row ++ (headF s p).2) := rfl
end Go.Proofs.Ytdeaeiolehglaaa
