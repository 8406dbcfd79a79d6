/- What layer 3's classes tell of two terms' most general unifier. -/
import Derived.Test.YtlndjooddkjnoaaU9
import Derived.Test.YtlndjooddkjnoaaB2
import Derived.Test.YtlndjooddkjnoaaLHB0
set_option linter.unusedVariables false
set_option linter.unusedSimpArgs false
namespace Go.Proofs.Ytlndjooddkjnoaa
open Go.RowKit

theorem cell_v {u : Tm} {n : Int} {s : ByteArray} (h : u.c0 = ⟨1, s, n⟩) : u = .v n := by
  cases u with
  | v m => simp only [Tm.c0, C.mk.injEq] at h; rw [h.2.2]
  | i m => simp [Tm.c0] at h
  | f s us => simp [Tm.c0] at h
theorem kind_v {u : Tm} (h : u.c0.kind = 1) : u = .v u.c0.n := by
  cases u with
  | v m => rfl
  | i m => simp [Tm.c0] at h
  | f s us => simp [Tm.c0] at h
theorem has_place {ts : List Tm} {n : Int} (h : (⟨1, ⟨#[]⟩, n⟩ : C) ∈ flats ts) : ∃ x, subT ts x = some (.v n) := by
  obtain ⟨x, hx⟩ := List.getElem?_of_mem h
  have hlt := (List.getElem?_eq_some_iff.1 hx).1
  rw [flats_size9] at hlt
  obtain ⟨u, hu⟩ := subT_some x ts hlt
  have h2 := subT_cell hu
  rw [hx] at h2
  injection h2 with h2
  exact ⟨x, by rw [hu, cell_v h2.symm]⟩
theorem place_has {ts : List Tm} {n : Int} {x : Nat} (h : subT ts x = some (.v n)) : (⟨1, ⟨#[]⟩, n⟩ : C) ∈ flats ts := List.mem_of_getElem? (subT_cell h)
def isVn (n : Int) : Option Tm → Bool
  | some (.v m) => m == n
  | _ => false
theorem isVn_iff {n : Int} {o : Option Tm} : isVn n o = true ↔ o = some (.v n) := by
  cases o with
  | none => simp [isVn]
  | some u => cases u <;> simp [isVn]
/-- the term of a variable's class -/
def Sm (ts : List Tm) (T : Nat → Tm) (n : Int) : Tm := match (List.range (sizes ts)).find? (fun x => isVn n (subT ts x)) with
  | some x => T x
  | none => .v n
theorem Sm_at {ts : List Tm} {cls : Nat → Nat} {T : Nat → Tm} (hT : ∀ x y, x < sizes ts → y < sizes ts → cls x = cls y → T x = T y) (hc : Closed ts cls) {n : Int} {x : Nat} (hx : subT ts x = some (.v n)) : Sm ts T n = T x := by
  unfold Sm
  cases hf : (List.range (sizes ts)).find? (fun x => isVn n (subT ts x)) with
  | none =>
    have := (List.find?_eq_none.1 hf) x (List.mem_range.2 (subT_lt' hx))
    rw [isVn_iff.2 hx] at this
    exact absurd rfl this
  | some y =>
    have hp := List.find?_some (p := fun x => isVn n (subT ts x)) hf
    have hy := isVn_iff.1 hp
    exact hT y x (subT_lt' hy) (subT_lt' hx) (hc y x (.inl ⟨n, hy, hx⟩))
theorem two_flats (A B : Tm) : flats [A, B] = A.flat ++ B.flat := by simp [flats]
theorem two_has {A B : Tm} {n : Int} : (⟨1, ⟨#[]⟩, n⟩ : C) ∈ flats [A, B] ↔ A.has n ∨ B.has n := by
  rw [two_flats, List.mem_append]; rfl
theorem two_snd (A B : Tm) : subT [A, B] A.size = some B := by have := subT_pass A [B] 0; rw [Nat.add_zero] at this; exact this
theorem fine_of {A B : Tm} {cl : List Nat} {sec : Nat} (h : ClsI [A, B] sec cl) (hc : Closed [A, B] (clsF cl)) (hn : ¬ Clash [A, B] (clsF cl)) (hr : Ranked [A, B] (clsF cl)) (hA : A.ok = true) (hB : B.ok = true) :
    ∃ rk, Fine [A, B] (clsF cl) (doesF [A, B] (clsF cl)) (leaF [A, B] (clsF cl)) rk := by
  obtain ⟨rk, hrk⟩ := hr
  refine ⟨rk, does_ok, hn, hc, hrk, fun i hi hd => lea_ok (fun z m hz => ?_) hi hd, fun i j hij => leaK_same hij _⟩
  rcases two_has.1 (place_has hz) with h1 | h1
  · exact (ok_has hA h1).2
  · exact (ok_has hB h1).2
def MguI (A B : Tm) (s : List (Int × List C)) (d : Int) : Prop := (d = 3 ∧ ∀ R : Int → Tm, A.sub R ≠ B.sub R) ∨ ∃ S, Mgu A B S ∧ (d = 2 ∨ (d = 0 ∧ s.length ≤ 1000 ∧ (∀ p ∈ s, p.2.length ≤ 200) ∧ ∀ n, A.has n ∨ B.has n → (lkB s n).getD [⟨1, ⟨#[]⟩, n⟩] = (S n).flat))
theorem mgu_clash {A B : Tm} {cl : List Nat} (h : ClsI [A, B] A.size cl) (hc : Clash [A, B] (clsF cl)) : MguI A B [] 3 :=
  .inl ⟨rfl, fun R hu => (h.resp R A B rfl (two_snd A B) hu).clash hc⟩
theorem mgu_round {A B : Tm} {cl : List Nat} (h : ClsI [A, B] A.size cl) (hc : Round8 [A, B] (clsF cl) (doesF [A, B] (clsF cl))) : MguI A B [] 3 :=
  .inl ⟨rfl, fun R hu => (h.resp R A B rfl (two_snd A B) hu).round does_ok hc⟩
theorem Fine.mgu {A B : Tm} {cl : List Nat} {rk : Nat → Nat} (hF : Fine [A, B] (clsF cl) (doesF [A, B] (clsF cl)) (leaF [A, B] (clsF cl)) rk) (h : ClsI [A, B] A.size cl) :
    Mgu A B (Sm [A, B] (tmC [A, B] (clsF cl) (doesF [A, B] (clsF cl)) (leaF [A, B] (clsF cl)) rk)) :=
  classes_mgu hF h.two.symm (fun R hu => h.resp R A B rfl (two_snd A B) hu) (fun n x hx => Sm_at (fun x y hx hy hxy => hF.tm_same hx hy hxy) hF.closed hx) (fun n hn => has_place (two_has.2 hn))
/-- what holds of the bindings made of the variables so far -/
def BndI (S : Int → Tm) (L : List Int) (k : Nat) (s : List (Int × List C)) : Prop := (∀ p ∈ s, p.2 = (S p.1).flat ∧ p.2.length ≤ 200) ∧ ∀ j x, j < k → L[j]? = some x → x ∈ s.map Prod.fst ∨ S x = .v x
theorem lkB_none : ∀ {s : List (Int × List C)} {n : Int}, lkB s n = none → n ∉ s.map Prod.fst
  | [], n, _ => by simp
  | p :: s, n, h => by
    unfold lkB at h
    by_cases e : p.1 = n
    · rw [if_pos e] at h; cases h
    · rw [if_neg e] at h
      rw [List.map_cons, List.mem_cons, not_or]
      exact ⟨fun e2 => e e2.symm, lkB_none h⟩
theorem lkB_some : ∀ {s : List (Int × List C)} {n : Int} {t : List C}, lkB s n = some t → (n, t) ∈ s
  | p :: s, n, t, h => by
    unfold lkB at h
    by_cases e : p.1 = n
    · rw [if_pos e] at h
      injection h with h
      rw [← e, ← h]
      exact List.mem_cons_self ..
    · rw [if_neg e] at h
      exact List.mem_cons_of_mem _ (lkB_some h)
theorem BndI.done {S : Int → Tm} {L : List Int} {s : List (Int × List C)} (h : BndI S L L.length s) {n : Int} (hn : n ∈ L) : (lkB s n).getD [⟨1, ⟨#[]⟩, n⟩] = (S n).flat := by
  cases hl : lkB s n with
  | some t => exact (h.1 _ (lkB_some hl)).1
  | none =>
    obtain ⟨j, hj⟩ := List.getElem?_of_mem hn
    rcases h.2 j n (List.getElem?_eq_some_iff.1 hj).1 hj with h1 | h1
    · exact absurd h1 (lkB_none hl)
    · rw [h1]; rfl
theorem BndI.pass {S : Int → Tm} {L : List Int} {k : Nat} {s : List (Int × List C)} (h : BndI S L k s) {x : Int} (hx : L[k]? = some x) (he : S x = .v x) : BndI S L (k + 1) s :=
  ⟨h.1, fun j y hj hy => by
    by_cases e : j = k
    · subst e
      rw [hx] at hy
      injection hy with hy
      subst hy
      exact .inr he
    · exact h.2 j y (by omega) hy⟩
theorem BndI.more {S : Int → Tm} {L : List Int} {k : Nat} {s : List (Int × List C)} (h : BndI S L k s) {x : Int} (hx : L[k]? = some x) (hl : (S x).size ≤ 200) : BndI S L (k + 1) (s ++ [(x, (S x).flat)]) :=
  ⟨fun p hp => by
    rcases List.mem_append.1 hp with hp | hp
    · exact h.1 p hp
    · obtain rfl := List.mem_singleton.1 hp
      exact ⟨rfl, by rw [flat_size]; exact hl⟩, fun j y hj hy => by
    by_cases e : j = k
    · subst e
      rw [hx] at hy
      injection hy with hy
      subst hy
      exact .inl (by simp)
    · rcases h.2 j y (by omega) hy with h1 | h1
      · exact .inl (by rw [List.map_append]; exact List.mem_append.2 (.inl h1))
      · exact .inr h1⟩
theorem ris_has {A B : Tm} {L : List Int} (h : RisOk (flats [A, B]) (flats [A, B]).length L) {n : Int} (hn : A.has n ∨ B.has n) : n ∈ L := by
  obtain ⟨j, hj⟩ := List.getElem?_of_mem (two_has.2 hn)
  exact (h n).2 ⟨j, _, (List.getElem?_eq_some_iff.1 hj).1, hj, rfl, rfl⟩
theorem ris_place {ts : List Tm} {L : List Int} (h : RisOk (flats ts) (flats ts).length L) {n : Int} (hn : n ∈ L) : ∃ x, subT ts x = some (.v n) := by
  obtain ⟨j, c, h1, h2, h3, h4⟩ := (h n).1 hn
  rw [flats_size9] at h1
  obtain ⟨u, hu⟩ := subT_some j ts h1
  have h5 := subT_cell hu
  rw [h2] at h5
  injection h5 with h5
  subst h5
  refine ⟨j, ?_⟩
  rw [hu, kind_v h3, h4]
theorem IT.grownB {w w' : World} {A As : Option Addr} {n c base n' c' : Nat} {l : List Int} {xs : List Value} {o : Obj} (h : IT w A n c l) (ho : w.ownsRow base 57 2 (.slice As n' c') n' xs) (hg : (w.alloc o).grownBy w' (Value.slice As n' c').ownBlock) : IT w' A n c l := by
  have h2 := h.below ((Below.refl w.heap.size w).alloc (Nat.le_refl _) o)
  have ho2 := ho.alloc o
  have hk : ∀ a, A = some a → w'.heap[a.block]? = (w.alloc o).heap[a.block]? := fun a ha => by
    obtain ⟨cur, hc⟩ := h2.2 a ha
    exact grown_block hg (block_lt hc) (own_ne ho2 hc (by intro cur' he; simp at he))
  exact ⟨⟨h2.1.sl.same9 hg.size fun _ a ha => hk a ha, h2.1.wf⟩, fun a ha => by obtain ⟨cur, hc⟩ := h2.2 a ha; exact ⟨cur, (hk a ha).trans hc⟩⟩
end Go.Proofs.Ytlndjooddkjnoaa
