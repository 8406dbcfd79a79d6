/- The plain law of HeapAlike: the heap's making alike and the document's most general unifier. No program in sight. -/
import Derived.Test.YtlndjooddkjnoaaUA
import Derived.Test.YtlndjooddkjnoaaB2
set_option linter.unusedVariables false
set_option linter.unusedSimpArgs false
namespace Go.Proofs.Ytlndjooddkjnoaa
open Go.RowKit

theorem Good.den_vle {l : List C} (h : Good l) (hN : l.length ≤ 1000) : ∀ p, p < l.length → (den l p).vle 999 = true := by
  refine h.induct fun p hp ih => ?_
  cases ho : onB l p
  · rcases ok_kind (shp_at h.shp hp) with k | k | k | k
    · have hf : Free1 l p := ⟨hp, k, by rw [on_ref k] at ho; simpa using ho⟩
      rw [h.den_free hf]
      simp [Tm.vle]
      omega
    · rw [h.den_num k]
      simp [Tm.vle]
    · rw [on_ptr k] at ho; cases ho
    · rw [h.den_top k]
      simp only [Tm.vle, vles_all, List.all_eq_true]
      intro x hx
      obtain ⟨i, hi, rfl⟩ := List.mem_map.1 hx
      exact ih _ (by rw [leads_top k]; exact List.mem_map.2 ⟨i, hi, rfl⟩)
  · rw [h.den_step ho]
    exact ih _ (by rw [leads_on ho]; simp)
def al1 (A : Tm) : List C × Nat × List Int := putA [] A []
def al2 (A B : Tm) : List C × Nat × List Int := putA (al1 A).1 B (al1 A).2.2
section
variable {A B : Tm}
theorem al_len (sA : A.size ≤ 60) (sB : B.size ≤ 60) : (al1 A).1.length ≤ 120 ∧ (al2 A B).1.length ≤ 240 := by
  have h1 := putA_len8 A [] []
  have h2 := putA_len8 B (al1 A).1 (al1 A).2.2
  unfold al2
  unfold al1 at *
  simp only [List.length_nil] at h1
  omega
theorem al_ok (hA : A.ok = true) (hB : B.ok = true) (sA : A.size ≤ 60) (sB : B.size ≤ 60) : OkH ⟨(al1 A).1, [], 900⟩ ∧ OkH ⟨(al2 A B).1, [], 900⟩ ∧ (al1 A).2.2.length ≤ 1000 := by
  obtain ⟨h1, h2⟩ := al_len sA sB
  obtain ⟨a1, _, a3, _⟩ := put_okH (okH_nil (r := 900) (by omega) (by omega)) hA (atL_nil 0) (by unfold al1 at h1; omega)
  obtain ⟨b1, _⟩ := put_okH a1 hB a3 (by unfold al2 al1 at h2; omega)
  exact ⟨a1, b1, putA_row8 hA [] (by simp)⟩
theorem al_put (hA : A.ok = true) (hB : B.ok = true) (sA : A.size ≤ 60) (sB : B.size ≤ 60) : Put2 A B (al2 A B).1 (al1 A).2.1 (al2 A B).2.1 (al2 A B).2.2 := put2_ok hA hB (by omega) (by omega)
theorem al_uniZ {L : List C} {tr : List Int} {P Q : Nat} (hP : P < L.length) (hQ : Q < L.length) : uniZ L tr P Q = uniF L tr P Q := by
  unfold uniZ
  rw [if_pos ⟨⟨by omega, by omega⟩, ⟨by omega, by omega⟩⟩]
  rfl
theorem al_none (hA : A.ok = true) (hB : B.ok = true) (sA : A.size ≤ 60) (sB : B.size ≤ 60) (h : ∀ R : Int → Tm, A.sub R ≠ B.sub R) : uniZ (al2 A B).1 [] (al1 A).2.1 (al2 A B).2.1 = none := by
  have hp := al_put hA hB sA sB
  rw [al_uniZ hp.ltP hp.ltQ]
  cases hu : uniF (al2 A B).1 [] (al1 A).2.1 (al2 A B).2.1 with
  | none => rfl
  | some u =>
    obtain ⟨L', TR⟩ := u
    exact absurd (hp.mgu (al_ok hA hB sA sB).2.1 hu).1.uni (h _)
theorem al_some (hA : A.ok = true) (hB : B.ok = true) (sA : A.size ≤ 60) (sB : B.size ≤ 60) {S : Int → Tm} (h : Mgu A B S) : ∃ L' TR, uniZ (al2 A B).1 [] (al1 A).2.1 (al2 A B).2.1 = some (L', TR) := by
  have hp := al_put hA hB sA sB
  rw [al_uniZ hp.ltP hp.ltQ]
  cases hu : uniF (al2 A B).1 [] (al1 A).2.1 (al2 A B).2.1 with
  | none => exact absurd h.uni (hp.none (al_ok hA hB sA sB).2.1.tr hu S)
  | some u => exact ⟨u.1, u.2, rfl⟩
/-- THE LAW OF HeapAlike: what is got of both, and what the bindings tell, are variants -/
theorem al_get (hA : A.ok = true) (hB : B.ok = true) (sA : A.size ≤ 60) (sB : B.size ≤ 60) {S : Int → Tm} (h : Mgu A B S) {s : List (Int × List C)} (hs : ∀ n, A.has n ∨ B.has n → (lkB s n).getD [⟨1, ⟨#[]⟩, n⟩] = (S n).flat)
    {L' : List C} {TR : List Int} (hu : uniZ (al2 A B).1 [] (al1 A).2.1 (al2 A B).2.1 = some (L', TR)) :
    getZ L' (al2 A B).2.1 = getZ L' (al1 A).2.1 ∧ (getZ L' (al1 A).2.1).isSome = (applyB s A.flat).isSome ∧ ∀ x y, getZ L' (al1 A).2.1 = some x → applyB s A.flat = some y → numberF x = numberF y := by
  have hp := al_put hA hB sA sB
  obtain ⟨o1, o2, _⟩ := al_ok hA hB sA sB
  have hun := uni_ok o2 (al1 A).2.1 (al2 A B).2.1
  unfold uRes at hun
  rw [hu] at hun
  simp only [Option.getD_some] at hun
  obtain ⟨o3, hlen, _⟩ := hun
  rw [al_uniZ hp.ltP hp.ltQ] at hu
  obtain ⟨m1, m2, m3⟩ := hp.mgu o2 hu
  have hv := h.variant m1
  have l2 := (al_len sA sB).2
  have hP := hp.ltP
  have hQ := hp.ltQ
  have gP : getZ L' (al1 A).2.1 = getF L' (al1 A).2.1 := by unfold getZ; rw [if_pos ⟨by omega, by omega⟩]; rfl
  have gQ : getZ L' (al2 A B).2.1 = getF L' (al2 A B).2.1 := by unfold getZ; rw [if_pos ⟨by omega, by omega⟩]; rfl
  have vP := o3.good.den_vle (by simp only; omega) (al1 A).2.1 (by simp only; omega)
  simp only at vP
  have hput : putB s A.flat = (A.sub S).flat := putB_sub A (fun n hn => hs n (.inl hn))
  have hgF : getF L' (al1 A).2.1 = if (A.sub S).size ≤ 200 then some (den L' (al1 A).2.1).flat else none := by
    unfold getF
    rw [vP]
    simp only [and_true]
    rw [m2, hv.2]
  have hap : applyB s A.flat = if (A.sub S).size ≤ 200 then some (A.sub S).flat else none := by
    unfold applyB
    rw [hput, flat_size]
  refine ⟨?_, ?_, fun x y hx hy => ?_⟩
  · rw [gP, gQ]
    unfold getF
    rw [m3]
  · rw [gP, hgF, hap]
    split <;> rfl
  · rw [gP, hgF] at hx
    rw [hap] at hy
    split at hx
    · rename_i hsz
      rw [if_pos hsz] at hy
      injection hx with hx
      injection hy with hy
      rw [← hx, ← hy, m2]
      exact hv.1.symm
    · cases hx
end
end Go.Proofs.Ytlndjooddkjnoaa
