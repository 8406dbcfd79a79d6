/- Texts of this proof that belong together: words of memory, plain laws, walks. -/
import Derived.Test.YtgipiplklaeplaaDoorB46
set_option linter.unusedVariables false
set_option linter.unusedSimpArgs false
namespace Go.Proofs.YtgipiplklaeplaaDoor
open Go.RowKit
theorem inst_law {s : ByteArray} {us : List Tm} {c : Cls} {r : Raw} (hcls : IsCls c r) (hc : Small c) (hA : (Tm.f s us).ok = true) (hs : (Tm.f s us).size ≤ 40) :
  (∃ e, resZ (.f s us) c 4096 = .inr e ∧ (e = 3 ∨ e = 2)) ∨ ∃ (T : Tm) (Ts : List Tm), resZ (.f s us) c 4096 = .inl (T.flat, zipF (c.body.map (·.neg)) Ts) ∧ Ts.length = c.body.length ∧ T.c0 = (Tm.f s us).c0 ∧ T.size ≤ 200 ∧ (∀ u ∈ Ts, u.size ≤ 200) ∧
   (∃ σ, (Tm.f s us).sub σ = T) ∧ (∃ σ, c.head.sub σ = T) ∧ ∀ (j : Nat) (l : Ltl) (u : Tm), c.body[j]? = some l → Ts[j]? = some u → ∃ σ, l.t.sub σ = u := by
 rcases resZ_law hcls hc hA hs with ⟨e, _⟩ | ⟨t, ts, ρ, σ, hr, hz⟩
 ·exact .inl ⟨3, e, .inl rfl⟩
 rcases hz with ⟨e, _⟩ | ⟨e, h1, h2⟩
 ·exact .inl ⟨2, e, .inr rfl⟩
 right
 obtain ⟨f, hf⟩ : ∃ f, f = placeI (varsLr (varsF t.flat) (zipF (c.body.map (·.neg)) ts)) := ⟨_, rfl⟩
 refine ⟨t.ren f, ts.map (Tm.ren f), ?_, by rw [List.length_map, hr.len, List.length_map], ?_, by rw [ren_size]; exact h1, fun u hu => ?_, ⟨fun n => (ρ n).ren f, ?_⟩, ⟨fun n => (σ n).ren f, ?_⟩, fun j l u hl hu => ⟨fun n => (σ n).ren f, ?_⟩⟩
 ·rw [e, zipF_map f _ _ _ (fun u _ => ren_flat f u), ren_flat]
  unfold numR
  simp only
  rw [← hf]
 ·have : t.c0 = (Tm.f s us).c0 := by
   rw [hr.atom]
   simp [Tm.sub, Tm.c0, subs_map]
  rw [← this]
  have hk : t.c0.kind = 3 := by rw [this]; rfl
  cases t with
  | v n => simp [Tm.c0] at hk
  | i n => rfl
  | f a b => simp [Tm.ren, Tm.c0, rens_len]
 ·obtain ⟨x, hx, rfl⟩ := List.mem_map.1 hu
  rw [ren_size]; exact h2 x hx
 ·rw [← sub_ren, ← hr.atom]
 ·rw [← sub_ren, ← hr.head]
 ·have hb := hr.body j l.t (by rw [List.getElem?_map, hl]; rfl)
  rw [List.getElem?_map, hb] at hu
  simp only [Option.map_some, Option.some.injEq] at hu
  rw [← hu, sub_ren]
end Go.Proofs.YtgipiplklaeplaaDoor
