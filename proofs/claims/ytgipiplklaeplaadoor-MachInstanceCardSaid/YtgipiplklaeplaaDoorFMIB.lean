/- MachInstance: for every input the law answers true, and its arguments read as before. Condition: the package variable that the row lists (a table of functions) starts as the program text lays it, which the card ties to that text. -/
import Derived.Test.YtgipiplklaeplaaDoorB55
import Derived.Test.YtgipiplklaeplaaDoorB03
import Derived.Test.YtgipiplklaeplaaDoorB28
import Derived.Lay
import Derived.SevenTiedAt
import Derived.Test.YtgipiplklaeplaaDoorCards
import Derived.Test.YtgipiplklaeplaaDoorTie
set_option linter.unusedVariables false
set_option linter.unusedSimpArgs false
namespace Go.Proofs.YtgipiplklaeplaaDoor.machInstance
open Go.ChangeShapes Go.WideShapes Go.ChangeAt Go.RowKit Go.Joins
open Go.ChangeMaps (open_string shut_string)
set_option linter.unusedVariables false

theorem own : ownKnob Tryd.prog.godebug = none := by kernel_rfl
theorem laidOut : laidOutB Tryd.prog = true := by kernel_rfl

set_option maxRecDepth 100000 in
theorem lifted (os : Os) (started : os.Started) (H : Type) (enc : TypeId × Value → H) :
  ReturnsInHanded {} Tryd.checked os 3 .any (fun w args => (Rows.machInstanceSpec.pre enc Tryd.prog Tryd.f3 Rows.machInstanceRow.domain false w args ∧ laidMetH Tryd.prog Rows.machInstanceRow.laid w) ∧ sizedMet enc Tryd.prog Tryd.f3 (OpenSpec.ofChange Rows.machInstanceSpec) false w args)
   (Rows.machInstanceSpec.post enc Tryd.prog Tryd.f3 false true false false) := by
 refine returnsInHanded_of_change_and (C := Tryd.checked) (X := fun w _ => laidMetH Tryd.prog Rows.machInstanceRow.laid w) (fun _ _ _ hh h => h.of_heap hh) own started (by kernel_rfl) Tryd.func3
  (ChangeSpec.witness_shaped (enc := enc) (C := Tryd.checked) (os := os) (X := fun w _ => laidMetH Tryd.prog Rows.machInstanceRow.laid w) false (World.doorLaid Tryd.prog 600 os) #[.slice none 0 0, .agg #[.slice none 0 0, .slice none 0 0]] 8 rfl
   (World.shaped_of_RefB (by kernel_rfl) (by kernel_rfl)) (by kernel_rfl) (by kernel_rfl) (by kernel_rfl) (door_met os _)) ?_
 intro W base args ds gs before hval0 hW hcnd _ hL _
 have hdt : DT W := dt_of_laid hL
 have hval : ∀ (j : Nat) t v, Tryd.f3.params[j]? = some t → args[j]? = some v → Value.okWide Tryd.prog W .any base t v := hval0
 have hW' := hW
 obtain ⟨p, q, hA0, hV, rfl, hfz, hnd⟩ := hW
 have hA : DataW.TrodAll enc Tryd.prog W 0 (fun _ => true) true Tryd.f3.params.toList args.toList ds p := hA0
 rw [Tryd.params3] at hA hval
 obtain ⟨v0, vs0, d0, ds0, p0, q0, hargs, rfl, rfl, h0, r0⟩ := trodAll_cons hA
 obtain ⟨v1, vs1, d1, ds1, p1, q1, rfl, rfl, rfl, h1, r1⟩ := trodAll_cons r0
 obtain ⟨rfl, rfl, rfl⟩ := trodAll_nil r1
 obtain rfl : args = #[v0, v1] := by cases args; simp_all
 obtain ⟨rfl, rfl⟩ := trodVars_none hV
 have k0 := h0
 have lt0 : ∀ x ∈ p0, x.block < W.heap.size := by obtain ⟨m, hm⟩ := k0; exact DataW.trod_lt m _ _ _ hm
 obtain ⟨a0, len0, cap0, rfl⟩ := okWide_slice Tryd.underlying22 (hval 0 22 v0 rfl rfl)
 obtain ⟨c0, w0⟩ : ∃ cs, IsC W a0 len0 cap0 cs := by
  obtain ⟨fuel, hf⟩ := h0
  obtain ⟨A, n, cap, cs, he, hc⟩ := open_cells hf
  injection he with e1 e2 e3
  subst e1 e2 e3
  exact ⟨cs, hc⟩
 have k1 := h1
 have lt1 : ∀ x ∈ p1, x.block < W.heap.size := by obtain ⟨m, hm⟩ := k1; exact DataW.trod_lt m _ _ _ hm
 obtain ⟨A1, n1, c1, t1, B1, m1, e1, b1, rfl, w1, x1⟩ := open_clause (hval 1 25 v1 rfl rfl) h1
 clear hA0 hval0
 refine (machInstance_walk a0 len0 cap0 c0 A1 n1 c1 t1 B1 m1 e1 b1 W w0 w1 x1 hdt).mono fun e W' ⟨he, bel⟩ => ?_
 subst he
 exact ⟨_, rfl, _, _, _, [], _, [], hW', trodAll_mk1 (shut_bool Tryd.underlying4 _), (trodAll_cons_mk (Below.trod laidOut (by kernel_rfl) (of_decide_eq_true (by kernel_rfl)) k0 bel lt0) (trodAll_cons_mk (Below.trod laidOut (by kernel_rfl) (of_decide_eq_true (by kernel_rfl)) k1 bel lt1) trodAll_mk0)), rfl, bel.frame _, fun h => by cases h⟩

theorem over : Rows.machInstanceRow.holds Tryd.pinned (OpenSpec.ofChange Rows.machInstanceSpec) :=
 OpenClaim.holds_of_wide 3 Tryd.f3 rfl rfl rfl rfl rfl rfl rfl ⟨rfl, rfl, rfl, rfl, rfl⟩ rfl rfl rfl rfl rfl (by kernel_rfl) Tryd.func3 (by kernel_rfl)
  (of_decide_eq_true (by kernel_rfl)) (by unfold Func.isWrapper; first | (rw [if_pos (by decide +kernel)]; kernel_rfl) | (rw [if_neg (by decide +kernel)]; exact ⟨rfl, rfl⟩))
  (fun os started H enc _ => lifted os started H enc)

theorem proved : Rows.MachInstanceCardSaid :=
 Claim7.holds_tied_plain_at .later [] [.funcs] true Rows.machInstanceCard.stood.harness true over (fun _ h => by cases h) (by kernel_rfl) (fun _ h => by cases h) machInstance_row_tie rfl ⟨rfl, rfl⟩ (by kernel_rfl) (by kernel_rfl)
  (fun f fn hf hfn => by
   obtain rfl : f = 3 := Option.some.inj ((show Tryd.prog.funcNamed "sorrel/sorrellaw11.MachInstance" = some 3 by kernel_rfl).symm.trans hf) |>.symm
   obtain rfl : fn = Tryd.f3 := (Option.some.inj (Tryd.func3.symm.trans hfn)).symm
   exact ⟨by kernel_rfl, fun j t ht => by
    rw [Tryd.params3] at ht
    have hall : (#[22, 25] : Array TypeId).all (fun t => !Tryd.prog.wantsStandIn t) = true := by kernel_rfl
    have := Array.all_eq_true_iff_forall_mem.1 hall t (Array.mem_of_getElem? ht)
    exact (show Tryd.prog.wantsStandIn t = false by simpa using this)⟩)
  (by kernel_rfl)
end Go.Proofs.YtgipiplklaeplaaDoor.machInstance
