/- Texts of this proof that belong together: words of memory, plain laws, walks. -/
import Derived.LaidHandle
import Derived.LaidMore
import Derived.OpenShut
import Derived.ProofKit
import Derived.Stop.Joined
import Derived.Test.YtgipiplklaeplaaDoorRows
import Derived.Test.YtgipiplklaeplaaDoorA27
set_option linter.unusedVariables false
set_option linter.unusedSimpArgs false
namespace Go.Proofs.YtgipiplklaeplaaDoor
open Go.ChangeShapes Go.WideShapes Go.RowKit
theorem gDoes : Tryd.prog.globalNamed "sorrel/mach.does" = some 0 := by kernel_rfl
theorem gDoesT : (Tryd.prog.globals[0]?).map (·.type) = some 120 := by kernel_rfl
theorem cellsFnM : Tryd.prog.cellsOf 119 = 1 := by kernel_rfl
def doesL : List (DataW (List UInt8)) := [.nil, .held [40, 42, 115, 111, 114, 114, 101, 108, 47, 109, 97, 99, 104, 46, 109, 97, 99, 104, 105, 110, 101, 41, 46, 103, 101, 116, 86, 97, 114], .held [40, 42, 115, 111, 114, 114, 101, 108, 47, 109, 97, 99, 104, 46, 109, 97, 99, 104, 105, 110, 101, 41, 46, 103, 101, 116, 86, 97, 108], .held [40, 42, 115, 111, 114, 114, 101, 108, 47, 109, 97, 99, 104, 46, 109, 97, 99, 104, 105, 110, 101, 41, 46, 103, 101, 116, 73, 110, 116], .held [40, 42, 115, 111, 114, 114, 101, 108, 47, 109, 97, 99, 104, 46, 109, 97, 99, 104, 105, 110, 101, 41, 46, 103, 101, 116, 70, 117, 110], .held [40, 42, 115, 111, 114, 114, 101, 108, 47, 109, 97, 99, 104, 46, 109, 97, 99, 104, 105, 110, 101, 41, 46, 115, 101, 116, 86, 97, 114], .held [40, 42, 115, 111, 114, 114, 101, 108, 47, 109, 97, 99, 104, 46, 109, 97, 99, 104, 105, 110, 101, 41, 46, 117, 110, 105, 86, 97, 108], .held [40, 42, 115, 111, 114, 114, 101, 108, 47, 109, 97, 99, 104, 46, 109, 97, 99, 104, 105, 110, 101, 41, 46, 117, 110, 105, 73, 110, 116], .held [40, 42, 115, 111, 114, 114, 101, 108, 47, 109, 97, 99, 104, 46, 109, 97, 99, 104, 105, 110, 101, 41, 46, 112, 117, 116, 70, 117, 110], .held [40, 42, 115, 111, 114, 114, 101, 108, 47, 109, 97, 99, 104, 46, 109, 97, 99, 104, 105, 110, 101, 41, 46, 115, 101, 116, 86, 97, 114], .held [40, 42, 115, 111, 114, 114, 101, 108, 47, 109, 97, 99, 104, 46, 109, 97, 99, 104, 105, 110, 101, 41, 46, 115, 101, 116, 86, 97, 108], .held [40, 42, 115, 111, 114, 114, 101, 108, 47, 109, 97, 99, 104, 46, 109, 97, 99, 104, 105, 110, 101, 41, 46, 115, 101, 116, 73, 110, 116], .held [40, 42, 115, 111, 114, 114, 101, 108, 47, 109, 97, 99, 104, 46, 109, 97, 99, 104, 105, 110, 101, 41, 46, 99, 97, 108, 108], .held [40, 42, 115, 111, 114, 114, 101, 108, 47, 109, 97, 99, 104, 46, 109, 97, 99, 104, 105, 110, 101, 41, 46, 114, 101, 115, 116]]
theorem does_out : (DataW.agg doesL : DataW (List UInt8)) = (match (Rows.laid_sorrel_mach_does : DataW Unit) with | .iface _ d => d.funcsOut | _ => .nil) := by kernel_rfl
theorem does_cell {W : World} (h : laidMetH Tryd.prog [("sorrel/mach.does", Rows.laid_sorrel_mach_does)] W) {o : Nat} (ho : o < 14) {b : UInt8} {r : List UInt8} {f0 : FuncId} (hL : doesL[o]? = some (.held (b :: r)))
    (hone : ((List.range Tryd.prog.funcs.size).filter fun f => (Tryd.prog.funcs[f]?).any (·.name.toUTF8.data.toList == b :: r)) = [f0]) : W.cell? ⟨0, o, none⟩ = some (.func (.func f0) #[] #[]) := by
  obtain ⟨g, t, cs, fuel, p, hg, ht, hv, hd⟩ := h.funcs (List.mem_singleton.2 rfl)
  obtain rfl := Option.some.inj (gDoes.symm.trans hg)
  obtain rfl := Option.some.inj (gDoesT.symm.trans ht)
  have hd' : DataW.trod (funcToken Tryd.prog) Tryd.prog W 0 (fun _ => true) true fuel 120 cs.toList = some (DataW.agg doesL, p) := by rw [does_out]; exact hd
  obtain ⟨xs, m, _, ex, hlen, hl, hel⟩ := DataW.trod_array Tryd.underlying120 hd'
  have e3 : xs.map (·.1) = doesL := (DataW.agg.inj (Prod.mk.inj ex).1).symm
  have hE := hel o ho
  rw [cellsFnM, Nat.mul_one, List.getElem?_eq_getElem (by omega)] at hE
  have e4 : (xs.map (·.1))[o]? = doesL[o]? := by rw [e3]
  rw [List.getElem?_map, List.getElem?_eq_getElem (by omega : o < xs.length), hL] at e4
  have e5 : (xs[o]'(by omega)) = (.held (b :: r), (xs[o]'(by omega)).2) := Prod.ext (by simpa using e4) rfl
  have hlen1 : cs.toList.length = 14 := by rw [hlen]; kernel_rfl
  have hol : o < cs.toList.length := by omega
  have e6 : (cs.toList.drop o).take 1 = [cs.toList[o]] := by
    rw [List.drop_eq_getElem_cons hol]
    rfl
  rw [e6, e5] at hE
  have hf := func_of_trod (f0 := f0) Tryd.underlying119 hone hE
  rw [World.var?_cell hg hv o]
  have : cs.toList[o]? = some (.func (.func f0) #[] #[]) := by rw [List.getElem?_eq_getElem hol, hf]
  simpa using this
theorem dt_of_laid {W : World} (h : laidMetH Tryd.prog [("sorrel/mach.does", Rows.laid_sorrel_mach_does)] W) : DT W := by
  have key : ∀ o : Nat, 1 ≤ o → o ≤ 13 → W.cell? ⟨0, o, none⟩ = some (.func (.func (opF o)) #[] #[]) := fun o h1 h2 => by
    obtain rfl | rfl | rfl | rfl | rfl | rfl | rfl | rfl | rfl | rfl | rfl | rfl | rfl : o = 1 ∨ o = 2 ∨ o = 3 ∨ o = 4 ∨ o = 5 ∨ o = 6 ∨ o = 7 ∨ o = 8 ∨ o = 9 ∨ o = 10 ∨ o = 11 ∨ o = 12 ∨ o = 13 := by omega
    · exact does_cell h (o := 1) (by omega) (hL := rfl) (by kernel_rfl)
    · exact does_cell h (o := 2) (by omega) (hL := rfl) (by kernel_rfl)
    · exact does_cell h (o := 3) (by omega) (hL := rfl) (by kernel_rfl)
    · exact does_cell h (o := 4) (by omega) (hL := rfl) (by kernel_rfl)
    · exact does_cell h (o := 5) (by omega) (hL := rfl) (by kernel_rfl)
    · exact does_cell h (o := 6) (by omega) (hL := rfl) (by kernel_rfl)
    · exact does_cell h (o := 7) (by omega) (hL := rfl) (by kernel_rfl)
    · exact does_cell h (o := 8) (by omega) (hL := rfl) (by kernel_rfl)
    · exact does_cell h (o := 9) (by omega) (hL := rfl) (by kernel_rfl)
    · exact does_cell h (o := 10) (by omega) (hL := rfl) (by kernel_rfl)
    · exact does_cell h (o := 11) (by omega) (hL := rfl) (by kernel_rfl)
    · exact does_cell h (o := 12) (by omega) (hL := rfl) (by kernel_rfl)
    · exact does_cell h (o := 13) (by omega) (hL := rfl) (by kernel_rfl)
  exact ⟨World.block_lt_of_cell? W _ (key 1 (by omega) (by omega)), key⟩
theorem door_met (os : Os) (args : Array Value) : laidMetH Tryd.prog [("sorrel/mach.does", Rows.laid_sorrel_mach_does)] ((World.doorLaid Tryd.prog 600 os).forCall (fun _ _ => 0) ⟨#[], args, []⟩).memory :=
  laidMetH_of_parts3 (fuel := 8) (laidMet_of_run' 8 (by kernel_rfl) (by kernel_rfl)) (by kernel_rfl) (by kernel_rfl)
end Go.Proofs.YtgipiplklaeplaaDoor
