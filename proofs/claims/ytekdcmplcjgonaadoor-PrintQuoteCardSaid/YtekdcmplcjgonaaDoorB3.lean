/- Texts of this proof that belong together: words of memory, plain laws, short walks. -/
import Derived.Shelf.Strings.BuilderK
import Derived.Shelf.RegionOpen
import Derived.Test.YtekdcmplcjgonaaDoorProg
import Derived.Test.YtekdcmplcjgonaaDoorB0
import Derived.Test.YtekdcmplcjgonaaDoorShelf
import Derived.Test.YtekdcmplcjgonaaDoorB1
set_option linter.unusedVariables false
set_option linter.unusedSimpArgs false
/- A writer, a Builder by another name: what its methods do. -/
namespace Go.Proofs.YtekdcmplcjgonaaDoor
open Go.RowKit

theorem cells_of {w : World} {b : Nat} {cs : Array Value} {t : TypeId} (h : w.heap[b]? = some (.cells cs t (0, 0))) (k : Nat) : w.cell? ⟨b, k, none⟩ = cs[k]? := cell_of_row w b k cs t (0, 0) h
theorem block_lt {w : World} {b : Nat} {x : Obj} (h : w.heap[b]? = some x) : b < w.heap.size := (Array.getElem?_eq_some_iff.1 h).1
theorem alloc_at {w : World} {g : Nat} {o : Obj} (hg : w.heap.size = g) : (w.alloc o).heap[g]? = some o := by rw [← hg]; exact Go.heap_alloc_new w o
theorem alloc_past {w : World} {g : Nat} {o : Obj} (hg : g < w.heap.size) : (w.alloc o).heap[g]? = w.heap[g]? := Lib.alloc_old w o g hg
/-- a writer that holds these bytes -/
def Wr (b : Nat) (l : List UInt8) (w : World) : Prop := Lib.IsBuilderF 74 5 b b (Lib.byteCells l) w
/-- what a call that writes leaves as it was: all below the writer, and whatever is neither the writer nor a row of bytes -/
structure Fr (b : Nat) (w w' : World) : Prop where
  low : Below b w w'
  keep : Lib.OthersKept 5 (some b) w w'
theorem Fr.refl (b : Nat) (w : World) : Fr b w w := ⟨Below.refl _ _, Lib.OthersKept.refl _ _ _⟩
theorem Fr.trans {b : Nat} {u v w : World} (h : Fr b u v) (k : Fr b v w) : Fr b u w := ⟨h.low.trans k.low, h.keep.trans k.keep⟩
theorem Fr.drew {b : Nat} {u v : World} (h : Fr b u v) : Fr b u v.drew := ⟨h.low.drew, h.keep.drew⟩
theorem Fr.alloc {b : Nat} {u v : World} (h : Fr b u v) (hb : b ≤ v.heap.size) (o : Obj) : Fr b u (v.alloc o) := ⟨h.low.alloc hb o, h.keep.alloc o⟩
theorem Fr.size {b : Nat} {u v : World} (h : Fr b u v) : u.heap.size ≤ v.heap.size := h.low.size
theorem Wr.lt {b : Nat} {l : List UInt8} {w : World} (h : Wr b l w) : b < w.heap.size := by
  rcases h with h | h
  · exact h.lt
  · exact h.lt
theorem Wr.drew {b : Nat} {l : List UInt8} {w : World} (h : Wr b l w) : Wr b l w.drew := h
theorem Wr.alloc {b : Nat} {l : List UInt8} {w : World} (h : Wr b l w) (o : Obj) : Wr b l (w.alloc o) := h.imp (fun x => x.alloc o) (fun x => x.alloc o)

theorem infoByte : (Tryd.prog.info? 5).map (fun i => (i.zero, i.size, i.bytes)) = some (some (.int .u8 0), 1, 1) := by kernel_rfl
theorem sizeBuilder : (Tryd.prog.info? 72).map (·.size) = some 2 := by kernel_rfl
theorem liesWriter : liesAt Tryd.prog Tryd.prog.depth 74 (2 / Tryd.prog.cellsOf 74) 0 72 1 = true := by kernel_rfl

set_option maxRecDepth 100000 in
set_option maxHeartbeats 1000000 in
theorem copyCheck_used (b : Nat) (w : World) (h0 : w.cell? ⟨b, 0, none⟩ = some (.pointer (some ⟨b, 0, none⟩))) :
    Calls Tryd.prog 64 #[.pointer (some ⟨b, 0, none⟩)] w fun e w' => e = .returned (.tuple #[]) ∧ w' = w := by
  obtain ⟨j, hj, _⟩ := Option.map_eq_some_iff.1 sizeBuilder
  go_enter Tryd.func64, Tryd.ntmps64
  go_wp2
  rw [Lib.run_neq_ptr_same w _ Tryd.underlying69 hj]
  go_wp2
  go_end0
  exact ⟨rfl, rfl⟩
set_option maxRecDepth 100000 in
set_option maxHeartbeats 1000000 in
theorem copyCheck_fresh (b : Nat) (w : World) (h0 : w.cell? ⟨b, 0, none⟩ = some (.pointer none)) (hsh : w.shape? b = some (74, 2)) (hfz : w.frozen? ⟨b, 0, none⟩ = false) :
    Calls Tryd.prog 64 #[.pointer (some ⟨b, 0, none⟩)] w fun e w' => e = .returned (.tuple #[]) ∧ w' = w.setCell ⟨b, 0, none⟩ (.pointer (some ⟨b, 0, none⟩)) := by
  obtain ⟨j, hj, hjs⟩ := Option.map_eq_some_iff.1 sizeBuilder
  go_enter Tryd.func64, Tryd.ntmps64
  go_wp2
  rw [Lib.run_to_unsafe w ⟨b, 0, none⟩ Tryd.underlying69 Tryd.underlying117 hj (by rw [hjs]; decide) hsh (Nat.zero_lt_succ 1)]
  simp only [Result.andThen]
  rw [Oper.upon_value]
  go_wp2
  rw [run_callFunc_extern Tryd.func84 (by kernel_rfl) (by kernel_rfl) (by kernel_rfl) (e := Extern.AbiNoEscape.same) (by kernel_rfl)]
  rw [Lib.run_noEscape]
  simp only [Result.andThen]
  rw [Oper.upon_value]
  go_wp2
  rw [Lib.run_from_unsafe w ⟨b, 0, none⟩ Tryd.underlying117 Tryd.underlying69 hj hsh liesWriter]
  simp only [Result.andThen]
  rw [Oper.upon_value]
  go_wp2
  go_end0
  exact ⟨rfl, rfl⟩
theorem copyCheck_any (b : Nat) (l : List UInt8) (w : World) (h : Wr b l w) :
    Calls Tryd.prog 64 #[.pointer (some ⟨b, 0, none⟩)] w fun e w' => e = .returned (.tuple #[]) ∧ Lib.BuilderAtF 74 5 b b (.pointer (some ⟨b, 0, none⟩)) (Lib.byteCells l) w' ∧ Fr b w w' := by
  rcases h with h | h
  · refine (copyCheck_fresh b w h.cell0 h.shape h.frozen0).mono ?_
    rintro e w' ⟨rfl, rfl⟩
    exact ⟨rfl, h.used _, (Below.refl b w).setCell (p := ⟨b, 0, none⟩) h.1 _, (Lib.OthersKept.refl _ _ w).setCell ⟨b, 0, none⟩ rfl _⟩
  · refine (copyCheck_used b w h.cell0).mono ?_
    rintro e w' ⟨rfl, rfl⟩
    exact ⟨rfl, h, Fr.refl _ _⟩

set_option maxRecDepth 100000 in
set_option maxHeartbeats 2000000 in
theorem wbyte (b : Nat) (l : List UInt8) (c : Int) (u : UInt8) (hu : c = u.toNat) (w : World) (h : Wr b l w) (hlen : l.length + 1 ≤ 140737488355328) :
    Calls Tryd.prog 40 #[.pointer (some ⟨b, 0, none⟩), .int .u8 c] w fun e w' => e = .returned .nilIface ∧ Wr b (l ++ [u]) w' ∧ Fr b w w' := by
  subst hu
  obtain ⟨i0, hi, hz0, hz1, hz2⟩ := info_parts infoByte
  go_enter Tryd.func40, Tryd.ntmps40
  go_wp2_with (go_at_call 64; refine (copyCheck_any b l _ h).mono ?_)
  rintro e w1 ⟨rfl, h1, hb1, hk1⟩
  have hwlt := h.lt
  obtain ⟨hB, v, hbk, hown, hne⟩ := h1
  have c0 : w1.cell? ⟨b, 0, none⟩ = some (.pointer (some ⟨b, 0, none⟩)) := by rw [Lib.cell_of_heap hbk]; rfl
  have c1 : w1.cell? ⟨b, 1, none⟩ = some v := by rw [Lib.cell_of_heap hbk]; rfl
  go_wp2_with (at_builtin; refine wpList_append_ownF _ rfl _ _ 70 rfl b 5 i0 (.int .u8 0) 1 1 Tryd.underlying70 hi hz0 hz1 hz2 rfl (by decide) _ _ _ rfl (hown.alloc _) ⟨w1.heap.size, 0, none⟩ 1 1 [.int .u8 (u.toNat : Int)] rfl rfl ?c1 ?c2 ?c3 ?c4 ?c5 ?_)
  case c1 =>
    intro j u hu
    match j, hu with
    | 0, hj => simp at hj; subst hj; simp [Addr.add]
  case c2 => intro u hu; simp at hu; subst hu; rfl
  case c3 => rw [Lib.byteCells_length]; unfold maxLen; omega
  case c4 => rw [Lib.byteCells_length]; omega
  case c5 => have := hb1.size; simp; omega
  intro v' w2 hown' hgrow _
  have hlt : b < w1.heap.size := by have := hb1.size; omega
  have hb2 : w2.heap[b]? = some (.cells #[.pointer (some ⟨b, 0, none⟩), v] 74 (0, 0)) := by
    rw [hgrow.block b (by simp; omega) (fun e => hne e.symm), Lib.alloc_old w1 _ b hlt]
    exact hbk
  have d0 : w2.cell? ⟨b, 0, none⟩ = some (.pointer (some ⟨b, 0, none⟩)) := by rw [Lib.cell_of_heap hb2]; rfl
  have d1 : w2.cell? ⟨b, 1, none⟩ = some v := by rw [Lib.cell_of_heap hb2]; rfl
  have f1 : w2.frozen? ⟨b, 1, none⟩ = false := Lib.frozen_of_heap hb2 1
  obtain ⟨g, cap, rfl⟩ : ∃ g cap, v' = .slice (some ⟨g, 0, none⟩) ((Lib.byteCells l).length + 1) cap := by
    rcases hown'.2 with ⟨_, h0⟩ | ⟨g, cap, cur, fz, hv, _⟩
    · omega
    · exact ⟨g, cap, hv⟩
  go_wp2
  go_ret
  refine ⟨rfl, .inr ?_, ?_, ((hk1.alloc _).grown hgrow (Lib.ownsRowF_kind (hown.alloc _))).setCell ⟨b, 1, none⟩ rfl _⟩
  · have hx : Lib.byteCells (l ++ [u]) = Lib.byteCells l ++ [.int .u8 (u.toNat : Int)] := by simp [Lib.byteCells]
    rw [hx]
    exact Lib.BuilderAtF.put (T := 74) (e := 5) hB hb2 (bs' := Lib.byteCells l ++ [.int .u8 (u.toNat : Int)]) (by simpa using hown') (by decide)
  · exact ((hb1.alloc (by have := hb1.size; omega) _).grown hgrow (by have := hb1.size; simp; omega) (fun k hk => (hown.lt k hk).1)).setCell (p := ⟨b, 1, none⟩) hB _

set_option maxRecDepth 100000 in
set_option maxHeartbeats 2000000 in
theorem wstr (b : Nat) (l : List UInt8) (s : ByteArray) (w : World) (h : Wr b l w) (hlen : l.length + s.size ≤ 140737488355328) :
    Calls Tryd.prog 39 #[.pointer (some ⟨b, 0, none⟩), .string s] w fun e w' => e = .returned (.tuple #[.int .i64 s.size, .nilIface]) ∧ Wr b (l ++ s.data.toList) w' ∧ Fr b w w' := by
  obtain ⟨i0, hi, hz0, hz1, hz2⟩ := info_parts infoByte
  go_enter Tryd.func39, Tryd.ntmps39
  go_wp2_with (go_at_call 64; refine (copyCheck_any b l _ h).mono ?_)
  rintro e w1 ⟨rfl, h1, hb1, hk1⟩
  have hwlt := h.lt
  obtain ⟨hB, v, hbk, hown, hne⟩ := h1
  have c0 : w1.cell? ⟨b, 0, none⟩ = some (.pointer (some ⟨b, 0, none⟩)) := by rw [Lib.cell_of_heap hbk]; rfl
  have c1 : w1.cell? ⟨b, 1, none⟩ = some v := by rw [Lib.cell_of_heap hbk]; rfl
  go_wp2_with (at_builtin; refine Lib.wpList_append_own_stringF _ rfl _ _ 70 9 rfl b 5 i0 Tryd.underlying70 Tryd.underlying9 hi hz0 hz1 hz2 _ _ _ rfl hown s rfl ?c3 ?c4 ?c5 ?_)
  case c3 => rw [Lib.byteCells_length]; unfold maxLen; omega
  case c4 => rw [Lib.byteCells_length]; omega
  case c5 => have := hb1.size; omega
  intro v' w2 hown' hgrow _
  have hlt : b < w1.heap.size := by have := hb1.size; omega
  have hb2 : w2.heap[b]? = some (.cells #[.pointer (some ⟨b, 0, none⟩), v] 74 (0, 0)) := by
    rw [hgrow.block b hlt (fun e => hne e.symm)]
    exact hbk
  have d0 : w2.cell? ⟨b, 0, none⟩ = some (.pointer (some ⟨b, 0, none⟩)) := by rw [Lib.cell_of_heap hb2]; rfl
  have d1 : w2.cell? ⟨b, 1, none⟩ = some v := by rw [Lib.cell_of_heap hb2]; rfl
  have f1 : w2.frozen? ⟨b, 1, none⟩ = false := Lib.frozen_of_heap hb2 1
  obtain ⟨ao, n', cap, rfl⟩ : ∃ ao n' cap, v' = .slice ao n' cap := by
    rcases hown'.2 with ⟨hv, _⟩ | ⟨g, cap, cur, fz, hv, _⟩
    · exact ⟨_, _, _, hv⟩
    · exact ⟨_, _, _, hv⟩
  go_wp2
  go_ret2
  refine ⟨rfl, .inr ?_, ?_, (hk1.grown hgrow (Lib.ownsRowF_kind hown)).setCell ⟨b, 1, none⟩ rfl _⟩
  · have hx : Lib.byteCells (l ++ s.data.toList) = Lib.byteCells l ++ Lib.strCells s := by rw [Lib.strCells_eq]; simp [Lib.byteCells]
    rw [hx]
    exact Lib.BuilderAtF.put (T := 74) (e := 5) hB hb2 (bs' := Lib.byteCells l ++ Lib.strCells s) (by simpa [Lib.strCells_length] using hown') (by decide)
  · exact (hb1.grown hgrow (by have := hb1.size; omega) (fun k hk => (hown.lt k hk).1)).setCell (p := ⟨b, 1, none⟩) hB _
theorem cellsByte : Tryd.prog.cellsOf 5 = 1 := by kernel_rfl
set_option maxRecDepth 100000 in
set_option maxHeartbeats 2000000 in
theorem bstring (b : Nat) (l : List UInt8) (w : World) (h : Wr b l w) (h0 : l ≠ []) :
    Calls Tryd.prog 41 #[.pointer (some ⟨b, 0, none⟩)] w fun e w' => e = .returned (.string ⟨l.toArray⟩) ∧ Wr b l w' ∧ Fr b w w' := by
  obtain ⟨p, hp, hAt⟩ : ∃ p, (p = .pointer none ∨ p = .pointer (some ⟨b, 0, none⟩)) ∧ Lib.BuilderAtF 74 5 b b p (Lib.byteCells l) w := by
    rcases h with h | h
    · exact ⟨_, .inl rfl, h⟩
    · exact ⟨_, .inr rfl, h⟩
  obtain ⟨hB, v, hbk, hown, hne⟩ := hAt
  have hl0 : l.length ≠ 0 := by simpa using h0
  rw [Lib.byteCells_length] at hown
  obtain ⟨g, cap, cur, fz, rfl, hbg, hg, hfz, hnc, hcm, hcs, htake⟩ : ∃ g cap cur fz, v = .slice (some ⟨g, 0, none⟩) l.length cap ∧ b ≤ g ∧ w.heap[g]? = some (.cells cur 5 fz) ∧ fz.2 ≤ l.length * 1 ∧ l.length ≤ cap ∧ cap ≤ maxLen ∧ cur.size = cap * 1 ∧ cur.toList.take (l.length * 1) = Lib.byteCells l := by
    rcases hown.2 with ⟨_, hz⟩ | ⟨g, cap, cur, fz, hv, r⟩
    · exact absurd hz hl0
    · exact ⟨g, cap, cur, fz, hv, r⟩
  have c1 : w.drew.cell? ⟨b, 1, none⟩ = some (.slice (some ⟨g, 0, none⟩) l.length cap) := by
    have : w.drew.heap[b]? = some (.cells #[p, .slice (some ⟨g, 0, none⟩) l.length cap] 74 (0, 0)) := hbk
    rw [Lib.cell_of_heap this]; rfl
  have hSD : (Builtin.unsafeSliceData_ #[70] 105 #[.slice (some ⟨g, 0, none⟩) l.length cap]).run Tryd.prog w.drew = .ok (.pointer (some ⟨g, 0, none⟩)) w.drew :=
    Lib.run_unsafeSliceData_row _ _ _ _ _ _ (by omega)
  have hUS : (Builtin.unsafeString_ #[105, 3] 9 #[.pointer (some ⟨g, 0, none⟩), .int .i64 l.length]).run Tryd.prog w.drew = .ok (.string ⟨l.toArray⟩) (w.drew.freeze ⟨g, 0, none⟩ l.length) := by
    refine Lib.run_unsafeString_row w.drew 105 3 9 5 Tryd.underlying105 cellsByte g cur.size (by have hg' : w.drew.heap[g]? = some (.cells cur 5 fz) := hg; simp [World.shape?, hg']) l h0 (by omega) (by unfold maxLen at hcm; omega) ?_
    intro j x hx
    have := hown.cells (g := g) rfl j (.int .u8 x.toNat) (by simp [Lib.byteCells, hx])
    exact this
  have hkeep : Wr b l (w.drew.freeze ⟨g, 0, none⟩ l.length) := by
    have hA : Lib.BuilderAtF 74 5 b b p (Lib.byteCells l) w.drew := ⟨hB, _, hbk, by rw [Lib.byteCells_length]; exact hown, hne⟩
    have hF := hA.froze (g := g) (cap := cap) (by rw [Lib.byteCells_length]; exact c1)
    rw [Lib.byteCells_length] at hF
    rcases hp with rfl | rfl
    · exact .inl hF
    · exact .inr hF
  have mixed : Tryd.prog.follows Departure.mixedOrders = true := by kernel_rfl
  go_enter Tryd.func41, Tryd.ntmps41
  go_wp2
  go_region_o
  all_goals (go_wp2; go_ret; exact ⟨rfl, hkeep, Lib.below_freeze (Below.drew (Below.refl b w)) (p := ⟨g, 0, none⟩) hbg _, ((Lib.OthersKept.refl _ _ w).drew).freeze ⟨g, 0, none⟩ _ ⟨cur, fz, hg⟩⟩)
set_option maxRecDepth 100000 in
set_option maxHeartbeats 2000000 in
theorem bstring_fresh (b : Nat) (p : Value) (w : World) (hbk : w.heap[b]? = some (.cells #[p, .slice none 0 0] 74 (0, 0))) :
    Calls Tryd.prog 41 #[.pointer (some ⟨b, 0, none⟩)] w fun e w' => e = .returned (.string ⟨#[]⟩) ∧ Fr b w w' := by
  have hUS : (Builtin.unsafeString_ #[105, 3] 9 #[.pointer none, .int .i64 0]).run Tryd.prog w.drew = .ok (.string ⟨#[]⟩) w.drew := Lib.run_unsafeString_none _ _ _ _ _
  have c1 : w.drew.cell? ⟨b, 1, none⟩ = some (.slice none 0 0) := by
    have : w.drew.heap[b]? = some (.cells #[p, .slice none 0 0] 74 (0, 0)) := hbk
    rw [Lib.cell_of_heap this]; rfl
  have hSD : (Builtin.unsafeSliceData_ #[70] 105 #[.slice none 0 0]).run Tryd.prog w.drew = .ok (.pointer none) w.drew := rfl
  have mixed : Tryd.prog.follows Departure.mixedOrders = true := by kernel_rfl
  go_enter Tryd.func41, Tryd.ntmps41
  go_wp2
  go_region_o
  all_goals (go_wp2; go_ret; exact ⟨rfl, Below.drew (Below.refl b w), (Lib.OthersKept.refl _ _ w).drew⟩)
end Go.Proofs.YtekdcmplcjgonaaDoor

/- The walks of a variable's letters, and a name's. -/
namespace Go.Proofs.YtekdcmplcjgonaaDoor
open Go.RowKit

theorem one_byte (w : World) (z : Int) (x : UInt8) (hz : z = x.toNat) : (convert 70 9 (.slice (some ⟨w.heap.size, 0, none⟩) 1 1)).run Tryd.prog (w.alloc (.cells #[.int .u8 z] 5)) = .ok (.string ⟨#[x]⟩) (w.alloc (.cells #[.int .u8 z] 5)) := by
  refine run_convert_bytes_back (P := Tryd.prog) _ 70 9 5 ⟨w.heap.size, 0, none⟩ 1 [x] Tryd.underlying70 Tryd.underlying5 Tryd.underlying9 ?_
  intro j hj
  have : j = 0 := by simp at hj; exact hj
  subst this
  subst hz
  simp [Addr.add]
theorem cat (a b : List UInt8) : (⟨a.toArray⟩ : ByteArray) ++ ⟨b.toArray⟩ = ⟨(a ++ b).toArray⟩ := by
  apply ByteArray.ext
  simp
theorem nDigits_le : ∀ (k u : Nat), u ≤ k → Lib.nDigits u ≤ u + 1
  | 0, u, h => by rw [Lib.nDigits_small (by omega)]; omega
  | k + 1, u, h => by
    by_cases h1 : u < 10
    · rw [Lib.nDigits_small h1]; omega
    · rw [Lib.nDigits_big h1]
      have := nDigits_le k (u / 10) (by omega)
      omega
theorem dec_len (u : Nat) : (Lib.decDigits u).length ≤ u + 1 := by rw [Lib.decDigits_length]; exact nDigits_le u u (Nat.le_refl _)
set_option maxRecDepth 100000 in
set_option maxHeartbeats 2000000 in
theorem pVarName_any (n : Nat) (hn : n ≤ 999) (w : World) : Calls Tryd.prog 23 #[.int .i64 n] w fun e w' => e = .returned (.string ⟨(varName n).toArray⟩) ∧ Below w.heap.size w w' := by
  obtain ⟨x, hx⟩ : ∃ x, UInt8.ofNat (65 + n % 26) = x := ⟨_, rfl⟩
  obtain ⟨m, hm⟩ : ∃ m, n / 26 = m := ⟨_, rfl⟩
  have hv := one_byte w (65 + (n : Int) % 26) x (by rw [← hx]; have : n % 26 < 26 := Nat.mod_lt _ (by decide); simp; omega)
  have hb : Below w.heap.size w (w.alloc (.cells #[.int .u8 (65 + (n : Int) % 26)] 5)) := (Below.refl _ _).alloc (Nat.le_refl _) _
  by_cases h : n < 26
  · have h1 : decide ((26 : Int) ≤ (n : Int)) = false := by simp; omega
    go_enter Tryd.func23, Tryd.ntmps23
    go_wp2
    go_ret
    refine ⟨?_, hb⟩
    rw [varName, if_pos h, hx]
    rfl
  · have h1 : decide ((26 : Int) ≤ (n : Int)) = true := by simp; omega
    have h2 : (n : Int).tdiv 26 = (m : Int) := by rw [Int.tdiv_eq_ediv_of_nonneg (by omega)]; omega
    have h3 : (n : Int) / 26 = (m : Int) := by omega
    have h4 : ¬ 9223372036854775807 < 1 + (Lib.decDigits m).length := by have := dec_len m; omega
    go_enter Tryd.func23, Tryd.ntmps23
    go_wp2_with (go_at_call 47; refine (Tryd.strconv_Itoa_small m (by omega) _).mono ?_; rintro e w' ⟨rfl, rfl⟩)
    go_ret
    refine ⟨?_, hb⟩
    rw [varName, if_neg h, hx, hm]
    exact congrArg (fun z => Ending.returned (Value.string z)) (cat [x] _)

theorem pis_any (A : Option Addr) (k cap : Nat) (t : List C) (c : C) (s : ByteArray) (n : Int) (w : World) (h : IsC w A k cap t) (hc : t[0]? = some c) :
    Calls Tryd.prog 61 #[.slice A k cap, .string s, .int .i64 n] w fun e w' => e = .returned (.bool (c.kind == 3 && (c.name.data.toList == s.data.toList && c.n == n))) ∧ w' = w := by
  obtain ⟨b, off, rfl, hb, hw, c0, c1, c2⟩ := h.at_ hc
  rw [Nat.zero_mul, Nat.add_zero] at c0
  have hk : 0 < k := by have := h.len; have := (List.getElem?_eq_some_iff.1 hc).1; omega
  go_enter Tryd.func61, Tryd.ntmps61
  go_wp2
  all_goals (go_ret; refine ⟨ret_bool ?_, rfl⟩; simp [ByteArray.toList_eq] at *; simp [*])

theorem low_iff (x : UInt8) : lowB x = (decide ((97 : Int) ≤ x.toNat) && decide ((x.toNat : Int) ≤ 122)) := by
  unfold lowB
  congr 1
  · exact decide_eq_decide.2 (by rw [UInt8.le_iff_toNat_le]; simp; omega)
  · exact decide_eq_decide.2 (by rw [UInt8.le_iff_toNat_le]; simp; omega)
theorem rest_iff (x : UInt8) : restB x = (((decide ((65 : Int) ≤ x.toNat) && decide ((x.toNat : Int) ≤ 90)) || (decide ((48 : Int) ≤ x.toNat) && decide ((x.toNat : Int) ≤ 57))) || (x.toNat : Int) == 95) := by
  unfold restB
  rw [Bool.eq_iff_iff]
  simp only [Bool.or_eq_true, Bool.and_eq_true, decide_eq_true_eq, beq_iff_eq, UInt8.le_iff_toNat_le, ← UInt8.toNat_inj]
  simp
  omega
theorem classes (x : UInt8) (z : Int) (hz : (x.toNat : Int) = z) :
    (decide ((97 : Int) ≤ z) = false ∧ decide (z ≤ (122 : Int)) = true ∧ decide ((65 : Int) ≤ z) = false ∧ decide (z ≤ (90 : Int)) = true ∧ decide ((48 : Int) ≤ z) = false ∧ decide (z ≤ (57 : Int)) = true ∧ (z == 95) = false ∧ lowB x = false ∧ restB x = false) ∨
    (decide ((97 : Int) ≤ z) = false ∧ decide (z ≤ (122 : Int)) = true ∧ decide ((65 : Int) ≤ z) = false ∧ decide (z ≤ (90 : Int)) = true ∧ decide ((48 : Int) ≤ z) = true ∧ decide (z ≤ (57 : Int)) = true ∧ (z == 95) = false ∧ lowB x = false ∧ restB x = true) ∨
    (decide ((97 : Int) ≤ z) = false ∧ decide (z ≤ (122 : Int)) = true ∧ decide ((65 : Int) ≤ z) = false ∧ decide (z ≤ (90 : Int)) = true ∧ decide ((48 : Int) ≤ z) = true ∧ decide (z ≤ (57 : Int)) = false ∧ (z == 95) = false ∧ lowB x = false ∧ restB x = false) ∨
    (decide ((97 : Int) ≤ z) = false ∧ decide (z ≤ (122 : Int)) = true ∧ decide ((65 : Int) ≤ z) = true ∧ decide (z ≤ (90 : Int)) = true ∧ decide ((48 : Int) ≤ z) = true ∧ decide (z ≤ (57 : Int)) = false ∧ (z == 95) = false ∧ lowB x = false ∧ restB x = true) ∨
    (decide ((97 : Int) ≤ z) = false ∧ decide (z ≤ (122 : Int)) = true ∧ decide ((65 : Int) ≤ z) = true ∧ decide (z ≤ (90 : Int)) = false ∧ decide ((48 : Int) ≤ z) = true ∧ decide (z ≤ (57 : Int)) = false ∧ (z == 95) = false ∧ lowB x = false ∧ restB x = false) ∨
    (decide ((97 : Int) ≤ z) = false ∧ decide (z ≤ (122 : Int)) = true ∧ decide ((65 : Int) ≤ z) = true ∧ decide (z ≤ (90 : Int)) = false ∧ decide ((48 : Int) ≤ z) = true ∧ decide (z ≤ (57 : Int)) = false ∧ (z == 95) = true ∧ lowB x = false ∧ restB x = true) ∨
    (decide ((97 : Int) ≤ z) = false ∧ decide (z ≤ (122 : Int)) = true ∧ decide ((65 : Int) ≤ z) = true ∧ decide (z ≤ (90 : Int)) = false ∧ decide ((48 : Int) ≤ z) = true ∧ decide (z ≤ (57 : Int)) = false ∧ (z == 95) = false ∧ lowB x = false ∧ restB x = false) ∨
    (decide ((97 : Int) ≤ z) = true ∧ decide (z ≤ (122 : Int)) = true ∧ decide ((65 : Int) ≤ z) = true ∧ decide (z ≤ (90 : Int)) = false ∧ decide ((48 : Int) ≤ z) = true ∧ decide (z ≤ (57 : Int)) = false ∧ (z == 95) = false ∧ lowB x = true ∧ restB x = false) ∨
    (decide ((97 : Int) ≤ z) = true ∧ decide (z ≤ (122 : Int)) = false ∧ decide ((65 : Int) ≤ z) = true ∧ decide (z ≤ (90 : Int)) = false ∧ decide ((48 : Int) ≤ z) = true ∧ decide (z ≤ (57 : Int)) = false ∧ (z == 95) = false ∧ lowB x = false ∧ restB x = false) := by
  rw [low_iff, rest_iff, hz]
  have h1 : 0 ≤ z := by omega
  have h2 : z ≤ 255 := by have := x.toNat_lt; omega
  by_cases c0 : z ≤ 47
  · have t1 : decide ((97 : Int) ≤ z) = false := by simp; omega
    have tl122 : decide (z ≤ (122 : Int)) = true := by simp; omega
    have tg65 : decide ((65 : Int) ≤ z) = false := by simp; omega
    have tl90 : decide (z ≤ (90 : Int)) = true := by simp; omega
    have tg48 : decide ((48 : Int) ≤ z) = false := by simp; omega
    have tl57 : decide (z ≤ (57 : Int)) = true := by simp; omega
    have t95 : (z == 95) = false := by simp; omega
    simp [t1, tl122, tg65, tl90, tg48, tl57, t95]
  by_cases c1 : z ≤ 57
  · have t1 : decide ((97 : Int) ≤ z) = false := by simp; omega
    have tl122 : decide (z ≤ (122 : Int)) = true := by simp; omega
    have tg65 : decide ((65 : Int) ≤ z) = false := by simp; omega
    have tl90 : decide (z ≤ (90 : Int)) = true := by simp; omega
    have tg48 : decide ((48 : Int) ≤ z) = true := by simp; omega
    have tl57 : decide (z ≤ (57 : Int)) = true := by simp; omega
    have t95 : (z == 95) = false := by simp; omega
    simp [t1, tl122, tg65, tl90, tg48, tl57, t95]
  by_cases c2 : z ≤ 64
  · have t1 : decide ((97 : Int) ≤ z) = false := by simp; omega
    have tl122 : decide (z ≤ (122 : Int)) = true := by simp; omega
    have tg65 : decide ((65 : Int) ≤ z) = false := by simp; omega
    have tl90 : decide (z ≤ (90 : Int)) = true := by simp; omega
    have tg48 : decide ((48 : Int) ≤ z) = true := by simp; omega
    have tl57 : decide (z ≤ (57 : Int)) = false := by simp; omega
    have t95 : (z == 95) = false := by simp; omega
    simp [t1, tl122, tg65, tl90, tg48, tl57, t95]
  by_cases c3 : z ≤ 90
  · have t1 : decide ((97 : Int) ≤ z) = false := by simp; omega
    have tl122 : decide (z ≤ (122 : Int)) = true := by simp; omega
    have tg65 : decide ((65 : Int) ≤ z) = true := by simp; omega
    have tl90 : decide (z ≤ (90 : Int)) = true := by simp; omega
    have tg48 : decide ((48 : Int) ≤ z) = true := by simp; omega
    have tl57 : decide (z ≤ (57 : Int)) = false := by simp; omega
    have t95 : (z == 95) = false := by simp; omega
    simp [t1, tl122, tg65, tl90, tg48, tl57, t95]
  by_cases c4 : z ≤ 94
  · have t1 : decide ((97 : Int) ≤ z) = false := by simp; omega
    have tl122 : decide (z ≤ (122 : Int)) = true := by simp; omega
    have tg65 : decide ((65 : Int) ≤ z) = true := by simp; omega
    have tl90 : decide (z ≤ (90 : Int)) = false := by simp; omega
    have tg48 : decide ((48 : Int) ≤ z) = true := by simp; omega
    have tl57 : decide (z ≤ (57 : Int)) = false := by simp; omega
    have t95 : (z == 95) = false := by simp; omega
    simp [t1, tl122, tg65, tl90, tg48, tl57, t95]
  by_cases c5 : z ≤ 95
  · have t1 : decide ((97 : Int) ≤ z) = false := by simp; omega
    have tl122 : decide (z ≤ (122 : Int)) = true := by simp; omega
    have tg65 : decide ((65 : Int) ≤ z) = true := by simp; omega
    have tl90 : decide (z ≤ (90 : Int)) = false := by simp; omega
    have tg48 : decide ((48 : Int) ≤ z) = true := by simp; omega
    have tl57 : decide (z ≤ (57 : Int)) = false := by simp; omega
    have t95 : (z == 95) = true := by simp; omega
    simp [t1, tl122, tg65, tl90, tg48, tl57, t95]
  by_cases c6 : z ≤ 96
  · have t1 : decide ((97 : Int) ≤ z) = false := by simp; omega
    have tl122 : decide (z ≤ (122 : Int)) = true := by simp; omega
    have tg65 : decide ((65 : Int) ≤ z) = true := by simp; omega
    have tl90 : decide (z ≤ (90 : Int)) = false := by simp; omega
    have tg48 : decide ((48 : Int) ≤ z) = true := by simp; omega
    have tl57 : decide (z ≤ (57 : Int)) = false := by simp; omega
    have t95 : (z == 95) = false := by simp; omega
    simp [t1, tl122, tg65, tl90, tg48, tl57, t95]
  by_cases c7 : z ≤ 122
  · have t1 : decide ((97 : Int) ≤ z) = true := by simp; omega
    have tl122 : decide (z ≤ (122 : Int)) = true := by simp; omega
    have tg65 : decide ((65 : Int) ≤ z) = true := by simp; omega
    have tl90 : decide (z ≤ (90 : Int)) = false := by simp; omega
    have tg48 : decide ((48 : Int) ≤ z) = true := by simp; omega
    have tl57 : decide (z ≤ (57 : Int)) = false := by simp; omega
    have t95 : (z == 95) = false := by simp; omega
    simp [t1, tl122, tg65, tl90, tg48, tl57, t95]
  have t1 : decide ((97 : Int) ≤ z) = true := by simp; omega
  have tl122 : decide (z ≤ (122 : Int)) = false := by simp; omega
  have tg65 : decide ((65 : Int) ≤ z) = true := by simp; omega
  have tl90 : decide (z ≤ (90 : Int)) = false := by simp; omega
  have tg48 : decide ((48 : Int) ≤ z) = true := by simp; omega
  have tl57 : decide (z ≤ (57 : Int)) = false := by simp; omega
  have t95 : (z == 95) = false := by simp; omega
  simp [t1, tl122, tg65, tl90, tg48, tl57, t95]
end Go.Proofs.YtekdcmplcjgonaaDoor

/- The walks that ask whether a name needs quotes, and that lay them. -/
namespace Go.Proofs.YtekdcmplcjgonaaDoor
open Go.RowKit

theorem str_get (s : ByteArray) {k : Nat} (h : k < s.size) : s.data.toList[k]? = some s[k] := by
  rw [List.getElem?_eq_getElem (by simpa using h)]
  rfl
theorem string_bytes (w : World) (s : ByteArray) : ∃ cap fr, (convert 9 70 (.string s)).run Tryd.prog w = .ok (.slice (some ⟨w.heap.size, 0, none⟩) s.size cap) (w.drew.alloc (.cells (bytesRow s cap) 5 fr)) ∧ ∀ (k : Nat) (x : UInt8), s.data.toList[k]? = some x → (w.drew.alloc (.cells (bytesRow s cap) 5 fr)).cell? ⟨w.heap.size, k, none⟩ = some (.int .u8 x.toNat) := by
  refine ⟨_, _, run_bytes_of_string w 9 70 5 s Tryd.underlying9 Tryd.underlying70 Tryd.underlying5, fun k x hk => ?_⟩
  have := World.cell?_alloc_mark w.drew (bytesRow s (grownCap w s.size 0 5)) 5 ((bytesRow s (grownCap w s.size 0 5)).size, (bytesRow s (grownCap w s.size 0 5)).size + 1) k
  refine Eq.trans this ?_
  unfold bytesRow
  have hlt : k < s.data.size := by have := (List.getElem?_eq_some_iff.1 hk).1; simpa using this
  rw [Array.getElem?_append_left (by simpa using hlt), Array.getElem?_map]
  rw [Array.getElem?_toList] at hk
  rw [hk]
  rfl

/-- what is left to be asked of a name behind so many letters -/
def plF (k : Nat) (l : List UInt8) : Bool := if k = 0 then plainN l else l.all fun d => lowB d || restB d
theorem plF_cons (k : Nat) (x : UInt8) (l : List UInt8) : plF k (x :: l) = ((if k = 0 then lowB x else lowB x || restB x) && plF (k + 1) l) := by
  unfold plF
  by_cases h : k = 0
  · simp [h, plainN]
  · simp [h]
theorem plF_nil (k : Nat) : plF k [] = true := by unfold plF; split <;> rfl
set_option maxRecDepth 100000 in
set_option maxHeartbeats 8000000 in
theorem plain_any (s : ByteArray) (hs : s.size ≤ 1000) (w : World) : Calls Tryd.prog 46 #[.string s] w fun e w' => e = .returned (.bool (plainN s.data.toList)) ∧ Below w.heap.size w w' := by
  obtain ⟨cap, fr, hconv, hcell⟩ := string_bytes w s
  obtain ⟨W, hW⟩ : ∃ W, w.drew.alloc (.cells (bytesRow s cap) 5 fr) = W := ⟨_, rfl⟩
  have hB : Below w.heap.size w W := by rw [← hW]; exact ((Below.refl _ _).drew).alloc (Nat.le_refl _) _
  rw [hW] at hconv hcell
  have hHB := Lib.hid hB
  clear hW hB
  go_enter Tryd.func46, Tryd.ntmps46
  go_wp2
  go_loopw [10] (fun iv wr => ∃ k : Nat, k ≤ s.size ∧ iv = .int .i64 k ∧ wr = W ∧ Hid (plF k (s.data.toList.drop k) = plainN s.data.toList)) (fun iv _ => s.size - (intOf iv).toNat)
  case atStart => exact ⟨0, Nat.zero_le _, rfl, by first | rfl | trivial, Lib.hid rfl⟩
  case round =>
    obtain ⟨k, hk, rfl, rfl, hp⟩ := hrel
    by_cases hlt : k < s.size
    · obtain ⟨x, hx⟩ : ∃ x, s[k] = x := ⟨_, rfl⟩
      have hg := str_get s hlt
      rw [hx] at hg
      have hc := hcell k x hg
      obtain ⟨z, hz⟩ : ∃ z : Int, (x.toNat : Int) = z := ⟨_, rfl⟩
      have hcl := classes x z hz
      have hd : s.data.toList.drop k = x :: s.data.toList.drop (k + 1) := by rw [drop_cons s k hlt, hx]
      rw [hz] at hc
      have hp' := hp.out
      rw [hd, plF_cons] at hp'
      have Hp := Lib.hid hp'
      have hk0 : ((k : Int) == 0) = decide (k = 0) := by rw [Bool.eq_iff_iff]; simp
      have hlt' : decide ((k : Int) < (s.size : Int)) = true := by simpa using hlt
      clear hx hg hd hp hp' hcell hz hconv
      have hnext : ∀ b : Bool, (if k = 0 then lowB x else lowB x || restB x) = b → (b && plF (k + 1) (s.data.toList.drop (k + 1))) = plainN s.data.toList := fun b hb => by rw [← hb]; exact Hp.out
      clear hk0
      rcases Nat.eq_zero_or_pos k with h0 | hpos
      · subst h0
        rcases hcl with ⟨t1, t2, t3, t4, t5, t6, t7, t8, t9⟩ | ⟨t1, t2, t3, t4, t5, t6, t7, t8, t9⟩ | ⟨t1, t2, t3, t4, t5, t6, t7, t8, t9⟩ | ⟨t1, t2, t3, t4, t5, t6, t7, t8, t9⟩ | ⟨t1, t2, t3, t4, t5, t6, t7, t8, t9⟩ | ⟨t1, t2, t3, t4, t5, t6, t7, t8, t9⟩ | ⟨t1, t2, t3, t4, t5, t6, t7, t8, t9⟩ | ⟨t1, t2, t3, t4, t5, t6, t7, t8, t9⟩ | ⟨t1, t2, t3, t4, t5, t6, t7, t8, t9⟩
        all_goals
          have hn := Lib.hid (hnext _ (by rw [if_pos rfl, t8]))
          clear hnext Hp t8 t9
          go_wp2
          first
            | (go_ret; refine ⟨ret_bool ?_, hHB.out⟩; rw [← hn.out]; rfl)
            | (go_roundw; (case rel => exact ⟨1, by omega, by go_num, by first | rfl | trivial, Lib.hid (by rw [← hn.out]; rfl)⟩); (case measure => simp [intOf]; omega))
      · have hk0' : ((k : Int) == 0) = false := by simp; omega
        have hk0 : ¬ k = 0 := by omega
        rcases hcl with ⟨t1, t2, t3, t4, t5, t6, t7, t8, t9⟩ | ⟨t1, t2, t3, t4, t5, t6, t7, t8, t9⟩ | ⟨t1, t2, t3, t4, t5, t6, t7, t8, t9⟩ | ⟨t1, t2, t3, t4, t5, t6, t7, t8, t9⟩ | ⟨t1, t2, t3, t4, t5, t6, t7, t8, t9⟩ | ⟨t1, t2, t3, t4, t5, t6, t7, t8, t9⟩ | ⟨t1, t2, t3, t4, t5, t6, t7, t8, t9⟩ | ⟨t1, t2, t3, t4, t5, t6, t7, t8, t9⟩ | ⟨t1, t2, t3, t4, t5, t6, t7, t8, t9⟩
        all_goals
          have hn := Lib.hid (hnext _ (by rw [if_neg hk0, t8, t9]))
          clear hnext Hp t8 t9
          go_wp2
          first
            | (go_ret; refine ⟨ret_bool ?_, hHB.out⟩; rw [← hn.out]; rfl)
            | (go_roundw; (case rel => exact ⟨k + 1, by omega, by go_num, by first | rfl | trivial, Lib.hid (by rw [← hn.out]; rfl)⟩); (case measure => simp [intOf]; omega))
    · obtain rfl : k = s.size := by omega
      have hlt' : decide ((s.size : Int) < (s.size : Int)) = false := by simp
      have hp' := hp.out
      rw [List.drop_of_length_le (by simp), plF_nil] at hp'
      have hn := Lib.hid hp'
      clear hp hp' hcell hconv
      go_wp2
      go_ret
      exact ⟨ret_bool hn.out, hHB.out⟩
end Go.Proofs.YtekdcmplcjgonaaDoor

/- The walks that quote a name; that ask whether a name stands between its arguments. -/
namespace Go.Proofs.YtekdcmplcjgonaaDoor
open Go.RowKit

theorem quote_eq (s : ByteArray) (h : plainN s.data.toList = false) : (⟨#[39]⟩ : ByteArray) ++ s ++ ⟨#[39]⟩ = ⟨(quoteN s.data.toList).toArray⟩ := by
  rw [quoteN, if_neg (by simp [h])]
  apply ByteArray.ext
  simp
theorem quote_eq' (s : ByteArray) (h : plainN s.data.toList = true) : s = ⟨(quoteN s.data.toList).toArray⟩ := by
  rw [quoteN, if_pos h]
set_option maxRecDepth 100000 in
set_option maxHeartbeats 4000000 in
theorem pQuote_any (s : ByteArray) (hs : s.size ≤ 1000) (w : World) : Calls Tryd.prog 21 #[.string s] w fun e w' => e = .returned (.string ⟨(quoteN s.data.toList).toArray⟩) ∧ Below w.heap.size w w' := by
  have hplain := fun w => plain_any s hs w
  obtain ⟨q, hq⟩ : ∃ q, plainN s.data.toList = q := ⟨_, rfl⟩
  rw [hq] at hplain
  have h1 : ¬ 9223372036854775807 < 1 + s.size := by omega
  have h2 : ¬ 9223372036854775807 < 1 + s.size + 1 := by omega
  cases q with
  | true =>
    have he := quote_eq' s hq
    rw [← he]
    clear he hq
    go_enter Tryd.func21, Tryd.ntmps21
    go_wp2_with (go_at_call 46; refine (hplain _).mono ?_; rintro e w1 ⟨rfl, hb⟩)
    go_ret
    exact ⟨rfl, hb⟩
  | false =>
    have he := quote_eq s hq
    rw [← he]
    clear he hq
    go_enter Tryd.func21, Tryd.ntmps21
    go_wp2_with (go_at_call 46; refine (hplain _).mono ?_; rintro e w1 ⟨rfl, hb⟩)
    go_ret
    exact ⟨rfl, hb⟩

theorem opN_one (c : UInt8) : decide (0 ≤ Lib.indexByte [61, 60, 43, 45, 42] c) = opN [c] := by
  unfold opN
  by_cases h1 : c = 61
  · subst h1; decide
  by_cases h2 : c = 60
  · subst h2; decide
  by_cases h3 : c = 43
  · subst h3; decide
  by_cases h4 : c = 45
  · subst h4; decide
  by_cases h5 : c = 42
  · subst h5; decide
  simp [Lib.indexByte, h1, h2, h3, h4, h5, Ne.symm h1, Ne.symm h2, Ne.symm h3, Ne.symm h4, Ne.symm h5]
theorem opN_len {l : List UInt8} (h : l.length = 1 → False) : opN l = false := by
  unfold opN
  simp only [Bool.or_eq_false_iff, beq_eq_false_iff_ne, ne_eq]
  refine ⟨⟨⟨⟨?_, ?_⟩, ?_⟩, ?_⟩, ?_⟩ <;> (intro e; exact h (by rw [e]; rfl))
set_option maxRecDepth 100000 in
set_option maxHeartbeats 4000000 in
theorem between_any (c : C) (hc : c.name.size ≤ 1000) (w : World) : Calls Tryd.prog 59 #[c.val] w fun e w' => e = .returned (.bool (c.n == 2 && opN c.name.data.toList)) ∧ Below w.heap.size w w' := by
  have hb : Below w.heap.size w (w.alloc (.cells #[.int .i64 c.kind, .string c.name, .int .i64 c.n] 66)) := (Below.refl _ _).alloc (Nat.le_refl _) _
  by_cases h2 : c.n = 2
  · by_cases h1 : c.name.size = 1
    · obtain ⟨x, hx⟩ : ∃ x, c.name = ⟨#[x]⟩ := by
        obtain ⟨k, ⟨⟨l⟩⟩, n⟩ := c
        match l, h1 with
        | [x], _ => exact ⟨x, rfl⟩
      unfold C.val
      rw [h2, hx] at hb ⊢
      have hop := opN_one x
      go_enter Tryd.func59, Tryd.ntmps59
      go_wp2_with (go_at_call 81; refine (Tryd.strings_Contains_one ⟨#[61, 60, 43, 45, 42]⟩ x _).mono ?_; rintro e w1 ⟨rfl, rfl⟩)
      go_ret
      refine ⟨ret_bool ?_, hb⟩
      rfl
    · have h1' : ((c.name.size : Int) == 1) = false := by simp; omega
      have h1'' : ¬ (c.name.size : Int) = 1 := by omega
      have hop : opN c.name.data.toList = false := opN_len fun h => h1 (by rw [← h]; simp)
      rw [hop]
      unfold C.val at *
      rw [h2] at hb ⊢
      clear hop
      go_enter Tryd.func59, Tryd.ntmps59
      go_wp2
      go_ret
      exact ⟨ret_bool (by rfl), hb⟩
  · have h2' : (c.n == 2) = false := by simpa using h2
    rw [h2', Bool.false_and]
    unfold C.val at *
    go_enter Tryd.func59, Tryd.ntmps59
    go_wp2
    go_ret
    exact ⟨ret_bool (by rfl), hb⟩
end Go.Proofs.YtekdcmplcjgonaaDoor
