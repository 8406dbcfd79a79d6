/- Texts of this proof that belong together: words of memory, plain laws, short walks. -/
import Derived.Test.YtlndjooddkjnoaaB0
import Derived.Test.YtlndjooddkjnoaaRows
import Derived.Test.YtlndjooddkjnoaaT
import Derived.Test.YtlndjooddkjnoaaB1
import Derived.Test.YtlndjooddkjnoaaVars
set_option linter.unusedVariables false
set_option linter.unusedSimpArgs false
/- Words about blocks of memory. No program in sight. -/
namespace Go.Proofs.Ytlndjooddkjnoaa
open Go.RowKit

theorem cells_of {w : World} {b : Nat} {cs : Array Value} {t : TypeId} (h : w.heap[b]? = some (.cells cs t (0, 0))) (k : Nat) : w.cell? ⟨b, k, none⟩ = cs[k]? := cell_of_row w b k cs t (0, 0) h
theorem block_lt {w : World} {b : Nat} {x : Obj} (h : w.heap[b]? = some x) : b < w.heap.size := (Array.getElem?_eq_some_iff.1 h).1

theorem alloc_at {w : World} {g : Nat} {o : Obj} (hg : w.heap.size = g) : (w.alloc o).heap[g]? = some o := by rw [← hg]; exact heap_alloc_new w o
theorem alloc_past {w : World} {g : Nat} {o : Obj} (hg : g < w.heap.size) : (w.alloc o).heap[g]? = w.heap[g]? := heap_alloc_old w o hg
theorem Sl.blk {w : World} {g size n : Nat} {cs : Array Value} {t : TypeId} (h : w.heap[g]? = some (.cells cs t (0, 0))) (hl : cs.size = n * size) (hn : n ≤ maxLen) : Sl w size (some ⟨g, 0, none⟩) n n cs.toList :=
  ⟨by simpa using hl, Nat.le_refl _, hn, fun _ => ⟨g, 0, rfl, block_lt h, fun j u hu => by rw [Nat.zero_add, cells_of h, ← Array.getElem?_toList]; exact hu⟩⟩
theorem frozen_of {w : World} {b : Nat} {cs : Array Value} {t : TypeId} (h : w.heap[b]? = some (.cells cs t (0, 0))) (k : Nat) : w.frozen? ⟨b, k, none⟩ = false := by simp [World.frozen?, h]
theorem set_block {w : World} {b k : Nat} {cs : Array Value} {t : TypeId} (h : w.heap[b]? = some (.cells cs t (0, 0))) (v : Value) : (w.setCell ⟨b, k, none⟩ v).heap[b]? = some (.cells (cs.setIfInBounds k v) t (0, 0)) := by
  simp [World.setCell, Array.getElem?_modify, h]
theorem set_other {w : World} {b k g : Nat} (hne : g ≠ b) (v : Value) : (w.setCell ⟨b, k, none⟩ v).heap[g]? = w.heap[g]? := RowKit.Below.heap_setCell _ _ _ _ hne
theorem own_ne {w : World} {base size n cap g : Nat} {e : TypeId} {A : Option Addr} {xs : List Value} {x : Obj} (h : w.ownsRow base e size (.slice A n cap) n xs) (hx : w.heap[g]? = some x) (hne : ∀ cur, x ≠ .cells cur e (0, 0)) : ∀ a, A = some a → a.block ≠ g := by
  intro a ha hg
  rcases h.2 with ⟨h1, _⟩ | ⟨g', cap', cur, h1, _, h2, _⟩
  · injection h1 with h1; rw [ha] at h1; cases h1
  · injection h1 with h1
    rw [ha] at h1
    injection h1 with h1
    rw [h1] at hg
    simp at hg
    subst hg
    rw [hx] at h2
    injection h2 with h2
    exact hne cur h2

theorem own_at {w w' : World} {base size n cap : Nat} {e : TypeId} {A : Option Addr} {xs : List Value} (h : w.ownsRow base e size (.slice A n cap) n xs) (hk : ∀ a, A = some a → w'.heap[a.block]? = w.heap[a.block]?) : w'.ownsRow base e size (.slice A n cap) n xs := by
  refine ⟨h.1, ?_⟩
  rcases h.2 with h2 | ⟨g, cap', cur, hv, hg, hh, r⟩
  · exact .inl h2
  · refine .inr ⟨g, cap', cur, hv, hg, ?_, r⟩
    injection hv with hv
    have := hk _ hv
    simp at this
    rw [this]
    exact hh
theorem open2 {w : World} {b : Nat} {v0 v1 : Value} {t : TypeId} (h : w.heap[b]? = some (.cells #[v0, v1] t (0, 0))) :
    w.cell? ⟨b, 0, none⟩ = some v0 ∧ w.cell? ⟨b, 1, none⟩ = some v1 ∧ b < w.heap.size := ⟨cells_of h 0, cells_of h 1, block_lt h⟩
theorem open3 {w : World} {b : Nat} {v0 v1 v2 : Value} {t : TypeId} (h : w.heap[b]? = some (.cells #[v0, v1, v2] t (0, 0))) :
    w.cell? ⟨b, 0, none⟩ = some v0 ∧ w.cell? ⟨b, 1, none⟩ = some v1 ∧ w.cell? ⟨b, 2, none⟩ = some v2 ∧ b < w.heap.size := ⟨cells_of h 0, cells_of h 1, cells_of h 2, block_lt h⟩
theorem wp_world' {P : Program} {c : Code} {Q : Exit → Act → World → Prop} {a : Act} {w : World} (Φ : World → Prop) (h : Φ w) (k : ∀ X, Φ X → c.wp P Q a X) : c.wp P Q a w := k w h
end Go.Proofs.Ytlndjooddkjnoaa

/- The walks of the heap's small functions: whether a place leads on, where it leads, what it is when followed. -/
namespace Go.Proofs.Ytlndjooddkjnoaa
open Go.RowKit

/-- a bound variable -/
def bndB (l : List C) (p : Nat) : Bool := (sAt l p).kind == 1 && !((sAt l p).n == (p : Int))
theorem on_bnd (l : List C) (p : Nat) : onB l p = (bndB l p || (sAt l p).kind == 3) := rfl

set_option maxHeartbeats 400000 in
theorem hbound_any (A : Option Addr) (n cap : Nat) (l : List C) (p : Nat) (w : World) (h : IsC w A n cap l) (hn : n ≤ 100000) (hp : p < n) :
    Calls Try.prog 43 #[.slice A n cap, .int .i64 p] w fun e w' => e = .returned (.bool (bndB l p)) ∧ w = w' := by
  obtain ⟨c, hc⟩ := h.get hp
  obtain ⟨b, off, rfl, hb, hwf, h0, h1, h2⟩ := h.at_ hc
  have hs := sAt_get hc
  have Hs := Lib.hid hs
  clear hs hc
  by_cases k : c.kind = 1
  · have hk : (c.kind == 1) = true := by simp [k]
    have Hk := Lib.hid hk
    by_cases e : c.n = (p : Int)
    · have he : (c.n == (p : Int)) = true := by simp [e]
      have he2 : (c.n != (p : Int)) = false := by simp [e]
      have He := Lib.hid he
      clear k e
      go_enter Try.func43, Try.ntmps43
      go_wp2
      go_ret
      exact ⟨ret_bool (by simp only [bndB, Hs.out, Hk.out, He.out]; rfl), rfl⟩
    · have he : (c.n == (p : Int)) = false := by simp [e]
      have he2 : (c.n != (p : Int)) = true := by simp [e]
      have He := Lib.hid he
      clear k e
      go_enter Try.func43, Try.ntmps43
      go_wp2
      go_ret
      exact ⟨ret_bool (by simp only [bndB, Hs.out, Hk.out, He.out]; rfl), rfl⟩
  · have hk : (c.kind == 1) = false := by simp [k]
    have Hk := Lib.hid hk
    clear k
    go_enter Try.func43, Try.ntmps43
    go_wp2
    go_ret
    exact ⟨ret_bool (by simp only [bndB, Hs.out, Hk.out]; rfl), rfl⟩

set_option maxHeartbeats 1000000 in
theorem hfollow_any (A : Option Addr) (n cap : Nat) (l : List C) (p : Nat) (w : World) (h : IsC w A n cap l) (hg : Good l) (hn : n ≤ 100000) (hp : p < n) :
    Calls Try.prog 59 #[.slice A n cap, .int .i64 p] w fun e w' => e = .returned (.int .i64 (fol l p : Nat)) ∧ w = w' := by
  have hl := h.len
  have Hl := Lib.hid hl
  clear hl
  have hrk := hg.ac.bounded
  obtain ⟨rk, hr1, hr2⟩ := hrk
  have Hr2 := Lib.hid hr2
  have Hg := Lib.hid hg
  clear hr1 hr2 hg
  go_enter Try.func59, Try.ntmps59
  go_wp2
  go_loop [1] (fun i => ∃ q : Nat, q < n ∧ i = .int .i64 q ∧ Hid (fol l q = fol l p)) (fun i => rk (intOf i).toNat)
  case atStart => exact ⟨p, hp, rfl, rfl⟩
  case round =>
    obtain ⟨q, hq, rfl, hres⟩ := hrel
    have hb := hbound_any A n cap l q w h hn hq
    obtain ⟨c, hc⟩ := h.get hq
    obtain ⟨b, off, rfl, hbb, hwf, h0, h1, h2⟩ := h.at_ hc
    have hs := sAt_get hc
    have Hs := Lib.hid hs
    clear hs hc
    cases ho : onB l q
    · have hb0 : bndB l q = false := by rw [on_bnd] at ho; simp at ho; exact ho.1
      have hk : (c.kind == 3) = false := by have := Hs.out; rw [on_bnd] at ho; simp at ho; rw [this] at ho; simpa using ho.2
      rw [hb0] at hb
      have Hb := Lib.hid hb
      have Ho := Lib.hid ho
      clear hb0 ho hb
      go_wp2_with (first | (go_at_call 43; go_must (refine Hb.out.mono ?_); rintro e w1 ⟨rfl, rfl⟩))
      go_ret
      exact ⟨ret_int (by rw [← hres.out, fol_here Ho.out]), rfl⟩
    · have hnx := nx_lt Hg.out.shp ho
      have hlt := Hr2.out q _ hnx (by rw [leads_on ho]; simp)
      have hst := Hg.out.fol_step ho
      have hnn : 0 ≤ c.n := by
        have h1 := shp_at Hg.out.shp (on_lt ho)
        have := Hs.out
        rcases on_kind ho with ⟨k, _⟩ | k
        · have h2 := ok_ref h1 k; rw [this] at h2; omega
        · have h2 := ok_ptr h1 k; rw [this] at h2; omega
      have hnx2 : nx l q = c.n.toNat := by unfold nx; rw [Hs.out]
      obtain ⟨m, hm⟩ : ∃ m : Nat, c.n = m := ⟨c.n.toNat, by omega⟩
      rw [hm] at h2 hnx2
      simp at hnx2
      rw [hnx2] at hnx hlt hst
      have hmn : m < n := by have := Hl.out; omega
      have Hst := Lib.hid hst
      cases hb0 : bndB l q
      · have hk : (c.kind == 3) = true := by have := Hs.out; rw [on_bnd, hb0] at ho; simp at ho; rw [this] at ho; simpa using ho
        rw [hb0] at hb
        have Hb := Lib.hid hb
        clear hb0 ho hb hm hnx2 hst hnx
        go_wp2_with (first | (go_at_call 43; go_must (refine Hb.out.mono ?_); rintro e w1 ⟨rfl, rfl⟩))
        go_round
        case rel => exact ⟨m, hmn, rfl, by rw [← Hst.out]; exact hres.out⟩
        case measure => simp [intOf]; omega
      · rw [hb0] at hb
        have Hb := Lib.hid hb
        clear hb0 ho hb hm hnx2 hst hnx
        go_wp2_with (first | (go_at_call 43; go_must (refine Hb.out.mono ?_); rintro e w1 ⟨rfl, rfl⟩))
        go_round
        case rel => exact ⟨m, hmn, rfl, by rw [← Hst.out]; exact hres.out⟩
        case measure => simp [intOf]; omega
end Go.Proofs.Ytlndjooddkjnoaa

/- The walks of the heap's small functions: where a slot leads. -/
namespace Go.Proofs.Ytlndjooddkjnoaa
open Go.RowKit

def ints (l : List Nat) : List Int := l.map fun q : Nat => (q : Int)
theorem ints_wf {l : List Nat} (h : ∀ q ∈ l, q < 1000000) : ∀ x ∈ ints l, i64 x := by
  intro x hx
  obtain ⟨q, hq, rfl⟩ := List.mem_map.1 hx
  have := h q hq
  exact ⟨by omega, by omega⟩
theorem ints_range_succ (p k : Nat) : ints ((List.range (k + 1)).map fun i => p + 1 + i) = ints ((List.range k).map fun i => p + 1 + i) ++ [((p + 1 + k : Nat) : Int)] := by
  simp [ints, List.range_succ]

/-- a new row -/
def RetIN (w : World) (ns : List Int) (e : Ending) (w' : World) : Prop := ∃ A n cap, e = .returned (.slice A n cap) ∧ IsI w' A n cap ns ∧ (∀ a, A = some a → w.heap.size ≤ a.block) ∧ Below w.heap.size w w'
theorem RetIN.i {w : World} {ns : List Int} {e : Ending} {w' : World} (h : RetIN w ns e w') : RetI w ns e w' := by
  obtain ⟨A, n, c, h1, h2, h3, h4⟩ := h
  exact ⟨A, n, c, h1, h2, h4⟩
set_option maxHeartbeats 2000000 in
theorem hleadsN_any (A : Option Addr) (n cap : Nat) (l : List C) (p : Nat) (w : World) (h : IsC w A n cap l) (hs : shpB l = true) (hn : n ≤ 100000) (hp : p < n) :
    Calls Try.prog 46 #[.slice A n cap, .int .i64 p] w (RetIN w (ints (leads l p))) := by
  have hl := h.len
  have hok := shp_at hs (p := p) (by omega)
  have hll : ∀ q ∈ leads l p, q < 1000000 := fun q hq => by have := leads_lt hs hq; omega
  have hwf := ints_wf hll
  have Hwf := Lib.hid hwf
  clear hll hl hwf
  obtain ⟨c, hc⟩ := h.get hp
  have hbo := hbound_any A n cap l p
  have hC := h
  obtain ⟨b, off, rfl, hbb, hwc, h0, h1, h2⟩ := h.at_ hc
  have hs := sAt_get hc
  rw [hs] at hok
  have Hs := Lib.hid hs
  have HC := Lib.hid hC
  clear hs hc h hC
  by_cases k4 : c.kind = 4
  · have ht := ok_top hok k4
    have hle := leads_top (l := l) (p := p) (by rw [Hs.out]; exact k4)
    rw [Hs.out] at hle
    obtain ⟨a, ha⟩ : ∃ a : Nat, c.n = a := ⟨c.n.toNat, by omega⟩
    have ha6 : a ≤ 6 := by omega
    rw [ha] at h2 hle
    simp only [Int.toNat_natCast] at hle
    rw [hle] at Hwf ⊢
    have hb0 : bndB l p = false := by simp [bndB, Hs.out, k4]
    rw [hb0] at hbo
    have hk3 : (c.kind == 3) = false := by simp [k4]
    have hk4 : (c.kind == 4) = true := by simp [k4]
    have Hbo := Lib.hid hbo
    clear hb0 hbo k4 ht hle ha hok
    go_enter Try.func46, Try.ntmps46
    go_wp2_with (first | (go_at_call 43; go_must (refine (Hbo.out _ (HC.out.below ((Below.refl _ _).alloc (Nat.le_refl _) _)) (by omega) (by omega)).mono ?_); rintro e w1 ⟨rfl, rfl⟩))
    go_loopw [5, 30] (fun o i wr => ∃ (k c' : Nat) (Ao : Option Addr), k ≤ a ∧ i = .int .i64 k ∧ o = .slice Ao k c' ∧ wr.ownsRow w.heap.size 3 1 (.slice Ao k c') k ((ints ((List.range k).map fun i => p + 1 + i)).map (Value.int .i64)) ∧ Below w.heap.size w wr) (fun _ i _ => a - (intOf i).toNat)
    case atStart => exact ⟨0, 0, none, Nat.zero_le _, rfl, rfl, World.ownsRow_nil _ _ _ _, (Below.refl _ _).alloc (Nat.le_refl _) _⟩
    case round =>
      obtain ⟨k, c', Ao, hk, rfl, rfl, hown, hb⟩ := hrel
      obtain ⟨hc, hf⟩ := bcell hb
      by_cases hlt : k < a
      · have hsum : IntKind.i64.wrap ((p : Int) + 1 + k) = ((p + 1 + k : Nat) : Int) := by rw [IntWalk.i64_in _ (by omega)]; omega
        go_wp2_with (first
          | (at_builtin; go_must (refine wpList_append_sl rfl (.tmp 33) (.tmp 38) 23 rfl w.heap.size 3 Try.underlying23 infoI rfl (by omega) rfl (hown.alloc _) rfl (Sl.lit _ _ [.int .i64 ((p + 1 + k : Nat) : Int)] 3 1 1 (by simp) rfl (by simp [maxLen])) (one1 rfl) (by omega) (by omega) (by have := hb.size; simp; omega) ?_); intro A' cap' w1 hown1 hb1 _ _))
        have hb2 : Below w.heap.size w w1 := Below.trans (by repeat (first | assumption | exact Below.refl _ _ | refine Below.drew ?_ | refine below_drewN ?_ _ | refine Below.alloc ?_ ?_ _ | refine Below.setCell ?_ ?_ _ | (apply Below.size; assumption) | (simp; done) | (simp; omega) | (have hz := hb.size; simp; omega) | (have hz := hb.size; omega) | omega)) hb1
        go_roundw
        case rel => exact ⟨k + 1, cap', A', by omega, by go_num, rfl, by rw [ints_range_succ, List.map_append]; exact hown1, hb2⟩
        case measure => simp [intOf]; omega
      · have hka : k = a := by omega
        subst hka
        have hres : IsI wr Ao k c' (ints ((List.range k).map fun i => p + 1 + i)) := ⟨Sl.own hown (by omega), Hwf.out⟩
        go_wp2
        go_ret
        exact ⟨_, _, _, rfl, hres, fun a ha => (Own0.lt hown a ha).1, hb⟩
  · have hk4 : (c.kind == 4) = false := by simp [k4]
    cases ho : onB l p
    · have hb0 : bndB l p = false := by rw [on_bnd] at ho; simp at ho; exact ho.1
      have hk : (c.kind == 3) = false := by have := Hs.out; rw [on_bnd] at ho; simp at ho; rw [this] at ho; simpa using ho.2
      have hle := leads_no (l := l) (p := p) ho (by rw [Hs.out]; exact k4)
      rw [hle]
      rw [hb0] at hbo
      have Hbo := Lib.hid hbo
      clear hb0 hbo k4 hle hok ho
      go_enter Try.func46, Try.ntmps46
      go_wp2_with (first | (go_at_call 43; go_must (refine (Hbo.out _ (HC.out.below ((Below.refl _ _).alloc (Nat.le_refl _) _)) (by omega) (by omega)).mono ?_); rintro e w1 ⟨rfl, rfl⟩))
      go_ret
      exact ⟨_, _, _, rfl, IsI.nil _ none 0 (by simp [maxLen]), by simp, (Below.refl _ _).alloc (Nat.le_refl _) _⟩
    · have hle := leads_on ho
      have hnn : 0 ≤ c.n := by
        rcases on_kind ho with ⟨k, _⟩ | k
        · have h2 := ok_ref hok (by rw [← Hs.out]; exact k); omega
        · have h2 := ok_ptr hok (by rw [← Hs.out]; exact k); omega
      have hnx2 : nx l p = c.n.toNat := by unfold nx; rw [Hs.out]
      obtain ⟨m, hm⟩ : ∃ m : Nat, c.n = m := ⟨c.n.toNat, by omega⟩
      rw [hm] at h2 hnx2
      simp at hnx2
      rw [hle, hnx2] at Hwf
      rw [hle, hnx2]
      cases hb0 : bndB l p
      · have hk : (c.kind == 3) = true := by have := Hs.out; rw [on_bnd, hb0] at ho; simp at ho; rw [this] at ho; simpa using ho
        rw [hb0] at hbo
        have Hbo := Lib.hid hbo
        clear hb0 hbo k4 hle hok ho hm hnx2 hnn
        go_enter Try.func46, Try.ntmps46
        go_wp2_with (first
          | (go_at_call 43; go_must (refine (Hbo.out _ (HC.out.below ((Below.refl _ _).alloc (Nat.le_refl _) _)) (by omega) (by omega)).mono ?_); rintro e w1 ⟨rfl, rfl⟩)
          | (at_builtin; go_must (refine wpList_append_sl rfl (.tmp 19) (.tmp 22) 23 rfl w.heap.size 3 Try.underlying23 infoI rfl (by omega) rfl (World.ownsRow_nil _ _ _ _) rfl (Sl.lit _ _ [.int .i64 (m : Int)] 3 1 1 (by simp) rfl (by simp [maxLen])) (one1 rfl) (by omega) (by omega) (by simp; omega) ?_); intro A' cap' w1 hown1 hb1 _ _))
        go_ret
        exact ⟨_, _, _, rfl, ⟨Sl.own hown1 (by omega), Hwf.out⟩, fun a ha => (Own0.lt hown1 a ha).1, Below.trans (((Below.refl _ _).alloc (Nat.le_refl _) _).alloc (by simp) _) hb1⟩
      · have hk : (c.kind == 3) = false := by
          have hb1 := hb0
          unfold bndB at hb1
          rw [Hs.out] at hb1
          simp at hb1
          simp [hb1.1]
        rw [hb0] at hbo
        have Hbo := Lib.hid hbo
        clear hb0 hbo k4 hle hok ho hm hnx2 hnn
        go_enter Try.func46, Try.ntmps46
        go_wp2_with (first
          | (go_at_call 43; go_must (refine (Hbo.out _ (HC.out.below ((Below.refl _ _).alloc (Nat.le_refl _) _)) (by omega) (by omega)).mono ?_); rintro e w1 ⟨rfl, rfl⟩)
          | (at_builtin; go_must (refine wpList_append_sl rfl (.tmp 19) (.tmp 22) 23 rfl w.heap.size 3 Try.underlying23 infoI rfl (by omega) rfl (World.ownsRow_nil _ _ _ _) rfl (Sl.lit _ _ [.int .i64 (m : Int)] 3 1 1 (by simp) rfl (by simp [maxLen])) (one1 rfl) (by omega) (by omega) (by simp; omega) ?_); intro A' cap' w1 hown1 hb1 _ _))
        go_ret
        exact ⟨_, _, _, rfl, ⟨Sl.own hown1 (by omega), Hwf.out⟩, fun a ha => (Own0.lt hown1 a ha).1, Below.trans (((Below.refl _ _).alloc (Nat.le_refl _) _).alloc (by simp) _) hb1⟩
theorem hleads_any (A : Option Addr) (n cap : Nat) (l : List C) (p : Nat) (w : World) (h : IsC w A n cap l) (hs : shpB l = true) (hn : n ≤ 100000) (hp : p < n) :
    Calls Try.prog 46 #[.slice A n cap, .int .i64 p] w (RetI w (ints (leads l p))) := (hleadsN_any A n cap l p w h hs hn hp).mono fun _ _ h => h.i
end Go.Proofs.Ytlndjooddkjnoaa

/- Right heaps, in plain words. No program in sight. -/
namespace Go.Proofs.Ytlndjooddkjnoaa
open Go.RowKit

structure Hp where
  cells : List C
  trail : List Int
  room : Int
open Classical in
noncomputable def roundB (l : List C) : Bool := decide (Round l)
theorem roundB_yes {l : List C} (h : Round l) : roundB l = true := by simp [roundB, h]
theorem roundB_no {l : List C} (h : ∀ p, p < l.length → ∀ q ∈ leads l p, ¬ Path l q p) : roundB l = false := by
  have : ¬ Round l := by
    rintro ⟨p, q, hq, hp⟩
    have hlt : p < l.length := by
      by_cases hp : p < l.length
      · exact hp
      · rw [leads_past (by omega)] at hq; cases hq
    exact h p hlt q hq hp
  simp [roundB, this]
theorem roundB_ac {l : List C} (hs : shpB l = true) : roundB l = false ↔ Ac l := by
  rw [round_ac hs]; simp [roundB]
/-- is a number the place of a bound variable? -/
def bIn (l : List C) (x : Int) : Bool := (decide (0 ≤ x) && decide (x < (l.length : Int))) && bndB l x.toNat
def trOne (l : List C) (tr : List Int) (i : Nat) (x : Int) : Bool := bIn l x && !(inI (tr.take i) x)
def trOkB (l : List C) (tr : List Int) : Bool := (List.range tr.length).all fun i => trOne l tr i (tr.getD i 0)
theorem trOkB_mk {l : List C} {tr : List Int} (h : ∀ i x, tr[i]? = some x → trOne l tr i x = true) : trOkB l tr = true := by
  unfold trOkB
  rw [List.all_eq_true]
  intro i hi
  have hi' : i < tr.length := by simpa using hi
  have : tr.getD i 0 = tr[i] := by simp [List.getD, hi']
  rw [this]
  exact h i _ (List.getElem?_eq_getElem hi')
theorem trOkB_at {l : List C} {tr : List Int} (h : trOkB l tr = true) {i : Nat} {x : Int} (hx : tr[i]? = some x) : trOne l tr i x = true := by
  unfold trOkB at h
  rw [List.all_eq_true] at h
  have hi := (List.getElem?_eq_some_iff.1 hx).1
  have := h i (by simpa using hi)
  have e : tr.getD i 0 = x := by simp [List.getD, hx]
  rwa [e] at this
theorem trOkB_no {l : List C} {tr : List Int} {i : Nat} {x : Int} (hx : tr[i]? = some x) (h : trOne l tr i x = false) : trOkB l tr = false := by
  cases hh : trOkB l tr
  · rfl
  · rw [trOkB_at hh hx] at h; cases h
theorem bIn_iff {l : List C} {x : Int} : bIn l x = true ↔ ∃ p : Nat, x = (p : Int) ∧ p < l.length ∧ (sAt l p).kind = 1 ∧ (sAt l p).n ≠ (p : Int) := by
  unfold bIn bndB
  simp only [Bool.and_eq_true, decide_eq_true_eq, beq_iff_eq, Bool.not_eq_true', beq_eq_false_iff_ne, ne_eq]
  constructor
  · rintro ⟨⟨h1, h2⟩, h3, h4⟩
    exact ⟨x.toNat, by omega, by omega, h3, h4⟩
  · rintro ⟨p, rfl, h1, h2, h3⟩
    exact ⟨⟨by omega, by omega⟩, by simpa using h2, by simpa using h3⟩
theorem trOkB_iff {l : List C} {tr : List Int} : trOkB l tr = true ↔ TrOk l tr := by
  constructor
  · intro h
    refine ⟨fun t ht => ?_, ?_⟩
    · obtain ⟨i, hi, he⟩ := List.getElem_of_mem ht
      have := trOkB_at h (i := i) (x := t) (by rw [List.getElem?_eq_getElem hi, he])
      unfold trOne at this
      rw [Bool.and_eq_true] at this
      exact bIn_iff.1 this.1
    · rw [List.nodup_iff_pairwise_ne, List.pairwise_iff_getElem]
      intro i j hi hj hij he
      have := trOkB_at h (i := j) (x := tr[j]) (List.getElem?_eq_getElem hj)
      unfold trOne at this
      rw [Bool.and_eq_true] at this
      have h2 := this.2
      have : inI (tr.take j) tr[j] = true := by
        rw [inI_iff, ← he]
        exact List.mem_of_getElem? (i := i) (by rw [List.getElem?_take, if_pos hij, List.getElem?_eq_getElem hi])
      rw [this] at h2
      cases h2
  · intro h
    refine trOkB_mk fun i x hx => ?_
    unfold trOne
    rw [Bool.and_eq_true]
    refine ⟨bIn_iff.2 (h.at_ x (List.mem_of_getElem? hx)), ?_⟩
    cases hin : inI (tr.take i) x
    · rfl
    · rw [inI_iff] at hin
      obtain ⟨j, hj, he⟩ := List.getElem_of_mem hin
      have hj1 : j < i := by simp at hj; omega
      have hnd := h.nd
      rw [List.nodup_iff_pairwise_ne, List.pairwise_iff_getElem] at hnd
      obtain ⟨hi, hxi⟩ := List.getElem?_eq_some_iff.1 hx
      have := hnd j i (by omega) hi hj1
      rw [hxi, ← he] at this
      simp at this
noncomputable def rightH (h : Hp) : Bool := ((decide (1 ≤ h.room) && decide (h.room ≤ 4096)) && decide ((h.cells.length : Int) ≤ h.room)) && (shpB h.cells && (trOkB h.cells h.trail && !(roundB h.cells)))
/-- a right heap -/
structure OkH (h : Hp) : Prop where
  room1 : 1 ≤ h.room
  room2 : h.room ≤ 4096
  fit : (h.cells.length : Int) ≤ h.room
  good : Good h.cells
  tr : TrOk h.cells h.trail
theorem rightH_iff {h : Hp} : rightH h = true ↔ OkH h := by
  unfold rightH
  simp only [Bool.and_eq_true, decide_eq_true_eq, Bool.not_eq_true']
  constructor
  · rintro ⟨⟨⟨h1, h2⟩, h3⟩, h4, h5, h6⟩
    exact ⟨h1, h2, h3, ⟨h4, (roundB_ac h4).1 h6⟩, trOkB_iff.1 h5⟩
  · rintro ⟨h1, h2, h3, ⟨h4, h5⟩, h6⟩
    exact ⟨⟨⟨h1, h2⟩, h3⟩, h4, trOkB_iff.2 h6, (roundB_ac h4).2 h5⟩
end Go.Proofs.Ytlndjooddkjnoaa
