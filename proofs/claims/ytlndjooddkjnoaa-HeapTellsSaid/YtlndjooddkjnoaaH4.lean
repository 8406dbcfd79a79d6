/- The walk of the document's Leads. -/
import Derived.Test.YtlndjooddkjnoaaH3
set_option linter.unusedVariables false
set_option linter.unusedSimpArgs false
namespace Go.Proofs.Ytlndjooddkjnoaa
open Go.RowKit

theorem own_lit0 {Y : World} {e : TypeId} {size base g : Nat} (hg : Y.heap.size = g) (h : base ≤ g) : (Y.alloc (.cells #[] e)).ownsRow base e size (.slice (some ⟨g, 0, none⟩) 0 0) 0 [] := by
  subst hg
  exact own_lower (World.ownsRow_lit Y #[] 0 (Nat.le_refl _) (by simp [maxLen]) (by simp)) h
set_option maxRecDepth 100000 in
set_option maxHeartbeats 2000000 in
theorem qLeads_any (A B : Option Addr) (n c m d : Nat) (r : Int) (l : List C) (p : Nat) (w : World) (h : IsC w A n c l) (hs : shpB l = true) (hn : n ≤ 100000) (hp : p < n) :
    Calls Try.prog 82 #[.agg #[.slice A n c, .slice B m d, .int .i64 r], .int .i64 p] w (RetI w (ints (leads l p))) := by
  have hl := h.len
  have hok := shp_at hs (p := p) (by omega)
  have hll : ∀ q ∈ leads l p, q < 1000000 := fun q hq => by have := leads_lt hs hq; omega
  have hwf := ints_wf hll
  have Hwf := Lib.hid hwf
  clear hll hl hwf
  obtain ⟨x, hc⟩ := h.get hp
  have hC := h
  obtain ⟨b, off, rfl, hbb, hwc, h0, h1, h2⟩ := h.at_ hc
  have hs := sAt_get hc
  rw [hs] at hok
  have Hs := Lib.hid hs
  have HC := Lib.hid hC
  clear hs hc h hC
  by_cases k4 : x.kind = 4
  · have ht := ok_top hok k4
    have hle := leads_top (l := l) (p := p) (by rw [Hs.out]; exact k4)
    rw [Hs.out] at hle
    obtain ⟨a, ha⟩ : ∃ a : Nat, x.n = a := ⟨x.n.toNat, by omega⟩
    have ha6 : a ≤ 6 := by omega
    rw [ha] at h2 hle
    simp only [Int.toNat_natCast] at hle
    rw [hle] at Hwf ⊢
    have hk3 : (x.kind == 3) = false := by simp [k4]
    have hk1 : (x.kind == 1) = false := by simp [k4]
    have hk4 : (x.kind == 4) = true := by simp [k4]
    clear k4 ht hle ha hok
    go_enter Try.func82, Try.ntmps82
    go_wp2
    go_loopw [6, 7] (fun o i wr => ∃ (k c' : Nat) (Ao : Option Addr), k ≤ a ∧ i = .int .i64 (k + 1) ∧ o = .slice Ao k c' ∧ wr.ownsRow w.heap.size 3 1 (.slice Ao k c') k ((ints ((List.range k).map fun i => p + 1 + i)).map (Value.int .i64)) ∧ Below w.heap.size w wr ∧ wr.heap[w.heap.size + 2]? = some (.cells #[.int .i64 x.kind, .string x.name, .int .i64 a] 68 (0, 0))) (fun _ i _ => a + 1 - (intOf i).toNat)
    case atStart => exact ⟨0, 0, _, Nat.zero_le _, rfl, rfl, (own_lit0 (by first | omega | (simp; done) | (simp; omega)) (by first | omega | (simp; done) | (simp; omega))).alloc _, (((Below.refl _ _).alloc (Nat.le_refl _) _).alloc (by first | omega | (simp; done) | (simp; omega)) _).alloc (by first | omega | (simp; done) | (simp; omega)) _, alloc_at (by first | omega | (simp; done) | (simp; omega))⟩
    case round =>
      obtain ⟨k, c', Ao, hk, rfl, rfl, hown, hb, hx⟩ := hrel
      have hne := own_ne hown hx (by intro cur he; simp at he)
      obtain ⟨hc, hf⟩ := bcell hb
      obtain ⟨y0, y1, y2, yl⟩ := open3 hx
      have Hx := Lib.hid hx
      have Hne := Lib.hid hne
      clear hx hne
      by_cases hlt : k < a
      · have hlt' : decide ((k : Int) + 1 ≤ (a : Int)) = true := by simp; omega
        have hsum : IntKind.i64.wrap ((p : Int) + (k + 1)) = ((p + 1 + k : Nat) : Int) := by rw [IntWalk.i64_in _ (by omega)]; omega
        go_wp2_with (first
          | (at_builtin; go_must (refine wpList_append_own1 rfl (.tmp 44) (.tmp 48) 23 rfl w.heap.size 3 Try.underlying23 infoI rfl (by omega) rfl (.inr (hown.alloc _)) rfl (Sl.lit _ _ [.int .i64 ((p + 1 + k : Nat) : Int)] 3 1 1 (by first | rfl | simp) rfl (by simp [maxLen])) (one1 rfl) (by omega) (by omega) (by omega) (by have := hb.size; first | omega | (simp; done) | (simp; omega)) ?_); intro A' cap' w1 hown1 hb1 hap))
        have hb2 : Below w.heap.size w w1 := Below.trans (by repeat (first | assumption | exact Below.refl _ _ | refine Below.drew ?_ | refine below_drewN ?_ _ | refine Below.alloc ?_ ?_ _ | refine Below.setCell ?_ ?_ _ | (apply Below.size; assumption) | (simp; done) | (simp; omega) | (have hz := hb.size; simp; omega) | (have hz := hb.size; omega) | omega)) hb1
        have hx2 := (hap.old _ (by first | omega | (simp; done) | (simp; omega)) Hne.out).trans ((alloc_past yl).trans Hx.out)
        go_roundw
        case rel => exact ⟨k + 1, cap', A', by omega, by go_num, rfl, by rw [ints_range_succ, List.map_append]; exact hown1, hb2, hx2⟩
        case measure => simp [intOf]; omega
      · have hka : k = a := by omega
        subst hka
        have hres : IsI wr Ao k c' (ints ((List.range k).map fun i => p + 1 + i)) := ⟨Sl.own hown (by omega), Hwf.out⟩
        have hlt' : decide ((k : Int) + 1 ≤ (k : Int)) = false := by simp; omega
        go_wp2
        go_ret
        exact ⟨_, _, _, rfl, hres, hb⟩
  · have hk4 : (x.kind == 4) = false := by simp [k4]
    cases ho : onB l p
    · have hb0 : bndB l p = false := by rw [on_bnd] at ho; simp at ho; exact ho.1
      have hk : (x.kind == 3) = false := by have := Hs.out; rw [on_bnd] at ho; simp at ho; rw [this] at ho; simpa using ho.2
      have hle := leads_no (l := l) (p := p) ho (by rw [Hs.out]; exact k4)
      rw [hle]
      have hb1 := hb0
      unfold bndB at hb1
      rw [Hs.out] at hb1
      by_cases k1 : x.kind = 1
      · have hk1 : (x.kind == 1) = true := by simp [k1]
        rw [hk1] at hb1
        simp at hb1
        have he : (x.n == (p : Int)) = true := by simp [hb1]
        have he2 : (x.n != (p : Int)) = false := by simp [hb1]
        clear hb0 k4 hle hok ho k1 hb1
        go_enter Try.func82, Try.ntmps82
        go_wp2
        go_loopw [6, 7] (fun o i wr => o = .slice (some ⟨w.heap.size + 1, 0, none⟩) 0 0 ∧ i = .int .i64 1 ∧ Below w.heap.size w wr ∧ wr.heap[w.heap.size + 2]? = some (.cells #[.int .i64 x.kind, .string x.name, .int .i64 x.n] 68 (0, 0))) (fun _ i _ => 0)
        case atStart => exact ⟨by simp, rfl, (((Below.refl _ _).alloc (Nat.le_refl _) _).alloc (by first | omega | (simp; done) | (simp; omega)) _).alloc (by first | omega | (simp; done) | (simp; omega)) _, alloc_at (by first | omega | (simp; done) | (simp; omega))⟩
        case round =>
          obtain ⟨rfl, rfl, hb, hx⟩ := hrel
          obtain ⟨y0, y1, y2, yl⟩ := open3 hx
          clear hx
          go_wp2
          go_ret
          exact ⟨_, _, _, rfl, IsI.nil _ _ 0 (by simp [maxLen]), hb⟩
      · have hk1 : (x.kind == 1) = false := by simp [k1]
        clear hb0 k4 hle hok ho k1 hb1
        go_enter Try.func82, Try.ntmps82
        go_wp2
        go_loopw [6, 7] (fun o i wr => o = .slice (some ⟨w.heap.size + 1, 0, none⟩) 0 0 ∧ i = .int .i64 1 ∧ Below w.heap.size w wr ∧ wr.heap[w.heap.size + 2]? = some (.cells #[.int .i64 x.kind, .string x.name, .int .i64 x.n] 68 (0, 0))) (fun _ i _ => 0)
        case atStart => exact ⟨by simp, rfl, (((Below.refl _ _).alloc (Nat.le_refl _) _).alloc (by first | omega | (simp; done) | (simp; omega)) _).alloc (by first | omega | (simp; done) | (simp; omega)) _, alloc_at (by first | omega | (simp; done) | (simp; omega))⟩
        case round =>
          obtain ⟨rfl, rfl, hb, hx⟩ := hrel
          obtain ⟨y0, y1, y2, yl⟩ := open3 hx
          clear hx
          go_wp2
          go_ret
          exact ⟨_, _, _, rfl, IsI.nil _ _ 0 (by simp [maxLen]), hb⟩
    · have hle := leads_on ho
      have hnn : 0 ≤ x.n := by
        rcases on_kind ho with ⟨k, _⟩ | k
        · have h2 := ok_ref hok (by rw [← Hs.out]; exact k); omega
        · have h2 := ok_ptr hok (by rw [← Hs.out]; exact k); omega
      have hnx2 : nx l p = x.n.toNat := by unfold nx; rw [Hs.out]
      obtain ⟨j, hm⟩ : ∃ j : Nat, x.n = j := ⟨x.n.toNat, by omega⟩
      rw [hle, hnx2, hm] at Hwf
      rw [hle, hnx2, hm]
      simp only [Int.toNat_natCast] at Hwf ⊢
      cases hb0 : bndB l p
      · have hk : (x.kind == 3) = true := by have := Hs.out; rw [on_bnd, hb0] at ho; simp at ho; rw [this] at ho; simpa using ho
        rw [hm] at h2
        clear hb0 k4 hle hok ho hm hnx2 hnn
        go_enter Try.func82, Try.ntmps82
        go_wp2_with (first
          | (at_builtin; go_must (refine wpList_append_own1 rfl (.tmp 28) (.tmp 31) 23 rfl w.heap.size 3 Try.underlying23 infoI rfl (by omega) rfl (.inl ⟨_, rfl, rfl, rfl⟩) rfl (Sl.lit _ _ [.int .i64 (j : Int)] 3 1 1 (by first | rfl | simp) rfl (by simp [maxLen])) (one1 rfl) (by omega) (by omega) (by omega) (by first | omega | (simp; done) | (simp; omega)) ?_); intro A' cap' w1 hown1 hb1 hap))
        have hb2 : Below w.heap.size w w1 := Below.trans ((((Below.refl _ _).alloc (Nat.le_refl _) _).alloc (by first | omega | (simp; done) | (simp; omega)) _).alloc (by first | omega | (simp; done) | (simp; omega)) _ |>.alloc (by first | omega | (simp; done) | (simp; omega)) _) hb1
        have hx2 := (hap.old (w.heap.size + 2) (by first | omega | (simp; done) | (simp; omega)) (by intro a ha; cases ha; first | omega | (simp; done) | (simp; omega))).trans ((alloc_past (by first | omega | (simp; done) | (simp; omega))).trans (alloc_at (by first | omega | (simp; done) | (simp; omega))))
        obtain ⟨y0, y1, y2, yl⟩ := open3 hx2
        have Hx2 := Lib.hid hx2
        clear hap hx2
        go_loopw [6, 7] (fun o i wr => o = .slice A' 1 cap' ∧ i = .int .i64 1 ∧ wr = w1) (fun _ i _ => 0)
        case atStart => exact ⟨rfl, rfl, rfl⟩
        case round =>
          obtain ⟨rfl, rfl, rfl⟩ := hrel
          go_wp2
          go_ret
          exact ⟨_, _, _, rfl, ⟨Sl.own hown1 (by omega), Hwf.out⟩, hb2⟩
      · have hb1 := hb0
        unfold bndB at hb1
        rw [Hs.out] at hb1
        simp at hb1
        obtain ⟨hb1, hb2⟩ := hb1
        have hk : (x.kind == 3) = false := by simp [hb1]
        have hk1 : (x.kind == 1) = true := by simp [hb1]
        have he : ((j : Int) == (p : Int)) = false := by simp; omega
        have he2 : ((j : Int) != (p : Int)) = true := by simp; omega
        rw [hm] at h2
        clear hb0 k4 hle hok ho hm hnx2 hnn hb1 hb2
        go_enter Try.func82, Try.ntmps82
        go_wp2_with (first
          | (at_builtin; go_must (refine wpList_append_own1 rfl (.tmp 28) (.tmp 31) 23 rfl w.heap.size 3 Try.underlying23 infoI rfl (by omega) rfl (.inl ⟨_, rfl, rfl, rfl⟩) rfl (Sl.lit _ _ [.int .i64 (j : Int)] 3 1 1 (by first | rfl | simp) rfl (by simp [maxLen])) (one1 rfl) (by omega) (by omega) (by omega) (by first | omega | (simp; done) | (simp; omega)) ?_); intro A' cap' w1 hown1 hb1 hap))
        have hb2 : Below w.heap.size w w1 := Below.trans ((((Below.refl _ _).alloc (Nat.le_refl _) _).alloc (by first | omega | (simp; done) | (simp; omega)) _).alloc (by first | omega | (simp; done) | (simp; omega)) _ |>.alloc (by first | omega | (simp; done) | (simp; omega)) _) hb1
        have hx2 := (hap.old (w.heap.size + 2) (by first | omega | (simp; done) | (simp; omega)) (by intro a ha; cases ha; first | omega | (simp; done) | (simp; omega))).trans ((alloc_past (by first | omega | (simp; done) | (simp; omega))).trans (alloc_at (by first | omega | (simp; done) | (simp; omega))))
        obtain ⟨y0, y1, y2, yl⟩ := open3 hx2
        have Hx2 := Lib.hid hx2
        clear hap hx2
        go_loopw [6, 7] (fun o i wr => o = .slice A' 1 cap' ∧ i = .int .i64 1 ∧ wr = w1) (fun _ i _ => 0)
        case atStart => exact ⟨rfl, rfl, rfl⟩
        case round =>
          obtain ⟨rfl, rfl, rfl⟩ := hrel
          go_wp2
          go_ret
          exact ⟨_, _, _, rfl, ⟨Sl.own hown1 (by omega), Hwf.out⟩, hb2⟩
end Go.Proofs.Ytlndjooddkjnoaa
