/- The walk of the law TermEnds. -/
import Derived.Deep.RegionHeld3
import Derived.Test.YtnhfnpjfahmmpaaLaws1
import Derived.Test.YtnhfnpjfahmmpaaPlain6
import Derived.Test.YtnhfnpjfahmmpaaAppS
namespace Go.Proofs.Ytnhfnpjfahmmpaa
open Go.RowKit
set_option maxRecDepth 100000 in
set_option maxHeartbeats 4000000 in
theorem termEnds_walk (A : Option Addr) (n cap : Nat) (t : List C) (at_ : Int) (c : C) (w : World) (h : IsC w A n cap t) (hwa : (Lit.int .u8 at_).wf = true) (hwc : c.wf) :
    Calls Try.prog 6 #[.slice A n cap, .int .u8 at_, c.val] w (RetV w (.bool true)) := by
  have hm1 : n ≤ maxLen := Nat.le_trans h.sl.hcap h.sl.hmax
  have ha0 : 0 ≤ at_ := by simp [Lit.wf, IntKind.min, IntKind.max, IntKind.signed, IntKind.bits] at hwa; omega
  have ha1 : at_ ≤ 255 := by simp [Lit.wf, IntKind.min, IntKind.max, IntKind.signed, IntKind.bits] at hwa; omega
  clear hwa
  have hb : Below w.heap.size w (w.alloc (.cells #[.int .i64 c.kind, .string c.name, .int .i64 c.n] 40)) := (Below.refl _ _).alloc (Nat.le_refl _) _
  have hbx : Below (w.heap.size + 1) (w.alloc (.cells #[.int .i64 c.kind, .string c.name, .int .i64 c.n] 40)) (w.alloc (.cells #[.int .i64 c.kind, .string c.name, .int .i64 c.n] 40)) := Below.refl _ _
  unfold C.val
  by_cases g1 : 300 < n
  · have G1 := Lib.hid (decide_eq_true g1)
    go_enter Try.func6, Try.ntmps6
    go_wp2_with (first | (go_at_call 12; go_must (refine (head_any _).mono ?_); rintro e w1 ⟨rfl, hbn⟩; replace hbx := hbx.trans (hbn.mono (by first | (simp; done) | (simpa using hbx.size))); replace hb := hb.trans (hbn.mono hb.size); clear hbn) | (go_at_call 13; go_must (refine Calls.mono (great_any _ _ _ _ (by first | assumption | exact h.below hb)) ?_); rw [G1.out]; rintro e w1 ⟨rfl, rfl⟩))
    go_ret
    exact ⟨rfl, hb⟩
  have G1 := Lib.hid (decide_eq_false g1)
  cases r1 : rightB t
  · have R1 := Lib.hid r1
    clear r1
    go_enter Try.func6, Try.ntmps6
    go_wp2_with (first | (go_at_call 12; go_must (refine (head_any _).mono ?_); rintro e w1 ⟨rfl, hbn⟩; replace hbx := hbx.trans (hbn.mono (by first | (simp; done) | (simpa using hbx.size))); replace hb := hb.trans (hbn.mono hb.size); clear hbn) | (go_at_call 13; go_must (refine Calls.mono (great_any _ _ _ _ (by first | assumption | exact h.below hb)) ?_); rw [G1.out]; rintro e w1 ⟨rfl, rfl⟩) | (go_at_call 14; go_must (refine Calls.mono (tRight_any _ _ _ _ _ (h.below hb) (by omega)) ?_); rw [R1.out]; rintro e w1 ⟨rfl, hbn⟩; replace hbx := hbx.trans (hbn.mono (by first | (simp; done) | (simpa using hbx.size))); replace hb := hb.trans (hbn.mono hb.size); clear hbn))
    go_ret
    exact ⟨rfl, hb⟩
  have R1 := Lib.hid r1
  have hl := h.len
  have hl1 := skip_pos ((right_iff _).1 r1).1
  have hn0 : 0 < n := by omega
  obtain ⟨k, hk⟩ : ∃ k : Nat, at_.tmod n = k := ⟨(at_.tmod n).toNat, by have := Int.tmod_nonneg (n : Int) ha0; omega⟩
  have hkn : k < n := by have := Int.tmod_lt_of_pos at_ (b := (n : Int)) (by omega); omega
  have hne : ¬ (n : Int) = 0 := by omega
  have hcut := right_cut r1 (k := k) (by omega)
  have hmore := right_more r1 c
  have R2 := Lib.hid hcut
  have R3 := Lib.hid hmore
  obtain ⟨b, off, rfl, hbb, hcc⟩ := h.open_ hn0
  clear r1 hcut hmore hl hl1 hcc
  go_enter Try.func6, Try.ntmps6
  go_wp2_with (first | (go_at_call 12; go_must (refine (head_any _).mono ?_); rintro e w1 ⟨rfl, hbn⟩; replace hbx := hbx.trans (hbn.mono (by first | (simp; done) | (simpa using hbx.size))); replace hb := hb.trans (hbn.mono hb.size); clear hbn) | (go_at_call 13; go_must (refine Calls.mono (great_any _ _ _ _ (by first | assumption | exact h.below hb)) ?_); rw [G1.out]; rintro e w1 ⟨rfl, rfl⟩) | (go_at_call 14; go_must (refine Calls.mono (tRight_any _ _ _ _ _ (h.below hb) (by omega)) ?_); rw [R1.out]; rintro e w1 ⟨rfl, hbn⟩; replace hbx := hbx.trans (hbn.mono (by first | (simp; done) | (simpa using hbx.size))); replace hb := hb.trans (hbn.mono hb.size); clear hbn))
  have c0 := World.cell?_alloc_mark w #[.int .i64 c.kind, .string c.name, .int .i64 c.n] 40 (0, 0) 0
  have c1 := World.cell?_alloc_mark w #[.int .i64 c.kind, .string c.name, .int .i64 c.n] 40 (0, 0) 1
  have c2 := World.cell?_alloc_mark w #[.int .i64 c.kind, .string c.name, .int .i64 c.n] 40 (0, 0) 2
  have C0 := Lib.hid c0
  have C1 := Lib.hid c1
  have C2 := Lib.hid c2
  clear c0 c1 c2
  have k0 := (hbx.cell (p := ⟨w.heap.size, 0, none⟩) (by simp)).trans C0.out
  have k1 := (hbx.cell (p := ⟨w.heap.size, 1, none⟩) (by simp)).trans C1.out
  have k2 := (hbx.cell (p := ⟨w.heap.size, 2, none⟩) (by simp)).trans C2.out
  simp at k0 k1 k2
  have hin : IsC w1 (some ⟨b, off, none⟩) k cap (t.take k) := (h.below hb).take (by omega)
  have hk0 : (0 : Int) ≤ (k : Int) := Int.natCast_nonneg _
  have hk1 : (k : Int) ≤ (cap : Int) := by have := h.sl.hcap; omega
  have hb := hb.drew
  have hbx := hbx.drew
  have hin := hin.below ((Below.refl _ _).drew)
  go_region_held3 (fun w' => w'.cell? ⟨w.heap.size, 0, none⟩ = some (.int .i64 c.kind) ∧ w'.cell? ⟨w.heap.size, 1, none⟩ = some (.string c.name) ∧ w'.cell? ⟨w.heap.size, 2, none⟩ = some (.int .i64 c.n))
    (first
      | exact ⟨(hbx.cell (p := ⟨w.heap.size, 0, none⟩) (by simp)).trans C0.out, (hbx.cell (p := ⟨w.heap.size, 1, none⟩) (by simp)).trans C1.out, (hbx.cell (p := ⟨w.heap.size, 2, none⟩) (by simp)).trans C2.out⟩
      | go_keep)
    (first
      | (go_at_call 14; have hq := tRight_any _ _ _ _ _ hin5 (by omega); refine Calls.mono hq ?_; rw [R3.out]; clear hq; rintro e w6 ⟨rfl, hbn⟩; replace hbx := hbx.trans (hbn.mono (by first | (simp; done) | (simpa using hbx.size))); replace hb := hb.trans (hbn.mono hb.size); clear hbn)
      | (go_at_call 14; have hq := tRight_any _ _ _ _ _ hin (by omega); refine Calls.mono hq ?_; rw [R2.out]; clear hq hin; rintro e w2 ⟨rfl, hbn⟩; replace hbx := hbx.trans (hbn.mono (by first | (simp; done) | (simpa using hbx.size))); replace hb := hb.trans (hbn.mono hb.size); clear hbn)
      | (refine step_append_own1 (by rfl) (.tmp 32) (.tmp 33) 22 (by rfl) _ 40 Try.underlying22 infoC (by rfl) (by omega) (by rfl) (.inl ⟨_, rfl, rfl, rfl⟩) (by rfl) ?_ (oneC t) (by omega) (by omega) (by omega) (Nat.le_refl _) ?_; (focus (refine (h.below (w := w) ?_).sl; exact by repeat (first | exact hb | refine Below.alloc ?_ ?_ _ | (have hz := hb.size; first | omega | (simp; omega))))); intro A2 cap2 w3 hown3 hbn; have hb30 := hbn; have hown4 := own_lower (base' := w.heap.size + 1) hown3 (by have hz := hbx.size; simp at hz; first | omega | (simp; omega)); replace hbx := Below.trans (a := w.alloc (.cells #[.int .i64 c.kind, .string c.name, .int .i64 c.n] 40)) (B := w.heap.size + 1) (by repeat (first | exact hbx | refine Below.alloc ?_ ?_ _ | (have hz := hbx.size; simp at hz; first | omega | (simp; omega)))) (hbn.mono (by have hz := hbx.size; simp at hz; first | omega | (simp; omega))); replace hb := Below.trans (a := w) (B := w.heap.size) (by repeat (first | exact hb | refine Below.alloc ?_ ?_ _ | (have hz := hb.size; first | omega | (simp; omega)))) (hbn.mono (by have hz := hb.size; first | omega | (simp; omega))))
      | (refine step_append_own1 (xs := flatC t) (by rfl) (.tmp 34) (.tmp 36) 22 (by rfl) (w.heap.size + 1) 40 Try.underlying22 infoC (by rfl) (by omega) (by rfl) ?_ (by rfl) ?_ (oneC [c]) (by omega) (by omega) (by omega) ?_ ?_; (focus (first | exact .inr hown4 | exact .inr (own_below hown4 ((Below.refl _ _).alloc (Nat.le_refl _) _)) | (simp only [Nat.zero_add, List.nil_append] at hown4; first | exact .inr hown4 | exact .inr (own_below hown4 ((Below.refl _ _).alloc (Nat.le_refl _) _))))); (focus (first | exact Sl.lit _ _ [.int .i64 c.kind, .string c.name, .int .i64 c.n] 40 3 1 (by simp) rfl (by simp [maxLen]) | exact (Sl.lit _ _ [.int .i64 c.kind, .string c.name, .int .i64 c.n] 40 3 1 (by simp) rfl (by simp [maxLen])).below hb30 | exact ((Sl.lit _ _ [.int .i64 c.kind, .string c.name, .int .i64 c.n] 40 3 1 (by simp) rfl (by simp [maxLen])).below ((Below.refl _ _).alloc (Nat.le_refl _) _)).below hb30)); (focus (exact by have hz := hbx.size; simp at hz; first | omega | (simp; omega))); intro A3 cap3 w5 hown5 hbn; (try simp only [Nat.zero_add] at hown5 ⊢); have hbx0 := hbx; replace hbx := Below.trans (a := w.alloc (.cells #[.int .i64 c.kind, .string c.name, .int .i64 c.n] 40)) (B := w.heap.size + 1) (by repeat (first | exact hbx | refine Below.alloc ?_ ?_ _ | (have hz := hbx.size; simp at hz; first | omega | (simp; omega)))) (hbn); replace hb := Below.trans (a := w) (B := w.heap.size) (by repeat (first | exact hb | refine Below.alloc ?_ ?_ _ | (have hz := hb.size; first | omega | (simp; omega)))) (hbn.mono (Nat.le_succ _)); have hin5 : IsC w5 A3 (n + 1) cap3 (t ++ [c]) := ⟨(by rw [flatC_append]; exact Sl.own hown5 (by omega)), fun x hx => (List.mem_append.1 hx).elim (h.wf x) (fun hx => by simp at hx; subst hx; exact hwc)⟩)
      | fail)
  all_goals go_wp2
  all_goals go_ret
  all_goals exact ⟨ret_bool (by rfl), hb⟩
end Go.Proofs.Ytnhfnpjfahmmpaa
